/- The chapter's examples come to true: the closed call is run. -/
import Derived.Test.YtafbefpimhaopaaTt
set_option linter.unusedVariables false
set_option linter.unusedSimpArgs false
set_option linter.unnecessarySimpa false
set_option linter.unusedSectionVars false
namespace Go.Proofs.Ytafbefpimhaopaa
open Go.Ax
theorem fixed_run : bcallBy tt fns pol (bcode tt fns pol 1000) 6 [] Hp.none isTrue = true := by kernel_rfl
theorem fixed_pure : Pure Try.prog 6 [] (fun r => r = .lit (.bool true)) := btrue ttOk mixed fnsOk 1000 fixed_run
end Go.Proofs.Ytafbefpimhaopaa
