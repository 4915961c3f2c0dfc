/- The functions that BindRaw calls, each once: what is more than is gone through; the law. -/
import Derived.Test.YtafbefpimhaopaaFnsC
import Derived.Test.YtafbefpimhaopaaAyD
set_option linter.unusedVariables false
set_option linter.unusedSimpArgs false
set_option linter.unnecessarySimpa false
set_option linter.unusedSectionVars false
namespace Go.Proofs.Ytafbefpimhaopaa
open Go.Ax Go.Rw

def S5 (t : Term) (d : Int) (k : Nat) : St := St.of [(1, .lit (.int .i64 d)), (16, encTerms t.args), (17, .lit (.int .i64 (encTs t.args).length)), (18, .lit (.int .i64 k))] 27 [] 0 0
theorem great_is : ∀ (n : Nat) (d : Int) (t : Term), 0 ≤ d → 30 < d + 6 * n → Pure Try.prog 5 [encTerm t, .lit (.int .i64 d)] (fun r => r = .lit (.bool (greatB (n + 1) d t)))
  | n, d, t, h0, hd => by
    have ih : d ≤ 30 → ∀ u, Pure Try.prog 5 [encTerm u, .lit (.int .i64 (d + 6))] (fun r => r = .lit (.bool (greatB n (d + 6) u))) := by
      intro h30 u
      cases n with
      | zero => omega
      | succ n => exact great_is n (d + 6) u (by omega) (by omega)
    refine pure_of rfl ?_
    refine icalls_of ttOk Try.func5 rfl rfl rfl ?_
    have yes : greatB (n + 1) d t = true → ∃ r' : AV, Wk (.lit (.bool true)) r' ∧ r' = .lit (.bool (greatB (n + 1) d t)) := fun h => ⟨_, ⟨rfl, rfl⟩, by rw [h]⟩
    refine Br.intro (fun h1 => Br.intro (fun h2 => ?_) (fun h2 => ?_)) (fun h1 => ?_)
    · refine yes ?_
      simp [encTs_length] at h2
      simp only [greatB, Bool.or_eq_true, decide_eq_true_eq]
      exact .inl (.inr (by omega))
    · have h30 : d ≤ 30 := by simp at h1; omega
      have h6 : t.args.length ≤ 6 := by simp [encTs_length] at h2; omega
      have ih := ih h30
      refine aloop_cov (σ' := S5 t d 0) (cov_of [] rfl rfl rfl rfl (by repeat first | exact envCov.nil | refine envCov.cons rfl rfl ?_) boxCov.nil)
        (aloop_inv (S5 t d) (fun k => k ≤ t.args.length ∧ ∀ u, u ∈ t.args.take k → greatB n (d + 6) u = false) (fun k => t.args.length - k) ?_ 0 ⟨Nat.zero_le _, by simp⟩)
      rintro k ⟨hk, hall⟩ IH
      refine aloop_round ttOk ?_
      refine Br.intro (fun hlt => ?_) (fun hlt => ?_)
      · have hlt : k < t.args.length := by simpa [encTs_length] using hlt
        refine gotT hlt ?_
        have ihk := ih t.args[k]
        rw [show d + 6 = IntKind.i64.wrap (d + 6) by rw [wrap_i64 (by omega) (by omega)]] at ihk
        refine (ihk _).mono ?_
        rintro r hp' ⟨rfl, rfl⟩
        rw [wrap_i64 (n := d + 6) (by omega) (by omega)] at *
        refine Br.intro (fun hg => ?_) (fun hg => ?_)
        · refine yes ?_
          simp only [greatB, Bool.or_eq_true, List.any_eq_true]
          exact .inr ⟨_, List.getElem_mem hlt, hg⟩
        · refine aloop_cov (σ' := S5 t d (k + 1)) (cov_of [] rfl rfl rfl rfl
            (envCov.cons rfl rfl (envCov.cons rfl rfl (envCov.cons rfl rfl (envCov.cons rfl (show some (AV.lit (.int .i64 (IntKind.i64.wrap ((k : Int) + 1)))) = some _ by rw [kwrap (by omega)]) envCov.nil))))
            boxCov.nil) (IH (k + 1) ⟨hlt, fun u hu => ?_⟩ (Nat.sub_lt_sub_left hlt (Nat.lt_succ_self _)))
          rw [List.take_succ_eq_append_getElem hlt] at hu
          rcases List.mem_append.1 hu with hu | hu
          · exact hall u hu
          · simp at hu; subst hu; exact hg
      · have hlt : k = t.args.length := by simp [encTs_length] at hlt; omega
        refine ⟨_, ⟨rfl, rfl⟩, ?_⟩
        rw [hlt, List.take_length] at hall
        have : greatB (n + 1) d t = false := by
          simp only [greatB, Bool.or_eq_false_iff, decide_eq_false_iff_not, List.any_eq_false]
          exact ⟨⟨by omega, by omega⟩, fun u hu => by rw [hall u hu]; simp⟩
        rw [this]
    · refine yes ?_
      simp at h1
      simp only [greatB, Bool.or_eq_true, decide_eq_true_eq]
      exact .inl (.inl (by omega))

def SomeBool (r : AV) : Prop := ∃ b : Bool, r = .lit (.bool b)
def S4a (b : Book) : Nat × Int → St
  | (i, n) => St.of [(1, .ptr (.l 0) 0), (3, .lit (.int .i64 n)), (9, .lit (.int .i64 (b.tables.map encTable).length)), (10, .lit (.int .i64 i))] 93 [(0, (encBook b).cells)] 1 0
def S4b (b : Book) (i : Nat) (m : Nat) : Nat × Int → St
  | (j, n) => St.of [(1, .ptr (.l 0) 0), (3, .lit (.int .i64 n)), (4, .lit (.int .i64 i)), (9, .lit (.int .i64 (b.tables.map encTable).length)), (10, .lit (.int .i64 i)), (30, .lit (.int .i64 m)), (31, .lit (.int .i64 j))] 93 [(0, (encBook b).cells)] 1 0
def S4c (b : Book) : Nat × Int → St
  | (i, n) => St.of [(1, .ptr (.l 0) 0), (3, .lit (.int .i64 n)), (55, .lit (.int .i64 (b.indexes.map encIndex).length)), (56, .lit (.int .i64 i))] 93 [(0, (encBook b).cells)] 1 0
theorem book_great (b : Book) (h1 : b.tables.length ≤ 9223372036854775807) (h2 : b.indexes.length ≤ 9223372036854775807) (h3 : ∀ t, t ∈ b.tables → t.columns.length ≤ 9223372036854775807) : Pure Try.prog 4 [encBook b] SomeBool := by
  refine pure_of rfl ?_
  refine icalls_of ttOk Try.func4 rfl rfl rfl ?_
  have leaf : ∀ c : Bool, ∃ r' : AV, Wk (.lit (.bool c)) r' ∧ SomeBool r' := fun c => ⟨_, ⟨rfl, rfl⟩, c, rfl⟩
  refine aloop_cov (σ' := S4a b (0, 0)) (cov_of [] rfl rfl rfl rfl (by repeat first | exact envCov.nil | refine envCov.cons rfl rfl ?_) (by repeat first | exact boxCov.nil | refine boxCov.cons rfl rfl rfl ?_))
    (aloop_inv (S4a b) (fun x => x.1 ≤ b.tables.length) (fun x => b.tables.length - x.1) ?_ (0, 0) (Nat.zero_le _))
  rintro ⟨i, n⟩ hi IH
  have hi : i ≤ b.tables.length := hi
  refine aloop_round ttOk ?_
  refine Br.intro (fun hlt => ?_) (fun hlt => ?_)
  · have hlt : i < b.tables.length := by simpa using hlt
    have hc := h3 _ (List.getElem_mem hlt)
    refine got hlt ?_
    refine got hlt ?_
    refine aloop_cov (σ' := S4b b i (b.tables[i].columns.map encCol).length (0, _)) (cov_of [] rfl rfl rfl rfl (by repeat first | exact envCov.nil | refine envCov.cons rfl rfl ?_) (by repeat first | exact boxCov.nil | refine boxCov.cons rfl rfl rfl ?_))
      (aloop_inv (S4b b i (b.tables[i].columns.map encCol).length) (fun x => x.1 ≤ b.tables[i].columns.length) (fun x => b.tables[i].columns.length - x.1) ?_ (0, _) (Nat.zero_le _))
    rintro ⟨j, n⟩ hj IHj
    have hj : j ≤ b.tables[i].columns.length := hj
    refine aloop_round ttOk ?_
    refine Br.intro (fun hlj => ?_) (fun hlj => ?_)
    · have hlj : j < b.tables[i].columns.length := by simpa using hlj
      refine got hlt ?_
      refine got hlj ?_
      refine Br.intro (fun hg => leaf _) (fun hg => ?_)
      exact aloop_cov (σ' := S4b b i (b.tables[i].columns.map encCol).length (j + 1, _)) (cov_of [] rfl rfl rfl rfl
        (envCov.cons rfl rfl (envCov.cons rfl rfl (envCov.cons rfl rfl (envCov.cons rfl rfl (envCov.cons rfl rfl (envCov.cons rfl rfl (envCov.cons rfl (show some (AV.lit (.int .i64 (IntKind.i64.wrap ((j : Int) + 1)))) = some _ by rw [kwrap (by omega)]) envCov.nil)))))))
        (by repeat first | exact boxCov.nil | refine boxCov.cons rfl rfl rfl ?_)) (IHj (j + 1, _) hlj (Nat.sub_lt_sub_left hlj (Nat.lt_succ_self _)))
    · exact aloop_cov (σ' := S4a b (i + 1, _)) (cov_of [] rfl rfl rfl rfl
        (envCov.cons rfl rfl (envCov.cons rfl rfl (envCov.cons rfl rfl (envCov.cons rfl (show some (AV.lit (.int .i64 (IntKind.i64.wrap ((i : Int) + 1)))) = some _ by rw [kwrap (by omega)]) envCov.nil))))
        (by repeat first | exact boxCov.nil | refine boxCov.cons rfl rfl rfl ?_)) (IH (i + 1, _) hlt (Nat.sub_lt_sub_left hlt (Nat.lt_succ_self _)))
  · refine aloop_cov (σ' := S4c b (0, _)) (cov_of [] rfl rfl rfl rfl (by repeat first | exact envCov.nil | refine envCov.cons rfl rfl ?_) (by repeat first | exact boxCov.nil | refine boxCov.cons rfl rfl rfl ?_))
      (aloop_inv (S4c b) (fun x => x.1 ≤ b.indexes.length) (fun x => b.indexes.length - x.1) ?_ (0, _) (Nat.zero_le _))
    rintro ⟨i, n⟩ hi IH
    have hi : i ≤ b.indexes.length := hi
    refine aloop_round ttOk ?_
    refine Br.intro (fun hlt => ?_) (fun hlt => leaf _)
    have hlt : i < b.indexes.length := by simpa using hlt
    refine arunDraw_plan ttOk mixed p4_17 (by kernel_rfl) ?_
    refine got hlt ?_
    refine got hlt ?_
    refine got hlt ?_
    refine Br.intro (fun hg => leaf _) (fun hg => ?_)
    exact aloop_cov (σ' := S4c b (i + 1, _)) (cov_of [] rfl rfl rfl rfl
      (envCov.cons rfl rfl (envCov.cons rfl rfl (envCov.cons rfl rfl (envCov.cons rfl (show some (AV.lit (.int .i64 (IntKind.i64.wrap ((i : Int) + 1)))) = some _ by rw [kwrap (by omega)]) envCov.nil))))
      (by repeat first | exact boxCov.nil | refine boxCov.cons rfl rfl rfl ?_)) (IH (i + 1, _) hlt (Nat.sub_lt_sub_left hlt (Nat.lt_succ_self _)))
end Go.Proofs.Ytafbefpimhaopaa
