/- Ax, part L: what operations that write, make memory or call come to. No project text. -/
import Derived.Test.YtafbefpimhaopaaAxK
import Derived.Deep.AppendSrc
import Derived.Deep.Upon
import Derived.Laws.Tables
set_option linter.unusedVariables false
set_option linter.unusedSimpArgs false
set_option linter.unnecessarySimpa false
set_option linter.unusedSectionVars false
namespace Go.Ax

def isNilT : Tok → Bool
  | .nil => true
  | .zero => true
  | .empty => true
  | _ => false
def memN (i : Nat) : List Nat → Bool
  | [] => false
  | j :: r => Nat.beq i j || memN i r
theorem memN_mem {i : Nat} : ∀ {l : List Nat}, memN i l = true → i ∈ l
  | [], h => by simp [memN] at h
  | j :: r, h => by
    simp only [memN, Bool.or_eq_true] at h
    rcases h with h | h
    · rw [Nat.eq_of_beq_eq_true h]; simp
    · exact List.mem_cons_of_mem _ (memN_mem h)
def Hp.addBox (hp : Hp) (bx : Box) : Hp := { hp with boxes := (.l hp.nb, bx) :: hp.boxes, nb := hp.nb + 1 }
def St.withHp (σ : St) (hp : Hp) : St := { σ with hp := hp }
def dn1 : AV → AV
  | .slice sz (.loc _) items => .slice sz .dead items
  | x => x
def dn : AV → AV
  | .agg cs => .agg (cs.map dn1)
  | x => dn1 x

def HasBody (P : Program) (g : FuncId) : Prop := ∃ fn, P.funcs[g]? = some fn ∧ fn.body.isSome = true ∧ (fn.name == "runtime.NumGoroutine") = false
/-- The call returns r, over the variables hp'. -/
def ICalls (P : Program) (g : FuncId) (args : List AV) (hp : Hp) (Q : AV → Hp → Prop) : Prop :=
  HasBody P g ∧ ∀ E G w vs, HInv E G hp w → All2 (Rep G w) args vs →
    Calls P g vs.toArray w fun e w' => ∃ r v hp' G', e = .returned v ∧ Q r hp' ∧ HInv E G' hp' w' ∧ Step hp.nb G w hp'.nb G' w' ∧ Rep G' w' r v
theorem ICalls.mono {P : Program} {g : FuncId} {args : List AV} {hp : Hp} {Q Q' : AV → Hp → Prop} (h : ICalls P g args hp Q) (hq : ∀ r hp', Q r hp' → Q' r hp') : ICalls P g args hp Q' :=
  ⟨h.1, fun E G w vs H A => (h.2 E G w vs H A).mono fun _ _ ⟨r, v, hp', G', h1, h2, h3⟩ => ⟨r, v, hp', G', h1, hq _ _ h2, h3⟩⟩

def boxA (σ : St) (d : Option Tmp) (X : AV) (K : St → Prop) : Prop :=
  match X with
  | .tup _ => False
  | X => bif dstOk σ d then K ((σ.withHp (σ.hp.addBox (.cells X.cells))).put d (.ptr (.l σ.hp.nb) 0)) else False
def putCells (y : AV) (off : Nat) (xs : List AV) : AV :=
  match y with
  | .agg cs => .agg (splice cs off xs)
  | y => match xs with
    | [x] => x
    | _ => y
def storeB (σ : St) (ty : TyI) (A : AV) (xs : List AV) (K : St → Prop) : Prop :=
  match A with
  | .ptr k off => match find k σ.hp.boxes with
    | some (.cells cs) => Chk (Nat.beq xs.length ty.size) (Chk (Nat.ble (off + ty.size) cs.length) (K (σ.withHp (σ.hp.setBox k (.cells (splice cs off xs))))))
    | _ => False
  | .rptr k sz i off => match find (.l k) σ.hp.boxes with
    | some (.row sz' items) => Chk (Nat.beq sz sz') (Chk (Nat.beq xs.length ty.size) (Got items (i : Int) fun x => Chk (Nat.ble (off + ty.size) x.cells.length) (K (σ.withHp (σ.hp.setBox (.l k) (.row sz (items.set i (putCells x off xs))))))))
    | _ => False
  | _ => False
def storeA (σ : St) (ty : TyI) (A X : AV) (K : St → Prop) : Prop :=
  match X with
  | .tup _ => False
  | X => storeB σ ty A X.cells K
def avParts (ρ : Operand → Option AV) : List (Nat × Operand) → Option (List (Nat × AV))
  | [] => some []
  | (i, x) :: r => match ρ x, avParts ρ r with
    | some X, some R => some ((i, X) :: R)
    | _, _ => none
def avArgs (ρ : Operand → Option AV) : List Operand → Option (List AV)
  | [] => some []
  | x :: r => match ρ x, avArgs ρ r with
    | some X, some R => some (X :: R)
    | _, _ => none
def places (tt : TT) : List (Nat × TypeId) → Option (List (Nat × Nat))
  | [] => some []
  | (o, u) :: r => match tt u, places tt r with
    | some i, some R => some ((o, i.size) :: R)
    | _, _ => none
def fillA (place : Nat → Option (Nat × Nat)) (cells : List AV) : List (Nat × AV) → (List AV → Prop) → Prop
  | [], K => K cells
  | (i, X) :: r, K => match place i with
    | none => False
    | some (off, size) => match X with
      | .tup _ => False
      | X => Chk (Nat.beq X.cells.length size) (Chk (Nat.ble (off + size) cells.length) (fillA place (splice cells off X.cells) r K))
def buildA (tt : TT) (σ : St) (d : Option Tmp) (ty : TyI) (ps : List (Nat × AV)) (K : St → Prop) : Prop :=
  match avsOf ty.zero with
  | none => False
  | some zs => match ty.shape with
    | .struct fs => match places tt fs with
      | none => False
      | some pl => fillA (fun i => pl[i]?) zs ps fun cs => bif dstOk σ d then K (σ.put d (.agg cs)) else False
    | .array n e => match tt e with
      | none => False
      | some te => fillA (fun i => some (i * te.size, te.size)) zs ps fun cs => bif dstOk σ d then K (σ.put d (.agg cs)) else False
    | _ => False
/-- All elements of a slice that is made, in order. -/
def allA (size : Nat) : Nat → List (Nat × AV) → (List AV → Prop) → Prop
  | _, [], K => K []
  | i, (j, X) :: r, K => Chk (Nat.beq i j) (Chk (dn X).data2 (Chk (Nat.beq (dn X).cells.length size) (allA size (i + 1) r fun l => K (dn X :: l))))
def buildSliceA (tt : TT) (σ : St) (d : Option Tmp) (ty : TyI) (n : Nat) (ps : List (Nat × AV)) (K : St → Prop) : Prop :=
  match ty.shape with
  | .slice e => match tt e with
    | some te => bif Nat.beq ps.length n && Nat.ble (n * te.size) 16777216 && Nat.ble n 16777216 && dstOk σ d then
        match n with
        | 0 => K (σ.put d (.slice te.size .zero []))
        | _ => allA te.size 0 ps fun items => K ((σ.withHp (σ.hp.moveTok σ.hp.nt)).put d (.slice te.size (.loc σ.hp.nt) items))
      else False
    | none => False
  | _ => False
def tokOk (hp : Hp) : Tok → Bool
  | .nil => true
  | .zero => true
  | .empty => true
  | .loc i => memN i hp.alive
  | .dead => false
def tokNum (hp : Hp) : Tok → Nat
  | .loc i => i
  | _ => hp.nt
def rowDst (σ : St) : Option Tmp → Bool
  | some d => memN d σ.rows
  | none => false
def someL : List AV → Bool
  | [] => false
  | _ :: _ => true
/-- An append to nothing makes a row that may be written. -/
def appendR (σ : St) (d : Option Tmp) (te : TyI) (sz2 : Nat) (t2 : Tok) (ys : List AV) (K : St → Prop) : Prop :=
  bif (isNilT t2 || Nat.beq sz2 te.size) && dstOk σ d then
    Chk (Nat.ble (ys.length * te.bytes) 140737488355328) <| Chk (Nat.ble ys.length 140737488355328) <| K ((σ.withHp (σ.hp.addBox (.row te.size ys))).put d (.row σ.hp.nb ys.length))
  else False
def appendA (tt : TT) (σ : St) (d : Option Tmp) (ty : TyI) (S X : AV) (K : St → Prop) : Prop :=
  match ty.shape with
  | .slice e => match tt e with
    | some te => match S with
      | .slice sz t items => match X with
        | .slice sz2 t2 ys => bif isNilT t && rowDst σ d && someL ys then appendR σ d te sz2 t2 ys K else
          bif (isNilT t || Nat.beq sz te.size) && (isNilT t2 || Nat.beq sz2 te.size) && dstOk σ d then
            Chk (tokOk σ.hp t) <| Chk (Nat.ble ((items.length + ys.length) * te.bytes) 140737488355328) <| Chk (Nat.ble (items.length + ys.length) 140737488355328) <|
              K ((σ.withHp (σ.hp.moveTok (tokNum σ.hp t))).put d (.slice te.size (.loc σ.hp.nt) (items ++ ys)))
          else False
        | _ => False
      | _ => False
    | none => False
  | _ => False
def varPtrs : List Nat → List AV
  | [] => []
  | i :: r => .ptr (.l i) 0 :: varPtrs r
def callA (P : Program) (σ : St) (d : Option Tmp) (F : AV) (args : List AV) (K : St → Prop) : Prop :=
  match F with
  | .func (.func g) first cap => bif dstOk σ d then ICalls P g (first ++ args ++ cap) σ.hp (fun r hp' => K ((σ.withHp hp').put d r)) else False
  | .clo (.func g) is => bif dstOk σ d then ICalls P g (args ++ varPtrs is) σ.hp (fun r hp' => K ((σ.withHp hp').put d r)) else False
  | _ => False
def quietA (tt : TT) (o : Oper) (σ : St) (K : St → Prop) : Prop :=
  bif dstOk σ o.dst then (qop tt (opd σ.env) (fun k => find k σ.hp.boxes) o.op).run (fun k => find k σ.hp.boxes) (fun x => K (σ.put o.dst x)) else False

def aop (P : Program) (tt : TT) (o : Oper) (σ : St) (K : St → Prop) : Prop :=
  match o.op with
  | .alloc T => match tt T with
    | some ty => match avsOf ty.zero with
      | some zs => boxA σ o.dst (.agg zs) K
      | none => False
    | none => False
  | .box T x => match opd σ.env x with
    | some X => boxA σ o.dst X K
    | none => False
  | .store T x y => match o.dst, tt T, opd σ.env x, opd σ.env y with
    | none, some ty, some A, some X => storeA σ ty A X K
    | _, _, _, _ => False
  | .build T parts => match tt T, avParts (opd σ.env) parts.toList with
    | some ty, some ps => buildA tt σ o.dst ty ps K
    | _, _ => False
  | .buildSlice T n parts => match tt T, avParts (opd σ.env) parts.toList with
    | some ty, some ps => buildSliceA tt σ o.dst ty n ps K
    | _, _ => False
  | .call c => match c.callee with
    | .builtin .append => match c.args.toList, c.argTypes.toList with
      | [s, x], [T, T2] => match tt T, tt T2, opd σ.env s, opd σ.env x with
        | some ty, some ty2, some S, some X => match ty2.shape with
          | .slice _ => appendA tt σ o.dst ty S X K
          | _ => False
        | _, _, _, _ => False
      | _, _ => False
    | .builtin _ => quietA tt o σ K
    | .value f => match opd σ.env f, avArgs (opd σ.env) c.args.toList with
      | some F, some args => callA P σ o.dst F args K
      | _, _ => False
    | .invoke _ _ => False
  | _ => quietA tt o σ K
end Go.Ax
