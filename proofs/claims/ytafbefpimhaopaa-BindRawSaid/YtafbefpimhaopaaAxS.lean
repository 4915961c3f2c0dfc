/- Ax, part S: a table of types is checked against the program. No project text. -/
import Derived.Test.YtafbefpimhaopaaAxR
set_option linter.unusedVariables false
set_option linter.unusedSimpArgs false
set_option linter.unnecessarySimpa false
set_option linter.unusedSectionVars false
namespace Go.Ax

def sameVal : Value → Value → Bool
  | .int k a, .int k' b => decide (k = k') && decide (a = b)
  | .bool a, .bool b => a == b
  | .string a, .string b => a.data.toList.isEmpty && b.data.toList.isEmpty
  | .pointer none, .pointer none => true
  | .slice none 0 0, .slice none 0 0 => true
  | .nilIface, .nilIface => true
  | .nilFunc, .nilFunc => true
  | .map none, .map none => true
  | .chan none, .chan none => true
  | _, _ => false
theorem sameVal_eq {a b : Value} (h : sameVal a b = true) : a = b := by
  unfold sameVal at h
  split at h <;> first
    | (simp only [Bool.and_eq_true, decide_eq_true_eq] at h; obtain ⟨rfl, rfl⟩ := h; rfl)
    | (simp at h; subst h; rfl)
    | rfl
    | (rename_i a b
       simp only [Bool.and_eq_true, List.isEmpty_iff] at h
       obtain ⟨⟨a⟩⟩ := a
       obtain ⟨⟨b⟩⟩ := b
       simp at h
       rw [h.1, h.2])
    | simp at h
def sameVals : List Value → List Value → Bool
  | [], [] => true
  | a :: as, b :: bs => sameVal a b && sameVals as bs
  | _, _ => false
theorem sameVals_eq : ∀ {as bs : List Value}, sameVals as bs = true → as = bs
  | [], [], _ => rfl
  | a :: as, b :: bs, h => by
    simp only [sameVals, Bool.and_eq_true] at h
    rw [sameVal_eq h.1, sameVals_eq h.2]
def sameShape : Shape → TypeDesc → Bool
  | .other, _ => true
  | .slice e, .slice e' => Nat.beq e e'
  | .array n e, .array n' e' => Nat.beq n n' && Nat.beq e e'
  | .struct fs, .struct F => decide (F.toList.map (fun f => (f.offset, f.type)) = fs)
  | .ptr e, .pointer e' => Nat.beq e e'
  | .string, .string => true
  | .int k, .int k' => decide (k = k')
  | .bool, .bool => true
  | .iface, .interface _ => true
  | _, _ => false
theorem sameShape_ok {s : Shape} {d : TypeDesc} (h : sameShape s d = true) : shapeOk s d := by
  unfold sameShape at h
  split at h <;> simp only [Bool.and_eq_true, Nat.beq_eq, decide_eq_true_eq, Bool.false_eq_true] at h <;> first
    | trivial
    | (subst h; rfl)
    | (obtain ⟨rfl, rfl⟩ := h; rfl)
    | exact ⟨_, rfl, h⟩
    | exact ⟨_, rfl⟩
    | rfl
def checkT (P : Program) (x : TypeId × TyI) : Bool :=
  match P.info? x.1, P.underlying x.1 with
  | some info, some d => Nat.beq x.2.zero.length x.2.size && Nat.beq info.size x.2.size && Nat.beq info.bytes x.2.bytes && (aggD d == x.2.isAgg) && (match info.zero with
    | some z => sameVals z.cells.toList x.2.zero
    | none => false) && sameShape x.2.shape d
  | _, _ => false
def EqOk (P : Program) (T : TypeId) (i : TyI) : Prop := i.eq = true → ∀ (xs ys : List Value) (r : Bool) (w : World), xs.length = i.size → fitsV i.zero xs = true → valsEq xs ys = some r →
    (Op.equal T (.agg xs.toArray) (.agg ys.toArray)).run P w = .ok r w ∧ P.eqGuardType P.depth T = false
theorem checkT_ok {P : Program} {T : TypeId} {i : TyI} (h : checkT P (T, i) = true) (he : EqOk P T i) : TyOk P T i := by
  unfold checkT at h
  split at h
  · rename_i info d h1 h2
    simp only [Bool.and_eq_true, Nat.beq_eq, beq_iff_eq] at h
    obtain ⟨⟨⟨⟨⟨a1, a2⟩, a3⟩, a4⟩, a5⟩, a6⟩ := h
    split at a5
    · rename_i z hz
      exact ⟨a1, ⟨info, d, h1, h2, a2, a3, a4, ⟨z, hz, sameVals_eq a5⟩, sameShape_ok a6⟩, he⟩
    · simp at a5
  · simp at h
def lookT (T : TypeId) : List (TypeId × TyI) → Option TyI
  | [] => none
  | (T', i) :: r => bif Nat.beq T T' then some i else lookT T r
theorem lookT_mem {T : TypeId} {i : TyI} : ∀ {l : List (TypeId × TyI)}, lookT T l = some i → (T, i) ∈ l
  | [], h => by simp [lookT] at h
  | (T', j) :: r, h => by
    simp only [lookT] at h
    cases hb : Nat.beq T T' with
    | true => rw [hb] at h; simp at h; rw [Nat.eq_of_beq_eq_true hb, h]; exact List.mem_cons_self
    | false => rw [hb] at h; exact List.mem_cons_of_mem _ (lookT_mem h)
theorem table_ok {P : Program} {l : List (TypeId × TyI)} (h : l.all (checkT P) = true) (he : ∀ x, x ∈ l → EqOk P x.1 x.2) : TTOk P (fun T => lookT T l) := by
  intro T i hi
  have hm := lookT_mem hi
  exact checkT_ok (List.all_eq_true.1 h _ hm) (he _ hm)
end Go.Ax
