/- Rw, part B: what functions on terms come to, in plain Lean. -/
import Derived.Test.YtafbefpimhaopaaRwA
set_option linter.unusedVariables false
set_option linter.unusedSimpArgs false
set_option linter.unnecessarySimpa false
set_option linter.unusedSectionVars false
namespace Go.Rw
open Go.Ax
mutual
/-- All fields in a term; outside of totals alone, if it is told so. -/
def fields (o : Bool) : Term → List Term
  | .mk kind op nt val of_ name table column args => if kind = 2 then [.mk kind op nt val of_ name table column args] else if kind = 7 ∧ o = true then [] else fieldsL o args
def fieldsL (o : Bool) : List Term → List Term
  | [] => []
  | t :: ts => fields o t ++ fieldsL o ts
end
theorem fields_eq (o : Bool) (t : Term) : fields o t = if t.kind = 2 then [t] else if t.kind = 7 ∧ o = true then [] else fieldsL o t.args := by
  cases t; simp only [fields]; rfl
theorem fieldsL_append (o : Bool) (a b : List Term) : fieldsL o (a ++ b) = fieldsL o a ++ fieldsL o b := by
  induction a with
  | nil => rfl
  | cons x r ih => simp only [List.cons_append, fieldsL, ih, List.append_assoc]
theorem fieldsL_take (o : Bool) (l : List Term) (k : Nat) (h : k < l.length) : fieldsL o (l.take (k + 1)) = fieldsL o (l.take k) ++ fields o l[k] := by
  rw [List.take_succ_eq_append_getElem h, fieldsL_append]
  simp [fieldsL]
theorem fieldsL_le (o : Bool) (l : List Term) (k : Nat) : (fieldsL o (l.take k)).length ≤ (fieldsL o l).length := by
  have := fieldsL_append o (l.take k) (l.drop k)
  rw [List.take_append_drop] at this
  rw [this]; simp
theorem fields_mem (o : Bool) {l : List Term} {u : Term} (h : u ∈ l) : (fields o u).length ≤ (fieldsL o l).length := by
  induction l with
  | nil => cases h
  | cons x r ih =>
    simp only [fieldsL, List.length_append]
    rcases List.mem_cons.1 h with rfl | h
    · omega
    · have := ih h; omega
/-- More than is gone through? -/
def greatB : Nat → Int → Term → Bool
  | 0, _, _ => true
  | n + 1, d, t => decide (d > 30) || decide (t.args.length > 6) || t.args.any (greatB n (d + 6))
def isAnd (t : Term) : Bool := t.op.toList == (⟨#[65, 78, 68]⟩ : ByteArray).toList
/-- The parts of a term between ANDs, n deep. -/
def conj : Nat → Term → List Term
  | 0, t => [t]
  | n + 1, t => match t.args with
    | [a, b] => if t.kind = 4 ∧ isAnd t = true then conj n a ++ conj n b else [t]
    | _ => [t]
/-- The uses of fields, one by one. -/
def orBit (u n : Int) : Int := IntKind.u32.wrap (BitVec.ofInt IntKind.u32.bits u ||| BitVec.ofInt IntKind.u32.bits (IntKind.u32.wrap (1 * 2 ^ (min n.toNat IntKind.u32.bits)))).toNat
def usesOf : Int → List Term → Int
  | u, [] => u
  | u, t :: r => usesOf (if 0 ≤ t.table ∧ t.table < 32 then orBit u t.table else u) r
theorem usesOf_append (u : Int) (a b : List Term) : usesOf u (a ++ b) = usesOf (usesOf u a) b := by
  induction a generalizing u with
  | nil => rfl
  | cons x r ih => simp only [List.cons_append, usesOf, ih]
theorem usesOf_take (u : Int) (l : List Term) (k : Nat) (h : k < l.length) : usesOf u (l.take (k + 1)) = (if 0 ≤ l[k].table ∧ l[k].table < 32 then orBit (usesOf u (l.take k)) l[k].table else usesOf u (l.take k)) := by
  rw [List.take_succ_eq_append_getElem h, usesOf_append]
  simp [usesOf]
/-- What a term that isn't great has at most: nodes. -/
theorem fields_great (o : Bool) : ∀ (n : Nat) (d : Int) (t : Term), greatB n d t = false → (fields o t).length ≤ 6 ^ (n + 1)
  | 0, d, t, h => by simp [greatB] at h
  | n + 1, d, t, h => by
    simp only [greatB, Bool.or_eq_false_iff, decide_eq_false_iff_not, List.any_eq_false] at h
    obtain ⟨⟨h1, h2⟩, h3⟩ := h
    rw [fields_eq]
    have h6 : 1 ≤ 6 ^ (n + 1 + 1) := Nat.one_le_pow _ _ (by omega)
    split
    · simpa using h6
    · split
      · simp
      · have key : ∀ l : List Term, (∀ u, u ∈ l → (fields o u).length ≤ 6 ^ (n + 1)) → (fieldsL o l).length ≤ l.length * 6 ^ (n + 1) := by
          intro l
          induction l with
          | nil => intro _; simp [fieldsL]
          | cons x r ih =>
            intro hl
            have a := hl x (by simp)
            have b := ih fun u hu => hl u (by simp [hu])
            simp only [fieldsL, List.length_append, List.length_cons, Nat.succ_mul]; omega
        have := key t.args fun u hu => fields_great o n (d + 6) u (by simpa using h3 u hu)
        refine Nat.le_trans this ?_
        rw [Nat.pow_succ 6 (n + 1), Nat.mul_comm (6 ^ (n + 1)) 6]
        exact Nat.mul_le_mul_right _ (by omega)
theorem conj_great : ∀ (m n : Nat) (d : Int) (t : Term), greatB n d t = false → (conj m t).length ≤ 2 ^ n
  | 0, n, d, t, h => by simp [conj]; exact Nat.one_le_two_pow
  | m + 1, 0, d, t, h => by simp [greatB] at h
  | m + 1, n + 1, d, t, h => by
    simp only [greatB, Bool.or_eq_false_iff, decide_eq_false_iff_not, List.any_eq_false] at h
    obtain ⟨⟨h1, h2⟩, h3⟩ := h
    have h6 : 1 ≤ 2 ^ (n + 1) := Nat.one_le_two_pow
    unfold conj
    split
    · rename_i a b hab
      split
      · have ha := conj_great m n (d + 6) a (by simpa using h3 a (by rw [hab]; simp))
        have hb := conj_great m n (d + 6) b (by simpa using h3 b (by rw [hab]; simp))
        rw [List.length_append, Nat.pow_succ]; omega
      · simpa using h6
    · simpa using h6
end Go.Rw
