/- Ay, part C: '==' on structs of numbers, bools and strings. No project text. -/
import Derived.Test.YtafbefpimhaopaaAyB
import Derived.Test.YtafbefpimhaopaaAxS
import Derived.Laws.StructEq
set_option linter.unusedVariables false
set_option linter.unusedSimpArgs false
set_option linter.unnecessarySimpa false
set_option linter.unusedSectionVars false
namespace Go.Ax
def scalarTy : Option TypeDesc → Bool
  | some (.int _) => true
  | some .bool => true
  | some .string => true
  | _ => false
def kindTy : Option TypeDesc → Value → Bool
  | some (.int k), .int k' _ => decide (k = k')
  | some .bool, .bool _ => true
  | some .string, .string _ => true
  | _, _ => false
def flatFields (P : Program) : Nat → List Field → List Value → Bool
  | _, [], [] => true
  | j, f :: r, z :: zs => decide (f.name ≠ "_") && Nat.beq f.offset j && kindTy (P.underlying f.type) z && flatFields P (j + 1) r zs
  | _, _, _ => false
/-- May structs of this type be compared cell by cell? -/
def flatEq (P : Program) (x : TypeId × TyI) : Bool :=
  match P.underlying x.1 with
  | some (.struct F) => !P.stoodInHeld x.1 && !P.eqGuardType P.depth x.1 && flatFields P 0 F.toList x.2.zero
  | _ => false
section
variable {P : Program} {w : World}
theorem part_scalar {u : TypeId} {z : Value} (h : kindTy (P.underlying u) z = true) {X : Array Value} {o : Nat} {v : Value} (hv : X[o]? = some v) : (part u X o).run P w = .ok v w := by
  cases hu : P.underlying u with
  | none => rw [hu] at h; simp [kindTy] at h
  | some d => rw [hu] at h; cases d <;> cases z <;> simp [kindTy] at h <;> simp [part, isAgg, run_underlying hu, hv]
theorem equal_scalar {d : Nat} {u : TypeId} {z a b : Value} {r : Bool} (h : kindTy (P.underlying u) z = true) (hk : sameKind z a = true) (hr : scalarEq a b = some r) : (Op.equalIn (d + 1) u a b).run P w = .ok r w := by
  cases hu : P.underlying u with
  | none => rw [hu] at h; simp [kindTy] at h
  | some t =>
    rw [hu] at h
    unfold scalarEq at hr
    split at hr
    · rename_i k x k' y
      cases hd : decide (k = k') with
      | false => rw [hd] at hr; simp at hr
      | true =>
        rw [hd] at hr
        have := of_decide_eq_true hd
        subst this
        simp at hr; subst hr
        cases z <;> simp [sameKind] at hk
        cases t <;> simp [kindTy] at h
        exact run_equalIn_int w d u _ _ x y hu
    · simp at hr; subst hr
      cases z <;> simp [sameKind] at hk
      cases t <;> simp [kindTy] at h
      exact run_equalIn_bool w d u _ _ hu
    · rename_i x y
      simp at hr; subst hr
      cases z <;> simp [sameKind] at hk
      cases t <;> simp [kindTy] at h
      rw [run_equalIn_string (P := P) w d u x y hu, beq_toListBytes]
    · simp at hr
theorem eqFields_flat (d : Nat) {X Y : Array Value} : ∀ (fs : List Field) (zs : List Value) (j : Nat) (as bs : List Value) (r : Bool), flatFields P j fs zs = true → (∀ k v, as[k]? = some v → X[j + k]? = some v) → (∀ k v, bs[k]? = some v → Y[j + k]? = some v) →
    fitsV zs as = true → valsEq as bs = some r → (Op.eqFields (d + 1) X Y fs).run P w = .ok r w
  | [], [], j, as, bs, r, _, _, _, hl, hv => by
    cases as with
    | cons => simp [fitsV] at hl
    | nil =>
      cases bs with
      | nil => simp [valsEq] at hv; subst hv; simp [Op.eqFields]
      | cons b bs => simp [valsEq] at hv
  | [], z :: zs, j, as, bs, r, hf, _, _, _, _ => by simp [flatFields] at hf
  | f :: fs, [], j, as, bs, r, hf, _, _, _, _ => by simp [flatFields] at hf
  | f :: fs, z :: zs, j, [], bs, r, _, _, _, hl, _ => by simp [fitsV] at hl
  | f :: fs, z :: zs, j, a :: as, [], r, _, _, _, _, hv => by simp [valsEq] at hv
  | f :: fs, z :: zs, j, a :: as, b :: bs, r, hf, hX, hY, hl, hv => by
    simp only [flatFields, Bool.and_eq_true, decide_eq_true_eq, Nat.beq_eq] at hf
    obtain ⟨⟨⟨h1, h2⟩, h3⟩, h4⟩ := hf
    simp only [fitsV, Bool.and_eq_true] at hl
    simp only [valsEq] at hv
    split at hv
    · rename_i s t hs ht
      simp at hv
      have ha := part_scalar (w := w) h3 (show X[f.offset]? = some a by rw [h2]; exact hX 0 a rfl)
      have hb := part_scalar (w := w) h3 (show Y[f.offset]? = some b by rw [h2]; exact hY 0 b rfl)
      have he := equal_scalar (w := w) (d := d) h3 hl.1 hs
      have rest := eqFields_flat d fs zs (j + 1) as bs t h4 (fun k v hk => by have := hX (k + 1) v (by simpa using hk); rw [show j + 1 + k = j + (k + 1) by omega]; exact this) (fun k v hk => by have := hY (k + 1) v (by simpa using hk); rw [show j + 1 + k = j + (k + 1) by omega]; exact this) hl.2 ht
      simp only [Op.eqFields, h1, ne_eq, not_false_eq_true, if_true, Sem.run_bind, ha, hb, he, Result.andThen_ok]
      cases s with
      | true => simp at hv; subst hv; simpa using rest
      | false => simp at hv; subst hv; simp
    · simp at hv
theorem eqOk_of {x : TypeId × TyI} (h : x.2.eq = true → flatEq P x = true) : EqOk P x.1 x.2 := by
  intro he xs ys r w hl hz hv
  have h := h he
  unfold flatEq at h
  split at h
  · rename_i F hF
    simp only [Bool.and_eq_true, Bool.not_eq_true'] at h
    obtain ⟨⟨h1, h2⟩, h3⟩ := h
    have hfs : P.fieldsOf x.1 = F := by simp [Program.fieldsOf, hF]
    refine ⟨?_, h2⟩
    unfold Op.equal Op.maxDepth
    rw [run_equalIn_struct w 9999 x.1 _ _ (by rw [hfs]; exact hF) h1, hfs]
    exact eqFields_flat 9998 F.toList x.2.zero 0 xs ys r h3 (fun k v hk => by simpa using hk) (fun k v hk => by simpa using hk) hz hv
  · simp at h
/-- A table of types, of which some have '=='. -/
theorem table_eq_ok {l : List (TypeId × TyI)} (h : l.all (checkT P) = true) (he : l.all (fun x => !x.2.eq || flatEq P x) = true) : TTOk P (fun T => lookT T l) :=
  table_ok h fun x hx => eqOk_of fun e => by
    have := List.all_eq_true.1 he x hx
    rw [e] at this; simpa using this
end
end Go.Ax
