/- Ax, part W: what an operation leaves alone. No project text. -/
import Derived.Test.YtafbefpimhaopaaAxT
set_option linter.unusedVariables false
set_option linter.unusedSimpArgs false
set_option linter.unnecessarySimpa false
set_option linter.unusedSectionVars false
namespace Go.Ax

def isCallV : Op → Bool
  | .call { callee := .value _, .. } => true
  | _ => false
/-- Boxes that operation o leaves alone, where it makes hp of the heap. -/
def HpOk (o : Oper) (σ : St) (hp : Hp) : Prop :=
  isCallV o.op = false → ∀ k, storeKey (opd σ.env) o.op ≠ some k → k ≠ .l σ.hp.nb → find k hp.boxes = find k σ.hp.boxes

section
variable {P : Program} {tt : TT} {σ : St} {o : Oper} {K K' : St → Prop}

theorem QRes.run_mono {fb : Key → Option Box} {K K' : AV → Prop} : ∀ (r : QRes), (∀ x, K x → K' x) → r.run fb K → r.run fb K'
  | .fail, hk, h => h
  | .val x, hk, h => hk _ h
  | .br true t f, hk, h => QRes.run_mono t hk h
  | .br false t f, hk, h => QRes.run_mono f hk h
  | .must b r, hk, h => .intro h.out.1 (QRes.run_mono r hk h.out.2)
  | .get items i k, hk, h => by obtain ⟨x, hx, h⟩ := h; exact ⟨x, hx, QRes.run_mono (k x) hk h⟩
  | .outer b k, hk, h => by obtain ⟨x, hx, h⟩ := h; exact ⟨x, hx, QRes.run_mono (k x) hk h⟩
  | .bytes items k, hk, h => by obtain ⟨x, hx, h⟩ := h; exact ⟨x, hx, QRes.run_mono (k x) hk h⟩
theorem boxA_form {d : Option Tmp} {X : AV} (h : boxA σ d X K) (hk : ∀ x, K ((σ.withHp (σ.hp.addBox (.cells X.cells))).put d x) → K' ((σ.withHp (σ.hp.addBox (.cells X.cells))).put d x)) : boxA σ d X K' := by
  unfold boxA at h ⊢
  split at h
  · exact h.elim
  · cases hd : dstOk σ d with
    | false => rw [hd] at h; exact h.elim
    | true => rw [hd] at h; exact hk _ h
theorem find_addBox {hp : Hp} {bx : Box} {k : Key} (h : k ≠ .l hp.nb) : find k (hp.addBox bx).boxes = find k hp.boxes := by
  simp only [Hp.addBox, find_cons, if_neg h]
theorem find_setBox {hp : Hp} {bx : Box} {k k' : Key} (h : k' ≠ k) : find k' (hp.setBox k bx).boxes = find k' hp.boxes := by
  simp only [Hp.setBox, find_cons, if_neg h]
theorem storeA_form {ty : TyI} {A X : AV} (h : storeA σ ty A X K) (hk : ∀ k bx, ((∃ off, A = .ptr k off) ∨ ∃ i sz j off, k = .l i ∧ A = .rptr i sz j off) → K (σ.withHp (σ.hp.setBox k bx)) → K' (σ.withHp (σ.hp.setBox k bx))) : storeA σ ty A X K' := by
  have key : ∀ xs, storeB σ ty A xs K → storeB σ ty A xs K' := by
    intro xs h
    unfold storeB at h ⊢
    split at h
    · split at h
      · obtain ⟨h1, h⟩ := h.out
        obtain ⟨h2, h⟩ := h.out
        exact .intro h1 (.intro h2 (hk _ _ (.inl ⟨_, rfl⟩) h))
      · exact h.elim
    · split at h
      · obtain ⟨h1, h⟩ := h.out
        obtain ⟨h2, h⟩ := h.out
        obtain ⟨x, hx, h⟩ := h
        obtain ⟨h3, h⟩ := h.out
        exact .intro h1 (.intro h2 ⟨x, hx, .intro h3 (hk _ _ (.inr ⟨_, _, _, _, rfl, rfl⟩) h)⟩)
      · exact h.elim
    · exact h.elim
  unfold storeA at h ⊢
  split at h
  · exact h.elim
  · exact key _ h
theorem fillA_form {place : Nat → Option (Nat × Nat)} {K K' : List AV → Prop} (hk : ∀ cs, K cs → K' cs) : ∀ {ps : List (Nat × AV)} {cells : List AV}, fillA place cells ps K → fillA place cells ps K'
  | [], cells, h => hk _ h
  | (i, X) :: r, cells, h => by
    unfold fillA at h ⊢
    split at h
    · exact h.elim
    · split at h
      · exact h.elim
      · obtain ⟨h1, h⟩ := h.out
        obtain ⟨h2, h⟩ := h.out
        exact .intro h1 (.intro h2 (fillA_form hk h))
theorem allA_form {size : Nat} : ∀ {ps : List (Nat × AV)} {i : Nat} {K K' : List AV → Prop} (hk : ∀ cs, K cs → K' cs), allA size i ps K → allA size i ps K'
  | [], i, K, K', hk, h => hk _ h
  | (j, X) :: r, i, K, K', hk, h => by
    unfold allA at h ⊢
    obtain ⟨h1, h⟩ := h.out
    obtain ⟨h2, h⟩ := h.out
    obtain ⟨h3, h⟩ := h.out
    exact .intro h1 (.intro h2 (.intro h3 (allA_form (K := fun l => K (dn X :: l)) (K' := fun l => K' (dn X :: l)) (fun l => hk _) h)))
theorem buildA_form {d : Option Tmp} {ty : TyI} {ps : List (Nat × AV)} (h : buildA tt σ d ty ps K) (hk : ∀ x, K (σ.put d x) → K' (σ.put d x)) : buildA tt σ d ty ps K' := by
  have hc : ∀ cs : List AV, (bif dstOk σ d then K (σ.put d (.agg cs)) else False) → (bif dstOk σ d then K' (σ.put d (.agg cs)) else False) := by
    intro cs h
    cases hd : dstOk σ d with
    | false => rw [hd] at h; exact h.elim
    | true => rw [hd] at h; exact hk _ h
  unfold buildA at h ⊢
  split at h
  · exact h.elim
  · rename_i zs hz
    split at h
    · split at h
      · exact h.elim
      · exact fillA_form hc h
    · split at h
      · exact h.elim
      · exact fillA_form hc h
    · exact h.elim
theorem buildSliceA_form {d : Option Tmp} {ty : TyI} {n : Nat} {ps : List (Nat × AV)} (h : buildSliceA tt σ d ty n ps K) (hk : ∀ x, K (σ.put d x) → K' (σ.put d x))
    (hk2 : ∀ i x, K ((σ.withHp (σ.hp.moveTok i)).put d x) → K' ((σ.withHp (σ.hp.moveTok i)).put d x)) : buildSliceA tt σ d ty n ps K' := by
  unfold buildSliceA at h ⊢
  split at h
  · split at h
    · generalize (Nat.beq ps.length n && Nat.ble (n * _) 16777216 && Nat.ble n 16777216 && dstOk σ d) = c at h ⊢
      cases c with
      | false => exact h.elim
      | true =>
        simp only [cond_true] at h ⊢
        split at h
        · exact hk _ h
        · exact allA_form (fun l => hk2 _ _) h
    · exact h.elim
  · exact h.elim
theorem appendA_form {d : Option Tmp} {ty : TyI} {S X : AV} (h : appendA tt σ d ty S X K) (hk2 : ∀ i x, K ((σ.withHp (σ.hp.moveTok i)).put d x) → K' ((σ.withHp (σ.hp.moveTok i)).put d x))
    (hk3 : ∀ bx x, K ((σ.withHp (σ.hp.addBox bx)).put d x) → K' ((σ.withHp (σ.hp.addBox bx)).put d x)) : appendA tt σ d ty S X K' := by
  unfold appendA at h ⊢
  split at h
  · split at h
    · split at h
      · split at h
        · rename_i te hte _ sz t items _ sz2 t2 ys
          cases hr : (isNilT t && rowDst σ d && someL ys) with
          | true =>
            rw [hr] at h
            simp only [cond_true] at h ⊢
            unfold appendR at h ⊢
            generalize ((isNilT t2 || Nat.beq sz2 te.size) && dstOk σ d) = c at h ⊢
            cases c with
            | false => exact h.elim
            | true =>
              simp only [cond_true] at h ⊢
              obtain ⟨h1, h⟩ := h.out
              obtain ⟨h2, h⟩ := h.out
              exact .intro h1 (.intro h2 (hk3 _ _ h))
          | false =>
            rw [hr] at h
            simp only [cond_false] at h ⊢
            generalize ((isNilT t || Nat.beq sz te.size) && (isNilT t2 || Nat.beq sz2 te.size) && dstOk σ d) = c at h ⊢
            cases c with
            | false => exact h.elim
            | true =>
              simp only [cond_true] at h ⊢
              obtain ⟨h1, h⟩ := h.out
              obtain ⟨h2, h⟩ := h.out
              obtain ⟨h3, h⟩ := h.out
              exact .intro h1 (.intro h2 (.intro h3 (hk2 _ _ h)))
        · exact h.elim
      · exact h.elim
    · exact h.elim
  · exact h.elim
theorem callA_form {d : Option Tmp} {F : AV} {args : List AV} (h : callA P σ d F args K) (hk : ∀ hp x, K ((σ.withHp hp).put d x) → K' ((σ.withHp hp).put d x)) : callA P σ d F args K' := by
  unfold callA at h ⊢
  split at h
  · cases hd : dstOk σ d with
    | false => rw [hd] at h; exact h.elim
    | true => rw [hd] at h; exact h.mono fun r hp' => hk _ _
  · cases hd : dstOk σ d with
    | false => rw [hd] at h; exact h.elim
    | true => rw [hd] at h; exact h.mono fun r hp' => hk _ _
  · exact h.elim
theorem quietA_form (h : quietA tt o σ K) (hk : ∀ x, K (σ.put o.dst x) → K' (σ.put o.dst x)) : quietA tt o σ K' := by
  unfold quietA at h ⊢
  cases hd : dstOk σ o.dst with
  | false => rw [hd] at h; exact h.elim
  | true =>
    rw [hd] at h
    exact QRes.run_mono _ hk h
theorem aop_form (h : aop P tt o σ K) (hk : ∀ hp x, HpOk o σ hp → K ((σ.withHp hp).put o.dst x) → K' ((σ.withHp hp).put o.dst x)) : aop P tt o σ K' := by
  have same : ∀ x, K (σ.put o.dst x) → K' (σ.put o.dst x) := fun x => hk σ.hp x (fun _ _ _ _ => rfl)
  have move : ∀ i x, K ((σ.withHp (σ.hp.moveTok i)).put o.dst x) → K' ((σ.withHp (σ.hp.moveTok i)).put o.dst x) := fun i x => hk _ x (fun _ _ _ _ => rfl)
  unfold aop at h ⊢
  split at h
  · split at h
    · split at h
      · exact boxA_form h fun x => hk _ x (fun _ k _ hn => find_addBox hn)
      · exact h.elim
    · exact h.elim
  · split at h
    · exact boxA_form h fun x => hk _ x (fun _ k _ hn => find_addBox hn)
    · exact h.elim
  · rename_i T x y ho
    split at h
    · rename_i ty A X hd hty hA hX
      refine storeA_form h fun k bx hAk => ?_
      have := hk (σ.hp.setBox k bx) (.tup []) (fun _ k' hs _ => ?_)
      · rw [hd] at this; exact this
      · refine find_setBox fun e => hs ?_
        rcases hAk with ⟨off, hAk⟩ | ⟨i, sz, j, off, hk, hAk⟩
        · subst e hAk
          simp only [ho, storeKey, hA]
        · subst e hk hAk
          simp only [ho, storeKey, hA]
    · exact h.elim
  · split at h
    · exact buildA_form h same
    · exact h.elim
  · split at h
    · exact buildSliceA_form h same move
    · exact h.elim
  · split at h
    · split at h
      · split at h
        · split at h
          · exact appendA_form h move fun bx x => hk _ x (fun _ k _ hn => find_addBox hn)
          · exact h.elim
        · exact h.elim
      · exact h.elim
    · exact quietA_form h same
    · rename_i c ho _ f hcal
      split at h
      · refine callA_form h fun hp x => hk hp x (fun hc => ?_)
        rw [ho] at hc
        obtain ⟨cal, ar, ts⟩ := c
        have hcal : cal = .value f := hcal
        subst hcal
        simp [isCallV] at hc
      · exact h.elim
    · exact h.elim
  · exact quietA_form h same
end
end Go.Ax
