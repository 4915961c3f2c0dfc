/- Ay, part E: drawn regions, run by a plan that is checked by the kernel. No project text. -/
import Derived.Test.YtafbefpimhaopaaAyD
set_option linter.unusedVariables false
set_option linter.unusedSimpArgs false
set_option linter.unnecessarySimpa false
set_option linter.unusedSectionVars false
namespace Go.Ax
def isNoneB {α : Type} : Option α → Bool
  | none => true
  | some _ => false
def fstIs (i : Nat) : Option (Nat × Oper) → Bool
  | some x => Nat.beq x.1 i
  | none => false
def onlyIs (i : Nat) : List (Nat × Oper) → Bool
  | [x] => Nat.beq x.1 i
  | _ => false
/-- Is this the order in which the region's operations are told? -/
def planOk (ops : Array Oper) : List Nat → List (Nat × Bool) → Bool
  | done, [] => isNoneB (firstQuiet ops.toList done 0 ops.toList) && (readyLouds done 0 ops.toList).isEmpty && Nat.beq done.length ops.size
  | done, (i, loud) :: r => (bif loud then isNoneB (firstQuiet ops.toList done 0 ops.toList) && onlyIs i (readyLouds done 0 ops.toList) else fstIs i (firstQuiet ops.toList done 0 ops.toList)) && planOk ops (i :: done) r
def arunP (P : Program) (tt : TT) (ops : Array Oper) (K : St → Prop) : List (Nat × Bool) → List (Nat × Key) → St → Prop
  | [], _, σ => K σ
  | (i, loud) :: r, rd, σ => match ops[i]? with
    | none => False
    | some o => bif loud then guardD ops o σ (fun σ => loudD P tt o σ rd (fun σ' => arunP P tt ops K r rd σ')) (fun σ => arunP P tt ops K r rd σ)
      else guardD ops o σ (fun σ => quietD tt i o rd σ (fun rd' σ' => arunP P tt ops K r rd' σ')) (fun σ => arunP P tt ops K r rd σ)
theorem run_imp {fb : Key → Option Box} {K K' : AV → Prop} (hk : ∀ x, K x → K' x) {r : QRes} (h : r.run fb K) : r.run fb K' := QRes.run_mono r hk h
theorem guardD_imp {ops : Array Oper} {o : Oper} {σ : St} {run run' skip skip' : St → Prop} (h : guardD ops o σ run skip) (h1 : ∀ σ, run σ → run' σ) (h2 : ∀ σ, skip σ → skip' σ) : guardD ops o σ run' skip' := by
  unfold guardD at h ⊢
  split at h
  · exact h1 _ h
  · split at h
    · exact h.elim
    · split at h
      · exact h.elim
      · split at h
        · rename_i b hb
          refine Br.intro (fun e => ?_) (fun e => ?_)
          · rw [e] at h; exact h1 _ h
          · rw [e] at h
            have h : (bif dstOk σ o.dst then skip ((σ.put (some _) (.lit (.bool (!_)))).put o.dst (.tup [])) else False) := h
            cases hd : dstOk σ o.dst with
            | false => rw [hd] at h; exact h.elim
            | true => rw [hd] at h; exact h2 _ h
        · cases hd : dstOk σ o.dst with
          | false => rw [hd] at h; exact h.elim
          | true => rw [hd] at h; exact h2 _ h
        · exact h.elim
theorem quietD_imp {tt : TT} {i : Nat} {o : Oper} {rd : List (Nat × Key)} {σ : St} {K K' : List (Nat × Key) → St → Prop} (h : quietD tt i o rd σ K) (hk : ∀ rd σ, K rd σ → K' rd σ) : quietD tt i o rd σ K' := by
  unfold quietD at h ⊢
  split at h
  · split at h
    · split at h
      · cases hd : dstOk σ o.dst with
        | false => rw [hd] at h; exact h.elim
        | true => rw [hd] at h; exact hk _ _ h
      · exact h.elim
    · exact h.elim
  · cases hd : dstOk σ o.dst with
    | false => rw [hd] at h; exact h.elim
    | true => rw [hd] at h; exact run_imp (fun x => hk _ _) h
theorem loudD_imp {P : Program} {tt : TT} {o : Oper} {rd : List (Nat × Key)} {σ : St} {K K' : St → Prop} (h : loudD P tt o σ rd K) (hk : ∀ σ, K σ → K' σ) : loudD P tt o σ rd K' := by
  have ha : aop P tt o σ K → aop P tt o σ K' := fun h => aop_form h fun hp x _ => hk _
  unfold loudD at h ⊢
  split at h
  · exact ha h
  · split at h
    · split at h
      · rename_i y hy
        cases hb : keyB y (openReads o rd) with
        | true => rw [hb] at h; exact h.elim
        | false => rw [hb] at h; exact ha h
      · exact h.elim
    · split at h
      · split at h
        · unfold callS at h ⊢
          split at h
          · cases hd : dstOk σ o.dst with
            | false => rw [hd] at h; exact h.elim
            | true => rw [hd] at h; exact h.mono fun r hp' hh => ⟨hh.1, hk _ hh.2⟩
          · cases hd : dstOk σ o.dst with
            | false => rw [hd] at h; exact h.elim
            | true => rw [hd] at h; exact h.mono fun r hp' hh => ⟨hh.1, hk _ hh.2⟩
          · exact h.elim
        · exact h.elim
      · exact ha h
      · exact h.elim
    all_goals first | exact h.elim | exact ha h
theorem arunD_plan {P : Program} {tt : TT} {ops : Array Oper} {K : St → Prop} : ∀ {plan : List (Nat × Bool)} {done : List Nat} {rd : List (Nat × Key)} {σ : St}, planOk ops done plan = true → arunP P tt ops K plan rd σ → arunD P tt ops K (plan.length + 1) done rd σ
  | [], done, rd, σ, hp, h => by
    simp only [planOk, Bool.and_eq_true] at hp
    obtain ⟨⟨h1, h2⟩, h3⟩ := hp
    unfold arunD
    cases hf : firstQuiet ops.toList done 0 ops.toList with
    | some x => rw [hf] at h1; simp [isNoneB] at h1
    | none =>
      cases hl : readyLouds done 0 ops.toList with
      | nil => simp only [h3, cond_true]; exact h
      | cons x r => rw [hl] at h2; simp at h2
  | (i, loud) :: r, done, rd, σ, hp, h => by
    simp only [planOk, Bool.and_eq_true] at hp
    obtain ⟨h1, h2⟩ := hp
    have ih : ∀ rd σ, arunP P tt ops K r rd σ → arunD P tt ops K (r.length + 1) (i :: done) rd σ := fun rd σ => arunD_plan h2
    unfold arunP at h
    split at h
    · exact h.elim
    · rename_i o ho
      show arunD P tt ops K (r.length + 1 + 1) done rd σ
      unfold arunD
      cases loud with
      | false =>
        simp only [cond_false] at h1 h
        cases hf : firstQuiet ops.toList done 0 ops.toList with
        | none => rw [hf] at h1; simp [fstIs] at h1
        | some x =>
          obtain ⟨j, p⟩ := x
          rw [hf] at h1
          obtain rfl := Nat.eq_of_beq_eq_true h1
          have hj := (firstQuiet_some (ops := ops.toList) (fun k => by simp) hf).1
          have : p = o := by
            have : ops[j]? = some p := by simpa using hj
            rw [ho] at this; cases this; rfl
          subst this
          exact guardD_imp h (fun σ h => quietD_imp h fun rd σ => ih rd σ) (fun σ => ih rd σ)
      | true =>
        simp only [cond_true, Bool.and_eq_true] at h1
        simp only [cond_true] at h
        cases hf : firstQuiet ops.toList done 0 ops.toList with
        | some x => rw [hf] at h1; simp [isNoneB] at h1
        | none =>
          cases hl : readyLouds done 0 ops.toList with
          | nil => rw [hl] at h1; simp [onlyIs] at h1
          | cons x l =>
            cases l with
            | cons y l => rw [hl] at h1; simp [onlyIs] at h1
            | nil =>
              obtain ⟨j, p⟩ := x
              rw [hl] at h1
              obtain rfl := Nat.eq_of_beq_eq_true h1.2
              have hj := (readyLouds_mem (ops := ops.toList) (l := ops.toList) (i := 0) (fun k => by simp) (x := (j, p)) (by rw [hl]; exact List.mem_cons_self)).1
              have : p = o := by
                have : ops[j]? = some p := by simpa using hj
                rw [ho] at this; cases this; rfl
              subst this
              exact guardD_imp h (fun σ h => loudD_imp h fun σ => ih rd σ) (fun σ => ih rd σ)
/-- A drawn region, by a plan. -/
theorem arunDraw_plan {P : Program} {B : Base} {tt : TT} {ops : Array Oper} {σ : St} {K : St → Prop} (ok : TTOk P tt) (hm : P.follows .mixedOrders = true) (plan : List (Nat × Bool)) (hap : (apartB ops && planOk ops [] plan) = true) (h : arunP P tt ops K plan [] σ) : arunDraw P B tt ops σ K := by
  simp only [Bool.and_eq_true] at hap
  exact arunDraw_of ok hm hap.1 (arunD_plan hap.2 h)
end Go.Ax
