/- Ax, part Y: regions whose order is drawn: the simulation. No project text. -/
import Derived.Test.YtafbefpimhaopaaAxX
set_option linter.unusedVariables false
set_option linter.unusedSimpArgs false
set_option linter.unnecessarySimpa false
set_option linter.unusedSectionVars false
namespace Go.Ax

theorem memN_iff {i : Nat} : ∀ {l : List Nat}, memN i l = true ↔ i ∈ l
  | [] => by simp [memN]
  | j :: r => by
    simp only [memN, Bool.or_eq_true, List.mem_cons, memN_iff (l := r), Nat.beq_eq]
theorem memN_false {i : Nat} {l : List Nat} : memN i l = false ↔ i ∉ l := by
  rw [← Bool.not_eq_true, memN_iff]
theorem readyB_iff {done : List Nat} {o : Oper} : readyB done o = true ↔ ∀ e, e ∈ o.after → Region.binds .any e = true → e.on ∈ done := by
  simp only [readyB, List.all_eq_true, Bool.or_eq_true, Bool.not_eq_true', memN_iff, Array.mem_toList_iff]
  constructor
  · intro h e he hb
    exact (h e he).resolve_left (by simp [hb])
  · intro h e he
    cases hb : Region.binds .any e
    · exact .inl rfl
    · exact .inr (h e he hb)
theorem edgeB_iff {p : Oper} {i : Nat} : edgeB p i = true ↔ ∃ e, e ∈ p.after ∧ Region.binds .any e = true ∧ e.on = i := by
  rw [edgeB, List.any_eq_true]
  constructor
  · rintro ⟨e, he, h⟩
    simp only [Bool.and_eq_true, Nat.beq_eq] at h
    exact ⟨e, by simpa using he, h.1, h.2⟩
  · rintro ⟨e, he, h1, h2⟩
    exact ⟨e, by simpa using he, by simp only [Bool.and_eq_true, Nat.beq_eq]; exact ⟨h1, h2⟩⟩
theorem firstQuiet_some {ops : List Oper} {done : List Nat} {q : Nat} {o : Oper} : ∀ {l : List Oper} {i : Nat}, (∀ k, l[k]? = ops[i + k]?) → firstQuiet ops done i l = some (q, o) → ops[q]? = some o ∧ isQuiet o.op = true ∧ q ∉ done ∧ readyB done o = true
  | [], i, hl, h => by simp [firstQuiet] at h
  | p :: r, i, hl, h => by
    unfold firstQuiet at h
    cases hc : (isQuiet p.op && !memN i done && readyB done p) with
    | true =>
      rw [hc] at h
      simp only [cond_true, Option.some.injEq, Prod.mk.injEq] at h
      obtain ⟨rfl, rfl⟩ := h
      simp only [Bool.and_eq_true, Bool.not_eq_true', memN_false] at hc
      exact ⟨by have := hl 0; simpa using this.symm, hc.1.1, hc.1.2, hc.2⟩
    | false =>
      rw [hc] at h
      exact firstQuiet_some (l := r) (i := i + 1) (fun k => by have := hl (k + 1); simp at this; rw [this]; congr 1; omega) h
theorem readyLouds_mem {ops : List Oper} {done : List Nat} {x : Nat × Oper} : ∀ {l : List Oper} {i : Nat}, (∀ k, l[k]? = ops[i + k]?) → x ∈ readyLouds done i l → ops[x.1]? = some x.2 ∧ x.1 ∉ done ∧ readyB done x.2 = true
  | [], i, hl, h => by simp [readyLouds] at h
  | p :: r, i, hl, h => by
    have rest : x ∈ readyLouds done (i + 1) r → _ := readyLouds_mem (ops := ops) (l := r) (i := i + 1) (fun k => by have := hl (k + 1); simp at this; rw [this]; congr 1; omega)
    unfold readyLouds at h
    cases hc : (!memN i done && readyB done p) with
    | true =>
      rw [hc] at h
      rcases List.mem_cons.1 h with rfl | h
      · simp only [Bool.and_eq_true, Bool.not_eq_true', memN_false] at hc
        exact ⟨by have := hl 0; simpa using this.symm, hc.1, hc.2⟩
      · exact rest h
    | false => rw [hc] at h; exact rest h
theorem mem_readyLouds {done : List Nat} {j : Nat} {o : Oper} : ∀ {l : List Oper} {i : Nat}, l[j]? = some o → i + j ∉ done → readyB done o = true → (i + j, o) ∈ readyLouds done i l := by
  induction j with
  | zero =>
    intro l i hl hd hr
    cases l with
    | nil => simp at hl
    | cons p r =>
      simp at hl; subst hl
      simp [readyLouds, hr, memN_false.2 (by simpa using hd)]
  | succ j ih =>
    intro l i hl hd hr
    cases l with
    | nil => simp at hl
    | cons p r =>
      have := ih (l := r) (i := i + 1) (by simpa using hl) (by rw [show i + 1 + j = i + (j + 1) by omega]; exact hd) hr
      rw [show i + 1 + j = i + (j + 1) by omega] at this
      unfold readyLouds
      cases (!memN i done && readyB done p)
      · exact this
      · exact List.mem_cons_of_mem _ this
theorem firstQuiet_none {done : List Nat} {j : Nat} {o : Oper} : ∀ {l : List Oper} {i : Nat} {ops : List Oper}, firstQuiet ops done i l = none → l[j]? = some o → i + j ∉ done → readyB done o = true → isQuiet o.op = false := by
  induction j with
  | zero =>
    intro l i ops h hl hd hr
    cases l with
    | nil => simp at hl
    | cons p r =>
      simp at hl; subst hl
      unfold firstQuiet at h
      cases hq : isQuiet p.op with
      | false => rfl
      | true => simp [hq, hr, memN_false.2 (show i ∉ done by simpa using hd)] at h
  | succ j ih =>
    intro l i ops h hl hd hr
    cases l with
    | nil => simp at hl
    | cons p r =>
      unfold firstQuiet at h
      cases hc : (isQuiet p.op && !memN i done && readyB done p) with
      | true => rw [hc] at h; simp at h
      | false =>
        rw [hc] at h
        exact ih h (by simpa using hl) (by rw [show i + 1 + j = i + (j + 1) by omega]; exact hd) hr
theorem eachD_cons {f : Nat × Oper → Prop} {y : Nat × Oper} {r : List (Nat × Oper)} (h : eachD f (y :: r)) : f y ∧ eachD f r := by
  cases r with
  | nil => exact ⟨h, trivial⟩
  | cons z r => exact h
theorem eachD_mem {f : Nat × Oper → Prop} {x : Nat × Oper} {l : List (Nat × Oper)} : eachD f l → x ∈ l → f x := by
  induction l with
  | nil => intro _ hx; cases hx
  | cons y r ih =>
    intro h hx
    obtain ⟨h1, h2⟩ := eachD_cons h
    cases hx with
    | head => exact h1
    | tail _ hx => exact ih h2 hx
theorem apart_of {ops : Array Oper} (h : apartB ops = true) {i j : Nat} {o p : Oper} {d : Tmp} (hi : ops[i]? = some o) (hj : ops[j]? = some p) (hne : i ≠ j) (hd : o.dst = some d) :
    (d ∈ tmpsOf ops p → edgeB p i = true ∨ (isQuiet o.op = false ∧ edgeB o j = true)) ∧ p.dst ≠ some d := by
  unfold apartB at h
  have h1 := List.all_eq_true.1 h (o, i) (by rw [List.mem_zipIdx_iff_getElem?]; simpa using hi)
  simp only [hd] at h1
  have h2 := List.all_eq_true.1 h1 (p, j) (by rw [List.mem_zipIdx_iff_getElem?]; simpa using hj)
  have hb : Nat.beq i j = false := by
    cases hb : Nat.beq i j with
    | true => exact absurd (Nat.eq_of_beq_eq_true hb) hne
    | false => rfl
  simp only [hb, cond_false, Bool.and_eq_true, Bool.or_eq_true, Bool.not_eq_true', bne_iff_ne, ne_eq] at h2
  refine ⟨fun hm => ?_, h2.2⟩
  rcases h2.1 with (h2 | h2) | h2
  · rw [List.contains_eq_mem] at h2; simp [hm] at h2
  · exact .inl h2
  · exact .inr h2
theorem apart_self {ops : Array Oper} (h : apartB ops = true) {i : Nat} {o : Oper} {d : Tmp} (hi : ops[i]? = some o) (hd : o.dst = some d) : d ∉ tmpsOf ops o := by
  unfold apartB at h
  have h1 := List.all_eq_true.1 h (o, i) (by rw [List.mem_zipIdx_iff_getElem?]; simpa using hi)
  simp only [hd] at h1
  have h2 := List.all_eq_true.1 h1 (o, i) (by rw [List.mem_zipIdx_iff_getElem?]; simpa using hi)
  simp only [Nat.beq_refl, cond_true, Bool.not_eq_true'] at h2
  intro hm
  rw [List.contains_eq_mem] at h2; simp [hm] at h2
end Go.Ax
