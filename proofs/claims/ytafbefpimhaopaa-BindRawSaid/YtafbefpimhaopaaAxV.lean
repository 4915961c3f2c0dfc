/- Ax, part V: loops' heads told anew, made easy. No project text. -/
import Derived.Test.YtafbefpimhaopaaAxU
set_option linter.unusedVariables false
set_option linter.unusedSimpArgs false
set_option linter.unnecessarySimpa false
set_option linter.unusedSectionVars false
namespace Go.Ax

def envCov (ρ : List (Nat × Nat)) (nb : Nat) (env : List (Nat × AV)) : List (Nat × AV) → Prop
  | [] => True
  | (s, x') :: r => (∃ x, look s env = some x ∧ ren ρ nb x = some x') ∧ envCov ρ nb env r
theorem envCov_look {ρ : List (Nat × Nat)} {nb : Nat} {env : List (Nat × AV)} : ∀ {l : List (Nat × AV)}, envCov ρ nb env l → ∀ s x', look s l = some x' → ∃ x, look s env = some x ∧ ren ρ nb x = some x'
  | [], _, s, x', h => by simp [look] at h
  | (s0, x0) :: r, hc, s, x', h => by
    rw [look_cons] at h
    split at h
    · rename_i e; subst e; simp at h; subst h; exact hc.1
    · exact envCov_look hc.2 s x' h
def boxCov (ρ : List (Nat × Nat)) (nb : Nat) (bs : List (Key × Box)) : List (Nat × List AV) → Prop
  | [] => True
  | (i, cs') :: r => (Nat.blt i nb = true ∧ ∃ cs, find (.l i) bs = some (.cells cs) ∧ rens (ren1 ρ nb) cs = some cs') ∧ boxCov ρ nb bs r
def boxesOf : List (Nat × List AV) → List (Key × Box)
  | [] => []
  | (i, cs) :: r => (.l i, .cells cs) :: boxesOf r
theorem boxCov_find {ρ : List (Nat × Nat)} {nb : Nat} {bs : List (Key × Box)} : ∀ {l : List (Nat × List AV)}, boxCov ρ nb bs l → ∀ k b', find k (boxesOf l) = some b' →
    ∃ i, k = .l i ∧ i < nb ∧ ((∃ cs cs', find k bs = some (.cells cs) ∧ b' = .cells cs' ∧ rens (ren1 ρ nb) cs = some cs') ∨ ∃ sz items, find k bs = some (.row sz items) ∧ b' = .row sz items ∧ (flat items).all AV.data1 = true)
  | [], _, k, b', h => by simp [boxesOf, find] at h
  | (i, cs') :: r, hc, k, b', h => by
    simp only [boxesOf, find_cons] at h
    split at h
    · rename_i e; subst e; simp at h; subst h
      obtain ⟨⟨h1, cs, h2, h3⟩, _⟩ := hc
      exact ⟨i, rfl, nat_blt h1, .inl ⟨cs, cs', h2, rfl, h3⟩⟩
    · exact boxCov_find hc.2 k b' h

theorem envCov.nil {ρ : List (Nat × Nat)} {nb : Nat} {env : List (Nat × AV)} : envCov ρ nb env [] := trivial
theorem envCov.cons {ρ : List (Nat × Nat)} {nb : Nat} {env : List (Nat × AV)} {s : Nat} {x x' : AV} {r : List (Nat × AV)} (h : look s env = some x) (h' : ren ρ nb x = some x') (hr : envCov ρ nb env r) : envCov ρ nb env ((s, x') :: r) := ⟨⟨x, h, h'⟩, hr⟩
theorem boxCov.nil {ρ : List (Nat × Nat)} {nb : Nat} {bs : List (Key × Box)} : boxCov ρ nb bs [] := trivial
theorem boxCov.cons {ρ : List (Nat × Nat)} {nb : Nat} {bs : List (Key × Box)} {i : Nat} {cs cs' : List AV} {r : List (Nat × List AV)} (h0 : Nat.blt i nb = true) (h : find (.l i) bs = some (.cells cs)) (h' : rens (ren1 ρ nb) cs = some cs') (hr : boxCov ρ nb bs r) : boxCov ρ nb bs ((i, cs') :: r) := ⟨⟨h0, cs, h, h'⟩, hr⟩
/-- Rows' numbers 0, 1, .. in place of these. -/
def numOff : Nat → List Nat → List (Nat × Nat)
  | _, [] => []
  | j, i :: r => (i, j) :: numOff (j + 1) r
def upTo : Nat → Nat → List Nat
  | _, 0 => []
  | j, n + 1 => j :: upTo (j + 1) n
theorem back_num {i j : Nat} : ∀ {l : List Nat} {k : Nat}, backTok (numOff k l) j = some i → k ≤ j ∧ j < k + l.length ∧ i ∈ l ∧ l[j - k]? = some i
  | [], k, h => by simp [numOff, backTok] at h
  | x :: r, k, h => by
    simp only [numOff, backTok] at h
    cases hb : Nat.beq j k with
    | true =>
      rw [hb] at h; simp at h; subst h
      have := Nat.eq_of_beq_eq_true hb
      subst this
      simp
    | false =>
      rw [hb] at h
      obtain ⟨h1, h2, h3, h4⟩ := back_num (l := r) (k := k + 1) h
      refine ⟨by omega, by simp; omega, List.mem_cons_of_mem _ h3, ?_⟩
      rw [show j - k = (j - (k + 1)) + 1 by omega]; simpa using h4
theorem num_back {i j : Nat} : ∀ {l : List Nat} {k : Nat}, l.Nodup → renTok (numOff k l) i = some j → backTok (numOff k l) j = some i ∧ k ≤ j ∧ j < k + l.length
  | [], k, _, h => by simp [numOff, renTok] at h
  | x :: r, k, hn, h => by
    simp only [numOff, renTok] at h
    cases hb : Nat.beq i x with
    | true =>
      rw [hb] at h; simp at h; subst h
      have := Nat.eq_of_beq_eq_true hb
      subst this
      simp [numOff, backTok]
    | false =>
      rw [hb] at h
      obtain ⟨h1, h2, h3⟩ := num_back (l := r) (k := k + 1) (List.nodup_cons.1 hn).2 h
      refine ⟨?_, by omega, by simp; omega⟩
      simp only [numOff, backTok]
      have : Nat.beq j k = false := by
        cases hb : Nat.beq j k with
        | true => have := Nat.eq_of_beq_eq_true hb; omega
        | false => rfl
      rw [this]; exact h1
theorem mem_upTo {j : Nat} : ∀ {n k : Nat}, j ∈ upTo k n → k ≤ j ∧ j < k + n
  | 0, k, h => by simp [upTo] at h
  | n + 1, k, h => by
    simp only [upTo, List.mem_cons] at h
    rcases h with rfl | h
    · omega
    · have := mem_upTo h; omega
theorem back_some {j : Nat} : ∀ {l : List Nat} {k : Nat}, k ≤ j → j < k + l.length → ∃ i, backTok (numOff k l) j = some i
  | [], k, h1, h2 => by simp at h2; omega
  | x :: r, k, h1, h2 => by
    simp only [numOff, backTok]
    cases hb : Nat.beq j k with
    | true => exact ⟨x, rfl⟩
    | false =>
      have hne : j ≠ k := by intro e; subst e; simp at hb
      exact back_some (by omega) (by simp at h2; omega)
def nodupB : List Nat → Bool
  | [] => true
  | x :: r => !memN x r && nodupB r
theorem memN_of {i : Nat} : ∀ {l : List Nat}, i ∈ l → memN i l = true
  | [], h => by simp at h
  | j :: r, h => by
    simp only [memN, Bool.or_eq_true]
    rcases List.mem_cons.1 h with rfl | h
    · exact .inl (by simp)
    · exact .inr (memN_of h)
theorem nodup_of : ∀ {l : List Nat}, nodupB l = true → l.Nodup
  | [], _ => List.nodup_nil
  | x :: r, h => by
    simp only [nodupB, Bool.and_eq_true, Bool.not_eq_true'] at h
    refine List.nodup_cons.2 ⟨fun hm => ?_, nodup_of h.2⟩
    rw [memN_of hm] at h; simp at h

/-- A state with these slots, variables and rows (by the numbers that they have there; they become 0, 1, ..). -/
def St.of (env : List (Nat × AV)) (size : Nat) (boxes : List (Nat × List AV)) (nb n : Nat) : St := ⟨env, size, ⟨boxesOf boxes, nb, n, upTo 0 n⟩, []⟩
theorem cov_of {σ : St} {env : List (Nat × AV)} {size : Nat} {boxes : List (Nat × List AV)} {nb : Nat} (toks : List Nat) (hs : size = σ.size) (hnb : Nat.ble nb σ.hp.nb = true) (ht : toks.all (fun i => memN i σ.hp.alive) = true) (hd : nodupB toks = true)
    (he : envCov (numOff 0 toks) nb σ.env env) (hb : boxCov (numOff 0 toks) nb σ.hp.boxes boxes) : Cov (numOff 0 toks) σ (St.of env size boxes nb toks.length) := by
  have hn := nodup_of hd
  refine ⟨hs, envCov_look he, boxCov_find hb, Nat.le_of_ble_eq_true hnb, fun j hj => ?_, fun i j h => ?_, fun i i' j h h' => ?_⟩
  · have := mem_upTo hj
    obtain ⟨i, hi⟩ := back_some (l := toks) (k := 0) this.1 this.2
    exact ⟨by simp [St.of]; omega, i, hi, memN_mem (List.all_eq_true.1 ht i (back_num hi).2.2.1)⟩
  · obtain ⟨h1, h2, h3⟩ := num_back hn h
    exact ⟨h1, by simp [St.of]; omega⟩
  · obtain ⟨a1, a2, a3, a4⟩ := back_num h
    obtain ⟨b1, b2, b3, b4⟩ := back_num h'
    have := (List.getElem?_inj (l := toks) (show i - 0 < toks.length by omega) hn).1 (a4.trans b4.symm)
    omega
/-- A loop, by what holds at its head. -/
theorem aloop_inv {P : Program} {B : Base} {c : Code} {Q : AExit → St → Prop} {α : Type} (S : α → St) (I : α → Prop) (μ : α → Nat)
    (h : ∀ x, I x → (∀ y, I y → μ y < μ x → aloop P B c (S y) Q) → aloop P B c (S x) Q) (x : α) (hx : I x) : aloop P B c (S x) Q := by
  generalize hm : μ x = m
  induction m using Nat.strongRecOn generalizing x with
  | _ m ih => exact h x hx (fun y hy hlt => ih (μ y) (hm ▸ hlt) y hy rfl)
/-- At a cut: on. -/
theorem acut_run {P : Program} {B : Base} {tt : TT} {c : Code} {σ : St} {Q : AExit → St → Prop} (ok : TTOk P tt) (h : arun P B tt c σ Q) : awp P B c σ Q := arun_awp ok c σ Q h
/-- The rest of code behind n statements. -/
def dropS : Nat → Code → Code
  | 0, c => c
  | n + 1, .seq _ b => dropS n b
  | _ + 1, c => c
def bodyOf (fn : Func) : Code := match fn.body with
  | some c => c
  | none => .skip
end Go.Ax
