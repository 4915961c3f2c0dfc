/- Ax, part U: a state is told anew at a loop's head; calls that leave all as it was. No project text. -/
import Derived.Test.YtafbefpimhaopaaAxR
set_option linter.unusedVariables false
set_option linter.unusedSimpArgs false
set_option linter.unnecessarySimpa false
set_option linter.unusedSectionVars false
namespace Go.Ax

def renTok (ρ : List (Nat × Nat)) (i : Nat) : Option Nat :=
  match ρ with
  | [] => none
  | (o, n) :: r => bif Nat.beq i o then some n else renTok r i
def backTok (ρ : List (Nat × Nat)) (i : Nat) : Option Nat :=
  match ρ with
  | [] => none
  | (o, n) :: r => bif Nat.beq i n then some o else backTok r i
/-- A cell told anew: rows by new numbers; variables below nb alone. -/
def ren1 (ρ : List (Nat × Nat)) (nb : Nat) : AV → Option AV
  | .slice sz (.loc i) items => match renTok ρ i with
    | some j => some (.slice sz (.loc j) items)
    | none => some (.slice sz .dead items)
  | .row k n => bif Nat.blt k nb then some (.row k n) else none
  | .ptr (.l i) off => bif Nat.blt i nb then some (.ptr (.l i) off) else none
  | .rptr k sz i off => bif Nat.blt k nb then some (.rptr k sz i off) else none
  | .clo fn is => bif is.all (fun i => Nat.blt i nb) then some (.clo fn is) else none
  | x => some x
def rens (f : AV → Option AV) : List AV → Option (List AV)
  | [] => some []
  | x :: r => match f x, rens f r with
    | some y, some s => some (y :: s)
    | _, _ => none
def ren (ρ : List (Nat × Nat)) (nb : Nat) : AV → Option AV
  | .agg cs => match rens (ren1 ρ nb) cs with
    | some ds => some (.agg ds)
    | none => none
  | .tup _ => none
  | x => ren1 ρ nb x
/-- The new numbers are apart, and each comes back from its old one. -/
def renOk (ρ : List (Nat × Nat)) : List (Nat × Nat) → Bool
  | [] => true
  | (o, n) :: r => (match renTok ρ o with
    | some m => Nat.beq m n
    | none => false) && (match backTok ρ n with
    | some m => Nat.beq m o
    | none => false) && renOk ρ r
/-- σ' tells less than σ: slots of which it speaks, variables below its nb, rows by the numbers ρ gives. -/
structure Cov (ρ : List (Nat × Nat)) (σ σ' : St) : Prop where
  size : σ'.size = σ.size
  env : ∀ s x', look s σ'.env = some x' → ∃ x, look s σ.env = some x ∧ ren ρ σ'.hp.nb x = some x'
  boxes : ∀ k b', find k σ'.hp.boxes = some b' → ∃ i, k = .l i ∧ i < σ'.hp.nb ∧ ((∃ cs cs', find k σ.hp.boxes = some (.cells cs) ∧ b' = .cells cs' ∧ rens (ren1 ρ σ'.hp.nb) cs = some cs') ∨
    ∃ sz items, find k σ.hp.boxes = some (.row sz items) ∧ b' = .row sz items ∧ (flat items).all AV.data1 = true)
  nb : σ'.hp.nb ≤ σ.hp.nb
  alive : ∀ j, j ∈ σ'.hp.alive → j < σ'.hp.nt ∧ ∃ i, backTok ρ j = some i ∧ i ∈ σ.hp.alive
  ok : ∀ i j, renTok ρ i = some j → backTok ρ j = some i ∧ j < σ'.hp.nt
  inj : ∀ i i' j, backTok ρ i = some j → backTok ρ i' = some j → i = i'

section
variable {P : Program} {E : Entry} {G : Gh} {σ σ' : St} {a : Act} {w : World} {ρ : List (Nat × Nat)}

def renG (G : Gh) (ρ : List (Nat × Nat)) (nb nt : Nat) : Gh := ⟨fun i => if i < nb then G.κ i else none, fun j => if j < nt then (backTok ρ j).bind G.τ else none, G.L, G.ν⟩

theorem vars_ren {nb nt : Nat} : ∀ {is : List Nat} {vs : List Value}, is.all (fun i => Nat.blt i nb) = true → All2 (fun i u => ∃ b, G.κ i = some b ∧ u = Value.pointer (some ⟨b, 0, none⟩)) is vs →
    All2 (fun i u => ∃ b, (renG G ρ nb nt).κ i = some b ∧ u = Value.pointer (some ⟨b, 0, none⟩)) is vs
  | [], _, _, .nil => .nil
  | i :: is, _, h, .cons ⟨b, hk, hu⟩ t => by
    simp only [List.all_cons, Bool.and_eq_true] at h
    exact .cons ⟨b, by simp [renG, nat_blt h.1, hk], hu⟩ (vars_ren h.2 t)
theorem ren1_rep {nb nt : Nat} (hok : ∀ i j, renTok ρ i = some j → backTok ρ j = some i ∧ j < nt) {x x' : AV} {v : Value} (h : Rep1 G w x v) (hr : ren1 ρ nb x = some x') : Rep1 (renG G ρ nb nt) w x' v := by
  unfold ren1 at hr
  split at hr
  · rename_i sz i items
    obtain ⟨A, n, c, rfl, ht, hD⟩ := h
    split at hr
    · rename_i j hj
      simp at hr; subst hr
      obtain ⟨h1, h2⟩ := hok i j hj
      exact ⟨A, n, c, rfl, by simp [renG, h1, h2, ht], hD⟩
    · simp at hr; subst hr; exact hD
  · rename_i k n
    obtain ⟨b, hk, h⟩ := h
    cases hlt : Nat.blt k nb with
    | false => rw [hlt] at hr; simp at hr
    | true => rw [hlt] at hr; simp at hr; subst hr; exact ⟨b, by simp [renG, nat_blt hlt, hk], h⟩
  · rename_i i off
    obtain ⟨b, hk, h⟩ := h
    cases hlt : Nat.blt i nb with
    | false => rw [hlt] at hr; simp at hr
    | true => rw [hlt] at hr; simp at hr; subst hr; exact ⟨b, by simp [renG, nat_blt hlt, hk], h⟩
  · rename_i k sz i off
    obtain ⟨b, hk, h⟩ := h
    cases hlt : Nat.blt k nb with
    | false => rw [hlt] at hr; simp at hr
    | true => rw [hlt] at hr; simp at hr; subst hr; exact ⟨b, by simp [renG, nat_blt hlt, hk], h⟩
  · rename_i fn is
    obtain ⟨vs, rfl, h⟩ := h
    cases hlt : is.all (fun i => Nat.blt i nb) with
    | false => rw [hlt] at hr; simp at hr
    | true => rw [hlt] at hr; simp at hr; subst hr; exact ⟨vs, rfl, vars_ren hlt h⟩
  · rename_i n1 n2 n3 n4 n5
    simp at hr; subst hr
    have : RepD G.L w x v := by
      unfold Rep1 at h
      split at h
      · exact (n1 _ _ _ rfl).elim
      · exact (n2 _ _ rfl).elim
      · exact (n3 _ _ rfl).elim
      · exact (n4 _ _ _ _ rfl).elim
      · exact (n5 _ _ rfl).elim
      · exact h
    exact rep1_ofD this
theorem ren1_one {nb : Nat} {x x' : AV} (hr : ren1 ρ nb x = some x') : x'.one = x.one := by
  unfold ren1 at hr
  split at hr
  · split at hr <;> (simp at hr; subst hr; rfl)
  · cases hlt : Nat.blt _ nb <;> rw [hlt] at hr <;> simp at hr; subst hr; rfl
  · cases hlt : Nat.blt _ nb <;> rw [hlt] at hr <;> simp at hr; subst hr; rfl
  · cases hlt : Nat.blt _ nb <;> rw [hlt] at hr <;> simp at hr; subst hr; rfl
  · rename_i fn is
    cases hlt : is.all (fun i => Nat.blt i nb) <;> rw [hlt] at hr <;> simp at hr; subst hr; rfl
  · simp at hr; subst hr; rfl
theorem rens_rep {nb nt : Nat} (hok : ∀ i j, renTok ρ i = some j → backTok ρ j = some i ∧ j < nt) : ∀ {cs cs' : List AV} {vs : List Value}, All2 (Rep1 G w) cs vs → (∀ y, y ∈ cs → y.one = true) → rens (ren1 ρ nb) cs = some cs' →
    All2 (Rep1 (renG G ρ nb nt) w) cs' vs ∧ ∀ y, y ∈ cs' → y.one = true
  | [], cs', _, .nil, _, h => by simp [rens] at h; subst h; exact ⟨.nil, by simp⟩
  | x :: cs, cs', _, .cons hx ht, h1, h => by
    simp only [rens] at h
    split at h
    · rename_i y s hy hs
      simp at h; subst h
      obtain ⟨a1, a2⟩ := rens_rep hok ht (fun y hy => h1 y (List.mem_cons_of_mem _ hy)) hs
      refine ⟨.cons (ren1_rep hok hx hy) a1, ?_⟩
      intro z hz
      cases hz with
      | head => rw [ren1_one hy]; exact h1 x (by simp)
      | tail _ hz => exact a2 z hz
    · simp at h
theorem ren_eq {nb : Nat} {x : AV} (h : ∀ cs, x ≠ .agg cs) (h' : ∀ cs, x ≠ .tup cs) : ren ρ nb x = ren1 ρ nb x := by
  cases x <;> first | rfl | exact absurd rfl (h _) | exact absurd rfl (h' _)
theorem ren_rep {nb nt : Nat} (hok : ∀ i j, renTok ρ i = some j → backTok ρ j = some i ∧ j < nt) {x x' : AV} {v : Value} (h : Rep G w x v) (hr : ren ρ nb x = some x') : Rep (renG G ρ nb nt) w x' v := by
  cases x with
  | agg cs =>
    rw [rep_eq (by simp)] at h
    obtain ⟨h1, vs, rfl, ha⟩ := h
    simp only [ren] at hr
    split at hr
    · rename_i ds hds
      simp at hr; subst hr
      obtain ⟨a1, a2⟩ := rens_rep hok ha h1 hds
      exact rep_agg a2 a1
    · simp at hr
  | tup cs => simp [ren] at hr
  | _ =>
    rw [rep_eq (by simp), rep2_eq (by simp)] at h
    have hr' := (ren_eq (by simp) (by simp)).symm.trans hr
    rw [rep_one ((ren1_one hr').trans rfl)]
    exact ren1_rep hok h hr'

theorem Cov.live (C : Cov ρ σ σ') (k : Key) (b' : Box) (h : find k σ'.hp.boxes = some b') : ∃ b, find k σ.hp.boxes = some b ∧ b.live = true := by
  obtain ⟨i, rfl, _, hcase⟩ := C.boxes k b' h
  rcases hcase with ⟨cs, cs', hf, _⟩ | ⟨sz, items, hf, _⟩
  · exact ⟨_, hf, rfl⟩
  · exact ⟨_, hf, rfl⟩
theorem Cov.inv (C : Cov ρ σ σ') (I : Inv E G σ [] a w) : Inv E (renG G ρ σ'.hp.nb σ'.hp.nt) σ' [] a w := by
  have kat : ∀ k b, (renG G ρ σ'.hp.nb σ'.hp.nt).at k = some b → G.at k = some b := by
    intro k b h
    cases k with
    | l i => simp only [Gh.at, renG] at h ⊢; split at h <;> simp_all
    | o c => exact h
  have tau : ∀ j x, (renG G ρ σ'.hp.nb σ'.hp.nt).τ j = some x → ∃ i, backTok ρ j = some i ∧ G.τ i = some x := by
    intro j x h
    simp only [renG] at h
    split at h
    · cases hb : backTok ρ j with
      | none => rw [hb] at h; simp at h
      | some i => rw [hb] at h; exact ⟨i, rfl, h⟩
    · simp at h
  refine ⟨I.defers, I.tmps.trans C.size.symm, ?_, ⟨⟨?_, ?_, ?_⟩, ⟨?_, ?_, ?_⟩, ⟨I.h.frame.os, I.h.frame.tape, I.h.frame.output, I.h.frame.size, I.h.frame.old, I.h.frame.top⟩, ?_, ?_, ?_, ?_, ?_⟩⟩
  · intro s x' hx' _
    obtain ⟨x, hx, hr⟩ := C.env s x' hx'
    exact ren_rep C.ok (I.env s x hx (by simp)) hr
  · intro k b' b hf hb
    obtain ⟨i, rfl, hi, hcase⟩ := C.boxes k b' hf
    rcases hcase with ⟨cs, cs', hf2, rfl, hr⟩ | ⟨sz, items, hf2, rfl, hd⟩
    · obtain ⟨V, e, h1, h2, h3, h4⟩ := I.h.boxes.rel _ _ b hf2 (kat _ _ hb)
      obtain ⟨a1, a2⟩ := rens_rep (nt := σ'.hp.nt) C.ok h4 h3 hr
      exact ⟨V, e, h1, h2, a2, a1⟩
    · obtain ⟨V, D, e, h1, h2, h3, h4, h5, h6⟩ := I.h.boxes.rel _ _ b hf2 (kat _ _ hb)
      exact ⟨V, D, e, h1, h2, h3, h4, (all_toD (fun _ _ => rep1_toD) h5 hd).imp fun _ _ h => rep1_ofD (G := renG G ρ σ'.hp.nb σ'.hp.nt) h, h6⟩
  · intro k k' b1 b2 b h1 h2 v1 v2 h3 h4
    obtain ⟨c1, f1, l1⟩ := C.live k b1 h1
    obtain ⟨c2, f2, l2⟩ := C.live k' b2 h2
    exact I.h.boxes.sep k k' _ _ b f1 f2 l1 l2 (kat _ _ h3) (kat _ _ h4)
  · intro k b1 b h1 h3
    obtain ⟨c1, f1, l1⟩ := C.live k b1 h1
    exact I.h.boxes.mine k _ b f1 (kat _ _ h3)
  · intro j hj x hx
    obtain ⟨_, i, hi, ha⟩ := C.alive j hj
    obtain ⟨i', hi', hx'⟩ := tau j x hx
    rw [hi] at hi'; simp at hi'; subst hi'
    exact I.h.tips.tip i ha x hx'
  · intro j j' hj hj' hne x y hx hy nx ny b b' hb hb'
    obtain ⟨_, i, hi, ha⟩ := C.alive j hj
    obtain ⟨_, i', hi', ha'⟩ := C.alive j' hj'
    obtain ⟨k, hk, hx⟩ := tau j x hx
    obtain ⟨k', hk', hy⟩ := tau j' y hy
    rw [hi] at hk; simp at hk; subst hk
    rw [hi'] at hk'; simp at hk'; subst hk'
    exact I.h.tips.sep i i' ha ha' (fun e => hne (C.inj j j' i hi (e ▸ hi'))) x y hx hy nx ny b b' hb hb'
  · intro j hj x hx nx b hb
    obtain ⟨_, i, hi, ha⟩ := C.alive j hj
    obtain ⟨k, hk, hx⟩ := tau j x hx
    rw [hi] at hk; simp at hk; subst hk
    obtain ⟨h1, h2⟩ := I.h.tips.box i ha x hx nx b hb
    refine ⟨fun k b1 hf hkb => ?_, h2⟩
    obtain ⟨c1, f1, l1⟩ := C.live k b1 hf
    exact h1 k _ f1 (kat _ _ hkb)
  · intro i b hi; simp only [renG] at hi; split at hi
    · exact I.h.kap i b hi
    · simp at hi
  · intro i hi; simp only [renG]; rw [if_neg (by omega)]
  · intro i hi; simp only [renG]; rw [if_neg (by omega)]
  · intro i hi; exact (C.alive i hi).1
  · intro k bx hf
    obtain ⟨i, hk, hi, _⟩ := C.boxes k bx hf
    exact ⟨i, hk, hi⟩
/-- In a call that began with nothing told, a state may be told anew. -/
theorem Cov.later (C : Cov ρ σ σ') {n : Nat} {G0 : Gh} {w0 : World} {cs : List Nat} (O : Old ⟨0, 0, cs⟩ G0) (L : Step 0 G0 w0 n G w) : Step 0 G0 w0 σ'.hp.nb (renG G ρ σ'.hp.nb σ'.hp.nt) w :=
  ⟨Nat.zero_le _, fun i hi => absurd hi (Nat.not_lt_zero _), fun i b hi => by rw [O.κ i (Nat.zero_le _)] at hi; simp at hi, fun i x hi => by rw [O.τ i (Nat.zero_le _)] at hi; simp at hi, L.later.L, fun i b hi => by rw [O.κ i (Nat.zero_le _)] at hi; simp at hi⟩
theorem aloop_cov {cs : List Nat} {c : Code} {Q : AExit → St → Prop} (C : Cov ρ σ σ') (h : aloop P ⟨0, 0, cs⟩ c σ' Q) : aloop P ⟨0, 0, cs⟩ c σ Q :=
  fun E G a w G0 w0 I O L => h E _ a w G0 w0 (C.inv I) O (C.later O L)
theorem awp_cov {cs : List Nat} {c : Code} {Q : AExit → St → Prop} (C : Cov ρ σ σ') (h : awp P ⟨0, 0, cs⟩ c σ' Q) : awp P ⟨0, 0, cs⟩ c σ Q :=
  fun E G a w G0 w0 I O L => h E _ a w G0 w0 (C.inv I) O (C.later O L)
end

/-- x' tells less than x: nothing of rooms; of an empty slice's elements nothing. -/
def wk1 : AV → AV → Prop
  | .slice sz t items, x' => x' = .slice sz .dead items ∨ (items = [] ∧ ∃ sz', x' = .slice sz' .dead [])
  | x, x' => x' = x ∧ x.data1 = true
def wks : List AV → List AV → Prop
  | [], l => l = []
  | x :: xs, l => ∃ y ys, l = y :: ys ∧ wk1 x y ∧ wks xs ys
def wk2 : AV → AV → Prop
  | .agg cs, x' => ∃ ds, x' = .agg ds ∧ wks cs ds
  | x, x' => wk1 x x'
def wkt : List AV → List AV → Prop
  | [], l => l = []
  | x :: xs, l => ∃ y ys, l = y :: ys ∧ wk2 x y ∧ wkt xs ys
def Wk : AV → AV → Prop
  | .tup cs, x' => ∃ ds, x' = .tup ds ∧ wkt cs ds
  | x, x' => wk2 x x'
theorem wk1_rep {G : Gh} {w : World} {x x' : AV} {v : Value} (h : Rep1 G w x v) (k : wk1 x x') : RepD G.L w x' v ∧ x'.one = x.one := by
  cases x with
  | slice sz t items =>
    obtain ⟨A, n, c, rfl, hr⟩ := slice_rep (show Rep G w (.slice sz t items) v from h)
    rcases k with rfl | ⟨rfl, sz', rfl⟩
    · exact ⟨hr, rfl⟩
    · cases hr with
      | slice hn hc hm hs h1 hr hA ht => exact ⟨.slice hn hc hm (by simp) h1 hr hA trivial, rfl⟩
  | _ => obtain ⟨rfl, hd⟩ := k; exact ⟨rep1_toD h hd, rfl⟩
theorem wks_rep {G : Gh} {w : World} : ∀ {xs ys : List AV} {vs : List Value}, All2 (Rep1 G w) xs vs → (∀ y, y ∈ xs → y.one = true) → wks xs ys → All2 (RepD G.L w) ys vs ∧ ∀ y, y ∈ ys → y.one = true
  | [], ys, _, .nil, _, k => by obtain rfl := k; exact ⟨.nil, by simp⟩
  | x :: xs, _, _, .cons hx ht, h1, ⟨y, ys, rfl, k1, k2⟩ => by
    obtain ⟨a1, a2⟩ := wk1_rep hx k1
    obtain ⟨b1, b2⟩ := wks_rep ht (fun y hy => h1 y (List.mem_cons_of_mem _ hy)) k2
    refine ⟨.cons a1 b1, fun z hz => ?_⟩
    cases hz with
    | head => rw [a2]; exact h1 x (by simp)
    | tail _ hz => exact b2 z hz
theorem wk2_rep {G : Gh} {w : World} {x x' : AV} {v : Value} (h : Rep2 G w x v) (k : wk2 x x') : RepD G.L w x' v := by
  cases x with
  | agg cs =>
    obtain ⟨h1, vs, rfl, ha⟩ := h
    obtain ⟨ds, rfl, k⟩ := k
    obtain ⟨a1, a2⟩ := wks_rep ha h1 k
    exact .agg a2 (.of_all2 a1)
  | _ => rw [rep2_eq (by simp)] at h; exact (wk1_rep h k).1
theorem wkt_rep {G : Gh} {w : World} : ∀ {xs ys : List AV} {vs : List Value}, All2 (Rep2 G w) xs vs → wkt xs ys → All2 (RepD G.L w) ys vs
  | [], ys, _, .nil, k => by obtain rfl := k; exact .nil
  | x :: xs, _, _, .cons hx ht, ⟨y, ys, rfl, k1, k2⟩ => .cons (wk2_rep hx k1) (wkt_rep ht k2)
theorem wk_rep {G : Gh} {w : World} {x x' : AV} {v : Value} (h : Rep G w x v) (k : Wk x x') : RepD G.L w x' v := by
  cases x with
  | tup cs =>
    obtain ⟨vs, rfl, ha⟩ := h
    obtain ⟨ds, rfl, k⟩ := k
    exact .tup (.of_all2 (wkt_rep ha k))
  | _ => rw [rep_eq (by simp)] at h; exact wk2_rep h k

/-- A call that leaves all as it was, whatever was there. -/
def Pure (P : Program) (g : FuncId) (args : List AV) (Q : AV → Prop) : Prop := ∀ hp, ICalls P g args hp (fun r hp' => hp' = hp ∧ Q r)
theorem Pure.mono {P : Program} {g : FuncId} {args : List AV} {Q Q' : AV → Prop} (h : Pure P g args Q) (hq : ∀ r, Q r → Q' r) : Pure P g args Q' :=
  fun hp => (h hp).mono fun r _ ⟨h1, h2⟩ => ⟨h1, hq r h2⟩
theorem pure_of {P : Program} {g : FuncId} {args : List AV} {Q : AV → Prop} (hd : args.all AV.data = true) (h : ICalls P g args Hp.none (fun r _ => ∃ r', Wk r r' ∧ Q r')) : Pure P g args Q := by
  intro hp
  refine ⟨h.1, fun E G w vs H A => ?_⟩
  have AD := all_toD (fun x v => rep_toD (G := G) (w := w)) A hd
  let G0 : Gh := ⟨fun _ => none, fun _ => none, G.L, G.ν⟩
  have A0 : All2 (Rep G0 w) args vs := AD.imp fun x v hr => rep_ofD (G := G0) hr
  have H0 : HInv ⟨w, G.L⟩ G0 Hp.none w :=
    ⟨⟨fun k bx b hf => by simp [Hp.none, find] at hf, fun k k' bx bx' b hf => by simp [Hp.none, find] at hf, fun k bx b hf => by simp [Hp.none, find] at hf⟩,
     ⟨fun i hi => by simp [Hp.none] at hi, fun i j hi => by simp [Hp.none] at hi, fun i hi => by simp [Hp.none] at hi⟩,
     ⟨rfl, rfl, rfl, Nat.le_refl _, fun _ _ => ⟨rfl, rfl⟩, H.frame.top⟩, fun i b hi => by simp [G0] at hi, fun _ _ => rfl, fun _ _ => rfl, fun i hi => by simp [Hp.none] at hi, fun k bx hf => by simp [Hp.none, find] at hf⟩
  refine (h.2 ⟨w, G.L⟩ G0 w vs H0 A0).mono ?_
  rintro e w' ⟨r0, v, hp', G', rfl, ⟨r, hwk, hQ⟩, H', L', hr⟩
  have F := H'.frame
  let G2 : Gh := ⟨G.κ, G.τ, G'.L, G.ν⟩
  have lt : GLater G w G2 w' := ⟨fun _ _ h => h, fun _ _ h => h, L'.later.L, fun _ _ _ => rfl⟩
  have same : ∀ b, b < w.heap.size → w'.heap[b]? = w.heap[b]? ∧ G'.L b = G.L b := F.old
  refine ⟨r, v, hp, G2, rfl, ⟨rfl, hQ⟩, ⟨⟨fun k bx b hf hk => ?_, H.boxes.sep, fun k bx b hf hk => ?_⟩, ⟨fun i hi x hx => ?_, H.tips.sep, H.tips.box⟩, ⟨F.os.trans H.frame.os, F.tape.trans H.frame.tape, F.output.trans H.frame.output, Nat.le_trans H.frame.size F.size, fun b hb => ?_, F.top⟩, fun i b hi => ?_, H.nb, H.nt, H.al, H.bk⟩, ⟨Nat.le_refl _, fun _ _ => rfl, lt⟩, ?_⟩
  · have hm := (H.boxes.mine k bx b hf hk).1
    exact (H.boxes.rel k bx b hf hk).later lt (same b hm).1 (same b hm).2
  · have := H.boxes.mine k bx b hf hk
    exact ⟨Nat.lt_of_lt_of_le this.1 F.size, this.2⟩
  · rcases H.tips.tip i hi x hx with h | ⟨b, off, C, t, h1, h2, h3, h4⟩
    · exact .inl h
    · have hlt : b < w.heap.size := (Array.getElem?_eq_some_iff.1 h2).1
      exact .inr ⟨b, off, C, t, h1, (same b hlt).1.trans h2, (same b hlt).2.trans h3, h4⟩
  · have hlt : b < w.heap.size := Nat.lt_of_lt_of_le hb H.frame.size
    exact ⟨(same b hlt).1.trans (H.frame.old b hb).1, (same b hlt).2.trans (H.frame.old b hb).2⟩
  · have := H.kap i b hi
    exact ⟨this.1, Nat.lt_of_lt_of_le this.2 F.size⟩
  · exact rep_ofD (G := G2) (show RepD G'.L w' _ v from wk_rep hr hwk)
end Go.Ax
