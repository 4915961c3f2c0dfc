/- Ay, part D: calls that hand back a row with room. No project text. -/
import Derived.Test.YtafbefpimhaopaaAyC
set_option linter.unusedVariables false
set_option linter.unusedSimpArgs false
set_option linter.unnecessarySimpa false
set_option linter.unusedSectionVars false
namespace Go.Ax
def Hp.newTok (hp : Hp) : Hp := { hp with nt := hp.nt + 1, alive := hp.nt :: hp.alive }
/-- A call that hands back a row that may be appended to, and leaves all else as it was. -/
def PureR (P : Program) (g : FuncId) (args : List AV) (sz : Nat) (Q : List AV → Prop) : Prop :=
  ∀ hp, ICalls P g args hp (fun r hp' => ∃ items, r = .slice sz (.loc hp.nt) items ∧ hp' = hp.newTok ∧ Q items)
theorem pureR_of {P : Program} {g : FuncId} {args : List AV} {sz : Nat} {Q : List AV → Prop} (hd : args.all AV.data = true)
    (h : ICalls P g args Hp.none (fun r hp' => ∃ items j, r = .slice sz (.loc j) items ∧ j ∈ hp'.alive ∧ Q items)) : PureR P g args sz Q := by
  intro hp
  refine ⟨h.1, fun E G w vs H A => ?_⟩
  have AD := all_toD (fun x v => rep_toD (G := G) (w := w)) A hd
  let G0 : Gh := ⟨fun _ => none, fun _ => none, G.L, G.ν⟩
  have A0 : All2 (Rep G0 w) args vs := AD.imp fun x v hr => rep_ofD (G := G0) hr
  have H0 : HInv ⟨w, G.L⟩ G0 Hp.none w :=
    ⟨⟨fun k bx b hf => by simp [Hp.none, find] at hf, fun k k' bx bx' b hf => by simp [Hp.none, find] at hf, fun k bx b hf => by simp [Hp.none, find] at hf⟩,
     ⟨fun i hi => by simp [Hp.none] at hi, fun i j hi => by simp [Hp.none] at hi, fun i hi => by simp [Hp.none] at hi⟩,
     ⟨rfl, rfl, rfl, Nat.le_refl _, fun _ _ => ⟨rfl, rfl⟩, H.frame.top⟩, fun i b hi => by simp [G0] at hi, fun _ _ => rfl, fun _ _ => rfl, fun i hi => by simp [Hp.none] at hi, fun k bx hf => by simp [Hp.none, find] at hf⟩
  refine (h.2 ⟨w, G.L⟩ G0 w vs H0 A0).mono ?_
  rintro e w' ⟨r0, v, hp', G', rfl, ⟨items, j, rfl, hj, hQ⟩, H', L', hr⟩
  have F := H'.frame
  obtain ⟨A1, n1, c1, rfl, hτ, hD⟩ := (show Rep1 G' w' (.slice sz (.loc j) items) v from hr)
  let G2 : Gh := ⟨G.κ, upd G.τ hp.nt (some ⟨A1, n1, c1, sz⟩), G'.L, G.ν⟩
  have hnt : G.τ hp.nt = none := H.nt _ (Nat.le_refl _)
  have lt : GLater G w G2 w' := ⟨fun _ _ h => h, fun i x hx => by
    have : i ≠ hp.nt := by intro e; subst e; rw [hnt] at hx; cases hx
    show upd G.τ hp.nt _ i = _
    rw [upd_ne _ _ this]; exact hx, L'.later.L, fun _ _ _ => rfl⟩
  have same : ∀ b, b < w.heap.size → w'.heap[b]? = w.heap[b]? ∧ G'.L b = G.L b := F.old
  have old : ∀ i x, i ≠ hp.nt → G2.τ i = some x → G.τ i = some x := fun i x hi hx => by
    have : upd G.τ hp.nt (some ⟨A1, n1, c1, sz⟩) i = some x := hx
    rwa [upd_ne _ _ hi] at this
  have new : ∀ x, G2.τ hp.nt = some x → x = ⟨A1, n1, c1, sz⟩ := fun x hx => by
    have : upd G.τ hp.nt (some ⟨A1, n1, c1, sz⟩) hp.nt = some x := hx
    rw [upd_same] at this; exact (Option.some.inj this).symm
  have blk : ∀ i, i ∈ hp.alive → ∀ x, G.τ i = some x → x.n ≠ x.c → ∀ a, x.A = some a → a.block < w.heap.size := by
    intro i hi x hx hn a ha
    rcases H.tips.tip i hi x hx with h | ⟨b, off, C, t, h1, h2, h3, h4⟩
    · exact absurd h hn
    · rw [ha] at h1; cases h1; exact (Array.getElem?_eq_some_iff.1 h2).1
  have tip : ∀ x, Tip G' w' x → Tip G2 w' x := fun x h => h
  refine ⟨.slice sz (.loc hp.nt) items, _, hp.newTok, G2, rfl, ⟨items, rfl, rfl, hQ⟩, ⟨⟨fun k bx b hf hk => ?_, H.boxes.sep, fun k bx b hf hk => ?_⟩, ⟨fun i hi x hx => ?_, fun i i' hi hi' hne x y hx hy nx ny a a' ha ha' => ?_, fun i hi x hx hn a ha => ?_⟩,
    ⟨F.os.trans H.frame.os, F.tape.trans H.frame.tape, F.output.trans H.frame.output, Nat.le_trans H.frame.size F.size, fun b hb => ?_, F.top⟩, fun i b hi => ?_, H.nb, fun i hi => ?_, fun i hi => ?_, H.bk⟩, ⟨Nat.le_refl _, fun _ _ => rfl, lt⟩, ?_⟩
  · have hm := (H.boxes.mine k bx b hf hk).1
    exact (H.boxes.rel k bx b hf hk).later lt (same b hm).1 (same b hm).2
  · have := H.boxes.mine k bx b hf hk
    exact ⟨Nat.lt_of_lt_of_le this.1 F.size, this.2⟩
  · rcases List.mem_cons.1 hi with rfl | hi
    · obtain rfl := new x hx
      exact tip _ (H'.tips.tip j hj _ hτ)
    · have hne : i ≠ hp.nt := fun e => by have := H.al i hi; omega
      rcases H.tips.tip i hi x (old i x hne hx) with h | ⟨b, off, C, t, h1, h2, h3, h4⟩
      · exact .inl h
      · have hlt : b < w.heap.size := (Array.getElem?_eq_some_iff.1 h2).1
        exact .inr ⟨b, off, C, t, h1, (same b hlt).1.trans h2, (same b hlt).2.trans h3, h4⟩
  · have big : ∀ z, G2.τ hp.nt = some z → z.n ≠ z.c → ∀ q, z.A = some q → w.heap.size ≤ q.block := fun z hz hn q hq => by
      obtain rfl := new z hz
      exact (H'.tips.box j hj _ hτ hn q hq).2
    rcases List.mem_cons.1 hi with rfl | hi <;> rcases List.mem_cons.1 hi' with rfl | hi'
    · exact absurd rfl hne
    · have hne' : i' ≠ hp.nt := fun e => by have := H.al i' hi'; omega
      have h1 := big x hx nx a ha
      have h2 := blk i' hi' y (old _ _ hne' hy) ny a' ha'
      omega
    · have hne' : i ≠ hp.nt := fun e => by have := H.al i hi; omega
      have h1 := big y hy ny a' ha'
      have h2 := blk i hi x (old _ _ hne' hx) nx a ha
      omega
    · have e1 : i ≠ hp.nt := fun e => by have := H.al i hi; omega
      have e2 : i' ≠ hp.nt := fun e => by have := H.al i' hi'; omega
      exact H.tips.sep i i' hi hi' hne x y (old _ _ e1 hx) (old _ _ e2 hy) nx ny a a' ha ha'
  · rcases List.mem_cons.1 hi with rfl | hi
    · obtain rfl := new x hx
      have hb := (H'.tips.box j hj _ hτ hn a ha).2
      have hb : w.heap.size ≤ a.block := hb
      refine ⟨fun k bx hf hk => ?_, Nat.le_trans H.frame.size hb⟩
      have := (H.boxes.mine k bx _ hf hk).1
      omega
    · have e1 : i ≠ hp.nt := fun e => by have := H.al i hi; omega
      exact H.tips.box i hi x (old _ _ e1 hx) hn a ha
  · have hlt : b < w.heap.size := Nat.lt_of_lt_of_le hb H.frame.size
    exact ⟨(same b hlt).1.trans (H.frame.old b hb).1, (same b hlt).2.trans (H.frame.old b hb).2⟩
  · have := H.kap i b hi
    exact ⟨this.1, Nat.lt_of_lt_of_le this.2 F.size⟩
  · show upd G.τ hp.nt _ i = none
    have hi : hp.nt + 1 ≤ i := hi
    rw [upd_ne _ _ (by omega)]; exact H.nt i (by omega)
  · show i < hp.nt + 1
    rcases List.mem_cons.1 hi with rfl | hi
    · omega
    · have := H.al i hi; omega
  · exact (⟨A1, n1, c1, rfl, upd_same _ _ _, hD⟩ : Rep1 G2 w' (.slice sz (.loc hp.nt) items) _)
/-- Such a call, its row's room forgotten. -/
theorem ICalls.weak {P : Program} {g : FuncId} {args : List AV} {sz : Nat} {Q : List AV → Prop} (h : PureR P g args sz Q) (hd : args.all AV.data = true) : Pure P g args (fun r => ∃ items, r = .slice sz .dead items ∧ Q items) := by
  refine pure_of hd ((h Hp.none).mono ?_)
  rintro r hp' ⟨items, rfl, rfl, hQ⟩
  exact ⟨_, .inl rfl, items, rfl, hQ⟩
/-- x tells at least what x' tells. -/
def Imp (x x' : AV) : Prop := ∀ (G : Gh) (w : World) (v : Value), Rep G w x v → Rep G w x' v
theorem Imp.refl (x : AV) : Imp x x := fun _ _ _ h => h
theorem Imp.slice {sz : Nat} {t : Tok} {items : List AV} : Imp (.slice sz t items) (.slice sz .dead items) := fun G w v h => by
  obtain ⟨A, n, c, rfl, hr⟩ := slice_rep h
  exact rep_ofD hr
theorem all2_map {α β γ : Type} {R : α → γ → Prop} {S : β → γ → Prop} {T : α → β → Prop} (h : ∀ x y z, T x y → R x z → S y z) {xs : List α} {ys : List β} {zs : List γ} (a : All2 T xs ys) (b : All2 R xs zs) : All2 S ys zs := by
  induction a generalizing zs with
  | nil => cases b; exact .nil
  | cons hx _ ih => cases b with | cons hy ht => exact .cons (h _ _ _ hx hy) (ih ht)
theorem ICalls.args {P : Program} {g : FuncId} {args args' : List AV} {hp : Hp} {Q : AV → Hp → Prop} (h : ICalls P g args' hp Q) (ha : All2 Imp args args') : ICalls P g args hp Q :=
  ⟨h.1, fun E G w vs H A => h.2 E G w vs H (all2_map (fun x y z hxy hx => hxy G w z hx) ha A)⟩
end Go.Ax
