/- Ax, part I: how the relation between abstract state and machine lives on: slots, draws, new blocks, stores. No project text. -/
import Derived.Test.YtafbefpimhaopaaAxH
set_option linter.unusedVariables false
set_option linter.unusedSimpArgs false
set_option linter.unnecessarySimpa false
set_option linter.unusedSectionVars false
namespace Go.Ax

def St.put (σ : St) (d : Option Tmp) (x : AV) : St :=
  match d with
  | none => σ
  | some d => { σ with env := (d, x) :: σ.env }
def dstOk (σ : St) (d : Option Tmp) : Bool :=
  match d with
  | none => true
  | some d => Nat.blt d σ.size

theorem put_hp {σ : St} {d : Option Tmp} {x : AV} : (σ.put d x).hp = σ.hp := by cases d <;> rfl
theorem put_nb {σ : St} {d : Option Tmp} {x : AV} {n : Nat} (h : n ≤ σ.hp.nb) : n ≤ (σ.put d x).hp.nb := by rw [put_hp]; exact h
theorem look_cons (s d : Nat) (x : AV) (env : List (Nat × AV)) : look s ((d, x) :: env) = if s = d then some x else look s env := by
  simp only [look]
  by_cases h : s = d
  · simp [h]
  · cases hb : Nat.beq s d with
    | true => exact absurd (Nat.eq_of_beq_eq_true hb) h
    | false => simp [h]
theorem put_get (a : Act) (d : Nat) (v : Value) (s : Nat) (hd : d < a.tmps.size) : (a.put (some d) v).tmps.getD s undef = if s = d then v else a.tmps.getD s undef := by
  simp only [Act.put]
  by_cases h : s = d
  · subst h; simp [Array.getD, hd]
  · simp only [Array.getD_eq_getD_getElem?, Array.getElem?_setIfInBounds, if_neg (Ne.symm h), if_neg h]

section
variable {E : Entry} {G G' : Gh} {σ : St} {pend : List Nat} {a : Act} {w w' : World}

theorem Inv.put (I : Inv E G σ pend a w) {d : Option Tmp} (hd : dstOk σ d = true) {x : AV} {v : Value} (h : Rep G w x v) : Inv E G (σ.put d x) pend (a.put d v) w := by
  cases d with
  | none => exact I
  | some d =>
    have hlt : d < a.tmps.size := by rw [I.tmps]; exact nat_blt hd
    refine ⟨I.defers, by simp [Act.put, St.put, I.tmps], ?_, I.h⟩
    intro s y hy hp
    rw [put_get a d v s hlt]
    simp only [St.put, look_cons] at hy
    split
    · rw [if_pos (by assumption)] at hy; simp at hy; subst hy; exact h
    · rw [if_neg (by assumption)] at hy; exact I.env s y hy hp
/-- The value is told, the machine hasn't come to it. -/
theorem Inv.abs (I : Inv E G σ pend a w) (d : Nat) (x : AV) : Inv E G (σ.put (some d) x) (d :: pend) a w := by
  refine ⟨I.defers, I.tmps, ?_, I.h⟩
  intro s y hy hp
  simp only [St.put, look_cons] at hy
  simp at hp
  rw [if_neg hp.1] at hy
  exact I.env s y hy hp.2
/-- The machine comes to it. -/
theorem Inv.real (I : Inv E G σ pend a w) {d : Nat} (hd : d < σ.size) {x : AV} {v : Value} (hl : look d σ.env = some x) (h : Rep G w x v) : Inv E G σ (pend.filter (· ≠ d)) (a.put (some d) v) w := by
  have hlt : d < a.tmps.size := by rw [I.tmps]; exact hd
  refine ⟨I.defers, by simp [Act.put, I.tmps], ?_, I.h⟩
  intro s y hy hp
  rw [put_get a d v s hlt]
  split
  · rename_i hs; subst hs; rw [hl] at hy; simp at hy; subst hy; exact h
  · rename_i hs; exact I.env s y hy (fun hm => hp (by simp [hm, hs]))

theorem Inv.world (I : Inv E G σ pend a w) (e : GLater G w G' w') {hp : Hp} (H : HInv E G' hp w') : Inv E G' { σ with hp := hp } pend a w' :=
  ⟨I.defers, I.tmps, fun s x hx hs => rep_later e (I.env s x hx hs), H⟩

/-! Draws -/
theorem later_heap {L : Nat → Nat} (h : w'.heap = w.heap) : Later L w L w' := ⟨fun _ => Nat.le_refl _, fun b o v hb hv => by simpa [World.cell?, h] using hv⟩
theorem HInv.heap {hp : Hp} (H : HInv E G hp w) (h : w'.heap = w.heap) (ho : w'.os = w.os) (ht : w'.tape = w.tape) (hu : w'.output = w.output) : HInv E G hp w' ∧ GLater G w G w' := by
  have e : GLater G w G w' := ⟨fun _ _ h => h, fun _ _ h => h, later_heap h, fun _ _ _ => rfl⟩
  refine ⟨⟨⟨fun k bx b hf hk => (H.boxes.rel k bx b hf hk).later e (by rw [h]) rfl, H.boxes.sep, fun k bx b hf hk => by rw [h]; exact H.boxes.mine k bx b hf hk⟩,
    ⟨fun i hi x hx => ?_, H.tips.sep, H.tips.box⟩, ?_, fun i b hk => by rw [h]; exact H.kap i b hk, H.nb, H.nt, H.al, H.bk⟩, e⟩
  · have := H.tips.tip i hi x hx
    unfold Tip at this ⊢
    rw [h]; exact this
  · have F := H.frame
    exact ⟨ho.trans F.os, ht.trans F.tape, hu.trans F.output, by rw [h]; exact F.size, fun b hb => by rw [h]; exact F.old b hb, fun b hb => F.top b (by rw [h] at hb; exact hb)⟩

/-! A new block -/
theorem alloc_block (w : World) (o : Obj) (b : Nat) : (w.alloc o).heap[b]? = if b = w.heap.size then some o else w.heap[b]? := by
  show (w.heap.push o)[b]? = _
  rw [Array.getElem?_push]
theorem later_alloc {L L' : Nat → Nat} {o : Obj} (hle : ∀ b, b < w.heap.size → L b = L' b) (h0 : ∀ b, w.heap.size ≤ b → L b = 0) : Later L w L' (w.alloc o) := by
  refine ⟨fun b => ?_, fun b k v hb hv => ?_⟩
  · by_cases hb : b < w.heap.size
    · exact Nat.le_of_eq (hle b hb)
    · rw [h0 b (by omega)]; exact Nat.zero_le _
  · have hlt : b < w.heap.size := by
      by_cases hb' : b < w.heap.size
      · exact hb'
      · rw [h0 b (by omega)] at hb; omega
    simp only [World.cell?, alloc_block, if_neg (Nat.ne_of_lt hlt)] at hv ⊢
    exact hv

def upd {α : Type} (f : Nat → α) (i : Nat) (x : α) : Nat → α := fun j => if j = i then x else f j
@[simp] theorem upd_same {α : Type} (f : Nat → α) (i : Nat) (x : α) : upd f i x i = x := by simp [upd]
theorem upd_ne {α : Type} (f : Nat → α) {i j : Nat} (x : α) (h : j ≠ i) : upd f i x j = f j := by simp [upd, h]

theorem Tip.alloc {x : TokI} {L' ν' : Nat → Nat} {κ' : Nat → Option Nat} {τ' : Nat → Option TokI} {o : Obj} (h : Tip G w x) (hL : ∀ b, b < w.heap.size → L' b = G.L b) : Tip ⟨κ', τ', L', ν'⟩ (w.alloc o) x := by
  rcases h with h | ⟨b, off, C, e, h1, h2, h3, h4⟩
  · exact .inl h
  · have hlt : b < w.heap.size := (Array.getElem?_eq_some_iff.1 h2).1
    exact .inr ⟨b, off, C, e, h1, by rw [alloc_block, if_neg (Nat.ne_of_lt hlt)]; exact h2, (hL b hlt).trans h3, h4⟩
theorem Frame.alloc {κ' : Nat → Option Nat} {τ' : Nat → Option TokI} {L' ν' : Nat → Nat} {o : Obj} (F : Frame E G w) (hL : ∀ b, b ≠ w.heap.size → L' b = G.L b) : Frame E ⟨κ', τ', L', ν'⟩ (w.alloc o) := by
  refine ⟨F.os, F.tape, F.output, ?_, fun b hb => ?_, fun b hb => ?_⟩
  · have := F.size; simp; omega
  · have := F.size
    have hne : b ≠ w.heap.size := by omega
    rw [alloc_block, if_neg hne]
    exact ⟨(F.old b hb).1, (hL b hne).trans (F.old b hb).2⟩
  · simp at hb
    have := F.top b (by omega)
    rw [← this]; exact hL b (by omega)

/-- A new variable: its number is i. -/
theorem HInv.newBox {hp : Hp} (H : HInv E G hp w) {i : Nat} (hi : i < hp.nb) (hk : G.κ i = none) {C : List Value} {e : TypeId} {cp : Nat}
    (hb : ∀ bx, find (.l i) hp.boxes = some bx → ∀ G2 : Gh, G2.L = upd G.L w.heap.size 0 → (∀ x v, Rep1 G w x v → Rep1 G2 (w.alloc (.cells C.toArray e)) x v) → BoxRel G2 (w.alloc (.cells C.toArray e)) w.heap.size cp bx) :
    HInv E ⟨upd G.κ i (some w.heap.size), G.τ, upd G.L w.heap.size 0, upd G.ν i cp⟩ hp (w.alloc (.cells C.toArray e)) ∧
      GLater G w ⟨upd G.κ i (some w.heap.size), G.τ, upd G.L w.heap.size 0, upd G.ν i cp⟩ (w.alloc (.cells C.toArray e)) := by
  have hL : ∀ b, b ≠ w.heap.size → upd G.L w.heap.size 0 b = G.L b := fun b hb => upd_ne _ _ hb
  have lt : GLater G w ⟨upd G.κ i (some w.heap.size), G.τ, upd G.L w.heap.size 0, upd G.ν i cp⟩ (w.alloc (.cells C.toArray e)) := by
    refine ⟨fun j b hj => ?_, fun _ _ h => h, later_alloc (fun b hb => (hL b (Nat.ne_of_lt hb)).symm) (fun b hb => H.frame.top b hb), fun j b hj => ?_⟩
    · have : j ≠ i := by intro h; subst h; rw [hk] at hj; simp at hj
      show upd G.κ i _ j = _
      rw [upd_ne _ _ this]; exact hj
    · have : j ≠ i := by intro h; subst h; rw [hk] at hj; simp at hj
      exact upd_ne _ _ this
  have kat : ∀ k b, (Gh.mk (upd G.κ i (some w.heap.size)) G.τ (upd G.L w.heap.size 0) (upd G.ν i cp)).at k = some b → (k = .l i ∧ b = w.heap.size) ∨ (k ≠ .l i ∧ G.at k = some b) := by
    intro k b h
    cases k with
    | l j =>
      by_cases hj : j = i
      · subst hj; simp [Gh.at] at h; exact .inl ⟨rfl, h.symm⟩
      · simp only [Gh.at, upd_ne _ _ hj] at h; exact .inr ⟨by simp [hj], h⟩
    | o c => exact .inr ⟨by simp, h⟩
  refine ⟨⟨⟨?_, ?_, ?_⟩, ⟨?_, ?_, ?_⟩, H.frame.alloc hL, ?_, ?_, H.nt, H.al, H.bk⟩, lt⟩
  · intro k bx b hf hkb
    rcases kat k b hkb with ⟨rfl, rfl⟩ | ⟨hne, hkb⟩
    · have := hb bx hf _ rfl (fun _ _ => rep1_later lt)
      simpa [Gh.capOf] using this
    · have hm := (H.boxes.mine k bx b hf hkb).1
      have := (H.boxes.rel k bx b hf hkb).later lt (by rw [alloc_block, if_neg (Nat.ne_of_lt hm)]) (hL b (Nat.ne_of_lt hm))
      have hc : (Gh.mk (upd G.κ i (some w.heap.size)) G.τ (upd G.L w.heap.size 0) (upd G.ν i cp)).capOf k = G.capOf k := by
        cases k with
        | l j => exact upd_ne _ _ (fun e => hne (by rw [e]))
        | o c => rfl
      rw [hc]; exact this
  · intro k k' bx bx' b hf hf' v1 v2 h1 h2
    rcases kat k b h1 with ⟨rfl, rfl⟩ | ⟨hne, h1⟩ <;> rcases kat k' _ h2 with ⟨rfl, h3⟩ | ⟨hne', h2⟩
    · rfl
    · have := (H.boxes.mine k' bx' _ hf' h2).1; omega
    · subst h3; have := (H.boxes.mine k bx _ hf h1).1; omega
    · exact H.boxes.sep k k' bx bx' b hf hf' v1 v2 h1 h2
  · intro k bx b hf hkb
    have hs := H.frame.size
    rcases kat k b hkb with ⟨rfl, rfl⟩ | ⟨hne, hkb⟩
    · simp; exact hs
    · have := H.boxes.mine k bx b hf hkb; simp; omega
  · intro j hj x hx; exact (H.tips.tip j hj x hx).alloc (fun b hb => hL b (Nat.ne_of_lt hb))
  · exact H.tips.sep
  · intro j hj x hx hn a ha
    obtain ⟨h1, h2⟩ := H.tips.box j hj x hx hn a ha
    refine ⟨fun k bx hf hkb => ?_, h2⟩
    rcases kat k _ hkb with ⟨rfl, h3⟩ | ⟨hne, hkb⟩
    · rcases H.tips.tip j hj x hx with h | ⟨b, off, C', e', h4, h5, _⟩
      · exact hn h
      · rw [ha] at h4; simp at h4; subst h4
        have hlt : b < w.heap.size := (Array.getElem?_eq_some_iff.1 h5).1
        simp at h3; omega
    · exact h1 k bx hf hkb
  · intro j b hj
    have hs := H.frame.size
    by_cases hji : j = i
    · subst hji; simp at hj; subst hj; simp; exact hs
    · simp only [upd_ne _ _ hji] at hj; have := H.kap j b hj; simp; omega
  · intro j hj
    have : j ≠ i := by omega
    show upd G.κ i _ j = none
    rw [upd_ne _ _ this]; exact H.nb j hj
end
end Go.Ax
