/- Ax, part K: a store into a variable, a new row, a row that grows in place: the relation lives on. No project text. -/
import Derived.Test.YtafbefpimhaopaaAxJ
set_option linter.unusedVariables false
set_option linter.unusedSimpArgs false
set_option linter.unnecessarySimpa false
set_option linter.unusedSectionVars false
namespace Go.Ax
section
variable {E : Entry} {G : Gh} {w : World}

theorem later_setCells {L L' : Nat → Nat} {b o : Nat} {C : List Value} {e : TypeId} {vs : List Value} (hb : w.heap[b]? = some (.cells C.toArray e (0, 0))) (hl : o + vs.length ≤ C.length)
    (hle : ∀ k, L k ≤ L' k) (ho : L b ≤ o) : Later L w L' (w.setCells b o vs) := by
  refine ⟨hle, fun k i v hi hv => ?_⟩
  by_cases hk : k = b
  · subst hk
    rw [cell_block hb] at hv
    rw [cell_block (setCells_block vs o hb hl)]
    simp only [splice, List.append_assoc]
    rw [List.getElem?_append_left (by simp; omega), List.getElem?_take, if_pos (by omega)]
    exact hv
  · simp only [World.cell?, setCells_other vs o hk] at hv ⊢
    exact hv

theorem Tip.set {x : TokI} {κ' : Nat → Option Nat} {τ' : Nat → Option TokI} {L' ν' : Nat → Nat} {b o : Nat} {vs : List Value} (h : Tip G w x) (hn : x.n ≠ x.c → ∀ a, x.A = some a → a.block ≠ b) (hL : ∀ k, k ≠ b → L' k = G.L k) : Tip ⟨κ', τ', L', ν'⟩ (w.setCells b o vs) x := by
  rcases h with h | ⟨k, off, C, e, h1, h2, h3, h4⟩
  · exact .inl h
  · by_cases hne : x.n = x.c
    · exact .inl hne
    · have hk : k ≠ b := hn hne _ h1
      exact .inr ⟨k, off, C, e, h1, (setCells_other vs o hk).trans h2, (hL k hk).trans h3, h4⟩
theorem Frame.set {κ' : Nat → Option Nat} {τ' : Nat → Option TokI} {L' ν' : Nat → Nat} {b o : Nat} {vs : List Value} (F : Frame E G w) (hb : E.w.heap.size ≤ b) (hlt : b < w.heap.size) (hL : ∀ k, k ≠ b → L' k = G.L k) : Frame E ⟨κ', τ', L', ν'⟩ (w.setCells b o vs) := by
  obtain ⟨h1, h2, h3⟩ := setCells_rest (b := b) vs o (w := w)
  refine ⟨h1.trans F.os, h2.trans F.tape, h3.trans F.output, by rw [setCells_size]; exact F.size, fun k hk => ?_, fun k hk => ?_⟩
  · have hne : k ≠ b := by omega
    rw [setCells_other vs o hne]
    exact ⟨(F.old k hk).1, (hL k hne).trans (F.old k hk).2⟩
  · rw [setCells_size] at hk
    have hne : k ≠ b := by omega
    exact (hL k hne).trans (F.top k hk)

instance : DecidableEq Key := fun a b => decidable_of_iff (a.eq b = true) Key.eq_iff
theorem find_cons (k k' : Key) (bx : Box) (bs : List (Key × Box)) : find k ((k', bx) :: bs) = if k = k' then some bx else find k bs := by
  simp only [find]
  cases h : k.eq k' with
  | true => rw [if_pos (Key.eq_iff.1 h)]; rfl
  | false => rw [if_neg (Key.eq_false.1 h)]; rfl

def Hp.setBox (hp : Hp) (k : Key) (bx : Box) : Hp := { hp with boxes := (k, bx) :: hp.boxes }

/-- A store into a variable. -/
theorem HInv.store {hp : Hp} (H : HInv E G hp w) {k : Key} {bx bx' : Box} {b o : Nat} {C vs : List Value} {e : TypeId} (hf : find k hp.boxes = some bx) (hlv : bx.live = true) (hk : G.at k = some b)
    (hb : w.heap[b]? = some (.cells C.toArray e (0, 0))) (hL0 : G.L b = 0) (hl : o + vs.length ≤ C.length)
    (hnew : (∀ x v, Rep1 G w x v → Rep1 G (w.setCells b o vs) x v) → BoxRel G (w.setCells b o vs) b (G.capOf k) bx') :
    HInv E G (hp.setBox k bx') (w.setCells b o vs) ∧ GLater G w G (w.setCells b o vs) := by
  have lt : GLater G w G (w.setCells b o vs) := ⟨fun _ _ h => h, fun _ _ h => h, later_setCells hb hl (fun _ => Nat.le_refl _) (by omega), fun _ _ _ => rfl⟩
  obtain ⟨m1, m2⟩ := H.boxes.mine k bx b hf hk
  refine ⟨⟨⟨?_, ?_, ?_⟩, ⟨?_, H.tips.sep, ?_⟩, H.frame.set m2 m1 (fun _ _ => rfl), ?_, H.nb, H.nt, H.al, ?_⟩, lt⟩
  · intro k' bx2 b' hf' hk'
    simp only [Hp.setBox, find_cons] at hf'
    split at hf'
    · rename_i h; subst h; simp at hf'; subst hf'
      rw [hk] at hk'; simp at hk'; subst hk'
      exact hnew (fun _ _ => rep1_later lt)
    · rename_i h
      cases hv : bx2.live with
      | false => cases bx2 <;> first | trivial | cases hv
      | true =>
        have hne : b' ≠ b := fun he => h (H.boxes.sep k' k bx2 bx b' hf' hf hv hlv hk' (he ▸ hk))
        exact (H.boxes.rel k' bx2 b' hf' hk').later lt (setCells_other vs o hne) rfl
  · intro k1 k2 b1 b2 b' h1 h2 v1 v2 h3 h4
    simp only [Hp.setBox, find_cons] at h1 h2
    split at h1 <;> split at h2
    · rename_i e1 e2; rw [e1, e2]
    · rename_i e1 e2; subst e1; exact H.boxes.sep _ _ bx b2 b' hf h2 hlv v2 h3 h4
    · rename_i e1 e2; subst e2; exact H.boxes.sep _ _ b1 bx b' h1 hf v1 hlv h3 h4
    · exact H.boxes.sep k1 k2 b1 b2 b' h1 h2 v1 v2 h3 h4
  · intro k' bx2 b' hf' hk'
    rw [setCells_size]
    simp only [Hp.setBox, find_cons] at hf'
    split at hf'
    · rename_i h; subst h; exact H.boxes.mine _ bx b' hf hk'
    · exact H.boxes.mine k' bx2 b' hf' hk'
  · intro i hi x hx
    exact (H.tips.tip i hi x hx).set (fun hn a ha he => (H.tips.box i hi x hx hn a ha).1 k bx hf (by rw [he]; exact hk)) (fun _ _ => rfl)
  · intro i hi x hx hn a ha
    obtain ⟨h1, h2⟩ := H.tips.box i hi x hx hn a ha
    refine ⟨fun k' bx2 hf' => ?_, h2⟩
    simp only [Hp.setBox, find_cons] at hf'
    split at hf'
    · rename_i h; subst h; exact h1 _ bx hf
    · exact h1 k' bx2 hf'
  · intro i b' hi; rw [setCells_size]; exact H.kap i b' hi
  · intro k' bx2 hf'
    simp only [Hp.setBox, find_cons] at hf'
    split at hf'
    · rename_i h; subst h; exact H.bk _ bx hf
    · exact H.bk k' bx2 hf'

/-- A new row: its number is i; its first cells are stable. -/
theorem HInv.newRow {hp : Hp} (H : HInv E G hp w) {i n c sz : Nat} (hi : i < hp.nt) (hk : G.τ i = none) {C : Array Value} {e : TypeId} (hn : n * sz ≤ C.size) (hc : c * sz ≤ C.size) :
    HInv E ⟨G.κ, upd G.τ i (some ⟨some ⟨w.heap.size, 0, none⟩, n, c, sz⟩), upd G.L w.heap.size (n * sz), G.ν⟩ hp (w.alloc (.cells C e)) ∧
      GLater G w ⟨G.κ, upd G.τ i (some ⟨some ⟨w.heap.size, 0, none⟩, n, c, sz⟩), upd G.L w.heap.size (n * sz), G.ν⟩ (w.alloc (.cells C e)) := by
  have hL : ∀ b, b ≠ w.heap.size → upd G.L w.heap.size (n * sz) b = G.L b := fun b hb => upd_ne _ _ hb
  have tau : ∀ j x, G.τ j = some x → upd G.τ i (some ⟨some ⟨w.heap.size, 0, none⟩, n, c, sz⟩) j = some x := by
    intro j x hj
    have : j ≠ i := by intro h; subst h; rw [hk] at hj; simp at hj
    rw [upd_ne _ _ this]; exact hj
  have lt : GLater G w ⟨G.κ, upd G.τ i (some ⟨some ⟨w.heap.size, 0, none⟩, n, c, sz⟩), upd G.L w.heap.size (n * sz), G.ν⟩ (w.alloc (.cells C e)) :=
    ⟨fun _ _ h => h, tau, later_alloc (fun b hb => (hL b (Nat.ne_of_lt hb)).symm) (fun b hb => H.frame.top b hb), fun _ _ _ => rfl⟩
  have bad : ∀ j x, G.τ j = some x → j ∈ hp.alive → x.n ≠ x.c → ∀ a, x.A = some a → a.block < w.heap.size := by
    intro j x hx hj hne a ha
    rcases H.tips.tip j hj x hx with h | ⟨b, off, C', e', h4, h5, _⟩
    · exact absurd h hne
    · rw [ha] at h4; simp at h4; subst h4
      exact (Array.getElem?_eq_some_iff.1 h5).1
  refine ⟨⟨⟨?_, H.boxes.sep, ?_⟩, ⟨?_, ?_, ?_⟩, H.frame.alloc hL, ?_, H.nb, ?_, H.al, H.bk⟩, lt⟩
  · intro k bx b hf hkb
    have hm := (H.boxes.mine k bx b hf hkb).1
    exact (H.boxes.rel k bx b hf hkb).later lt (by rw [alloc_block, if_neg (Nat.ne_of_lt hm)]) (hL b (Nat.ne_of_lt hm))
  · intro k bx b hf hkb
    have := H.boxes.mine k bx b hf hkb; simp; omega
  · intro j hj x hx
    by_cases hji : j = i
    · subst hji; simp at hx; subst hx
      exact .inr ⟨w.heap.size, 0, C, e, rfl, by rw [alloc_block, if_pos rfl], by simp, by simpa using hc⟩
    · simp only [upd_ne _ _ hji] at hx
      exact (H.tips.tip j hj x hx).alloc (fun b hb => hL b (Nat.ne_of_lt hb))
  · intro j j' hj hj' hne x y hx hy nx ny a a' ha ha'
    by_cases hji : j = i <;> by_cases hji' : j' = i
    · omega
    · subst hji; simp at hx; subst hx; simp at ha; subst ha
      simp only [upd_ne _ _ hji'] at hy
      have := bad j' y hy hj' ny a' ha'; simp; omega
    · subst hji'; simp at hy; subst hy; simp at ha'; subst ha'
      simp only [upd_ne _ _ hji] at hx
      have := bad j x hx hj nx a ha; simp; omega
    · simp only [upd_ne _ _ hji] at hx; simp only [upd_ne _ _ hji'] at hy
      exact H.tips.sep j j' hj hj' hne x y hx hy nx ny a a' ha ha'
  · intro j hj x hx hnx a ha
    have hs := H.frame.size
    by_cases hji : j = i
    · subst hji; simp at hx; subst hx; simp at ha; subst ha
      refine ⟨fun k bx hf hkb => ?_, hs⟩
      have := (H.boxes.mine k bx _ hf hkb).1
      simp at this
    · simp only [upd_ne _ _ hji] at hx
      exact H.tips.box j hj x hx hnx a ha
  · intro j b hj; have := H.kap j b hj; simp; omega
  · intro j hj
    have : j ≠ i := by omega
    show upd G.τ i _ j = none
    rw [upd_ne _ _ this]; exact H.nt j hj

def Hp.moveTok (hp : Hp) (i : Nat) : Hp := { hp with nt := hp.nt + 1, alive := hp.nt :: hp.alive.filter (fun j => !Nat.beq j i) }
theorem mem_move {hp : Hp} {i j : Nat} (h : j ∈ (hp.moveTok i).alive) : j = hp.nt ∨ (j ∈ hp.alive ∧ j ≠ i) := by
  simp only [Hp.moveTok, List.mem_cons, List.mem_filter] at h
  rcases h with h | ⟨h1, h2⟩
  · exact .inl h
  · refine .inr ⟨h1, fun e => ?_⟩
    subst e; simp at h2

/-- A row that grows where it stands: the new one's number is hp.nt. -/
theorem HInv.grow {hp : Hp} (H : HInv E G hp w) {i b o n c sz m : Nat} (hi : i ∈ hp.alive) (ht : G.τ i = some ⟨some ⟨b, o, none⟩, n, c, sz⟩) (hnc : n ≠ c) (hm : n + m ≤ c) {vs : List Value} (hvs : vs.length = m * sz) :
    HInv E ⟨G.κ, upd G.τ hp.nt (some ⟨some ⟨b, o, none⟩, n + m, c, sz⟩), upd G.L b (o + (n + m) * sz), G.ν⟩ (hp.moveTok i) (w.setCells b (o + n * sz) vs) ∧
      GLater G w ⟨G.κ, upd G.τ hp.nt (some ⟨some ⟨b, o, none⟩, n + m, c, sz⟩), upd G.L b (o + (n + m) * sz), G.ν⟩ (w.setCells b (o + n * sz) vs) ∧
      ∃ (C : List Value) (e : TypeId), w.heap[b]? = some (.cells C.toArray e (0, 0)) ∧ o + c * sz ≤ C.length ∧ G.L b = o + n * sz := by
  rcases H.tips.tip i hi _ ht with h | ⟨b', o', C, e, h1, hb, hLb, hcs⟩
  · exact absurd h hnc
  simp only [Option.some.injEq, Addr.mk.injEq, and_true] at h1
  obtain ⟨rfl, rfl⟩ := h1
  simp only at hLb hcs
  have hb : w.heap[b]? = some (.cells C.toList.toArray e (0, 0)) := by simpa using hb
  have hmul : (n + m) * sz ≤ c * sz := Nat.mul_le_mul_right _ hm
  have hadd : (n + m) * sz = n * sz + m * sz := Nat.add_mul _ _ _
  have hfit : o + n * sz + vs.length ≤ C.toList.length := by simp; omega
  have hblt : b < w.heap.size := (Array.getElem?_eq_some_iff.1 hb).1
  obtain ⟨nobox, hbE⟩ := H.tips.box i hi _ ht hnc _ rfl
  have hL : ∀ k, k ≠ b → upd G.L b (o + (n + m) * sz) k = G.L k := fun k hk => upd_ne _ _ hk
  have lt : GLater G w ⟨G.κ, upd G.τ hp.nt (some ⟨some ⟨b, o, none⟩, n + m, c, sz⟩), upd G.L b (o + (n + m) * sz), G.ν⟩ (w.setCells b (o + n * sz) vs) := by
    refine ⟨fun _ _ h => h, fun j x hj => ?_, later_setCells hb hfit (fun k => ?_) (by omega), fun _ _ _ => rfl⟩
    · have : j ≠ hp.nt := by intro h; subst h; rw [H.nt _ (Nat.le_refl _)] at hj; simp at hj
      show upd G.τ hp.nt _ j = _
      rw [upd_ne _ _ this]; exact hj
    · by_cases hk : k = b
      · subst hk; simp; omega
      · show G.L k ≤ upd G.L b _ k
        rw [hL k hk]; exact Nat.le_refl _
  refine ⟨⟨⟨?_, H.boxes.sep, ?_⟩, ⟨?_, ?_, ?_⟩, H.frame.set hbE hblt hL, ?_, H.nb, ?_, ?_, H.bk⟩, lt, C.toList, e, hb, by simpa using hcs, hLb⟩
  · intro k bx b' hf hkb
    have hne : b' ≠ b := fun he => nobox k bx hf (show G.at k = some b from he ▸ hkb)
    exact (H.boxes.rel k bx b' hf hkb).later lt (setCells_other vs _ hne) (hL b' hne)
  · intro k bx b' hf hkb; rw [setCells_size]; exact H.boxes.mine k bx b' hf hkb
  · intro j hj x hx
    rcases mem_move hj with rfl | ⟨hj, hji⟩
    · simp at hx; subst hx
      refine .inr ⟨b, o, (splice C.toList (o + n * sz) vs).toArray, e, rfl, setCells_block vs _ hb hfit, by simp, ?_⟩
      simp only [List.size_toArray, splice_length hfit, Array.length_toList]
      exact hcs
    · have hjn : j ≠ hp.nt := by have := H.al j hj; omega
      simp only [upd_ne _ _ hjn] at hx
      exact (H.tips.tip j hj x hx).set (fun hn a ha => H.tips.sep j i hj hi hji x _ hx ht hn hnc a _ ha rfl) hL
  · intro j j' hj hj' hne x y hx hy nx ny a a' ha ha'
    rcases mem_move hj with rfl | ⟨hj, hji⟩ <;> rcases mem_move hj' with rfl | ⟨hj', hji'⟩
    · omega
    · simp at hx; subst hx; simp at ha; subst ha
      have hjn : j' ≠ hp.nt := by have := H.al j' hj'; omega
      simp only [upd_ne _ _ hjn] at hy
      exact (H.tips.sep j' i hj' hi hji' y _ hy ht ny hnc a' _ ha' rfl).symm
    · simp at hy; subst hy; simp at ha'; subst ha'
      have hjn : j ≠ hp.nt := by have := H.al j hj; omega
      simp only [upd_ne _ _ hjn] at hx
      exact H.tips.sep j i hj hi hji x _ hx ht nx hnc a _ ha rfl
    · have hjn : j ≠ hp.nt := by have := H.al j hj; omega
      have hjn' : j' ≠ hp.nt := by have := H.al j' hj'; omega
      simp only [upd_ne _ _ hjn] at hx; simp only [upd_ne _ _ hjn'] at hy
      exact H.tips.sep j j' hj hj' hne x y hx hy nx ny a a' ha ha'
  · intro j hj x hx hnx a ha
    rcases mem_move hj with rfl | ⟨hj, hji⟩
    · simp at hx; subst hx; simp at ha; subst ha
      exact ⟨nobox, hbE⟩
    · have hjn : j ≠ hp.nt := by have := H.al j hj; omega
      simp only [upd_ne _ _ hjn] at hx
      exact H.tips.box j hj x hx hnx a ha
  · intro j b' hj; rw [setCells_size]; exact H.kap j b' hj
  · intro j hj
    simp only [Hp.moveTok] at hj
    have : j ≠ hp.nt := by omega
    show upd G.τ hp.nt _ j = none
    rw [upd_ne _ _ this]; exact H.nt j (by omega)
  · intro j hj
    rcases mem_move hj with rfl | ⟨hj, hji⟩
    · simp [Hp.moveTok]
    · have := H.al j hj; simp [Hp.moveTok]; omega
end
end Go.Ax
