/- Ax, part B: an activation's abstract state, and how it stands to the machine. No project text. -/
import Derived.Test.YtafbefpimhaopaaAxA
set_option linter.unusedVariables false
set_option linter.unusedSimpArgs false
set_option linter.unnecessarySimpa false
set_option linter.unusedSectionVars false
namespace Go.Ax

structure TokI where
  A : Option Addr
  n : Nat
  c : Nat
  sz : Nat
structure Gh where
  κ : Nat → Option Nat
  τ : Nat → Option TokI
  L : Nat → Nat
  ν : Nat → Nat

def Rep1 (G : Gh) (w : World) : AV → Value → Prop
  | .slice sz (.loc i) items, v => ∃ A n c, v = .slice A n c ∧ G.τ i = some ⟨A, n, c, sz⟩ ∧ RepD G.L w (.slice sz .dead items) v
  | .row k n, v => ∃ b, G.κ k = some b ∧ n ≤ G.ν k ∧ G.ν k ≤ maxLen ∧ v = .slice (some ⟨b, 0, none⟩) n (G.ν k)
  | .ptr (.l i) off, v => ∃ b, G.κ i = some b ∧ v = .pointer (some ⟨b, off, none⟩)
  | .rptr k sz i off, v => ∃ b, G.κ k = some b ∧ v = .pointer (some ⟨b, i * sz + off, none⟩)
  | .clo fn is, v => ∃ vs : List Value, v = .func fn #[] vs.toArray ∧ All2 (fun i u => ∃ b, G.κ i = some b ∧ u = .pointer (some ⟨b, 0, none⟩)) is vs
  | x, v => RepD G.L w x v
def Rep2 (G : Gh) (w : World) : AV → Value → Prop
  | .agg cs, v => (∀ y, y ∈ cs → y.one = true) ∧ ∃ vs : List Value, v = .agg vs.toArray ∧ All2 (Rep1 G w) cs vs
  | x, v => Rep1 G w x v
def Rep (G : Gh) (w : World) : AV → Value → Prop
  | .tup cs, v => ∃ vs : List Value, v = .tuple vs.toArray ∧ All2 (Rep2 G w) cs vs
  | x, v => Rep2 G w x v

def Tok.data : Tok → Bool
  | .loc _ => false
  | _ => true
def AV.data1 : AV → Bool
  | .slice _ t _ => t.data
  | .row _ _ => false
  | .ptr (.l _) _ => false
  | .rptr _ _ _ _ => false
  | .clo _ _ => false
  | .tup _ => false
  | _ => true
def AV.data2 : AV → Bool
  | .agg cs => cs.all AV.data1
  | x => x.data1
def AV.data : AV → Bool
  | .tup cs => cs.all AV.data2
  | x => x.data2

theorem rep1_ofD {G : Gh} {w : World} {x : AV} {v : Value} (h : RepD G.L w x v) : Rep1 G w x v := by
  unfold Rep1
  split <;> first | exact h | skip
  · cases h with | slice hn hc hm hsz h1 hr hA ht => exact ht.elim
  all_goals cases h
theorem rep2_ofD {G : Gh} {w : World} {x : AV} {v : Value} (h : RepD G.L w x v) : Rep2 G w x v := by
  unfold Rep2
  split
  · cases h with
    | agg h1 h => exact ⟨h1, _, rfl, h.all2.imp fun _ _ => rep1_ofD⟩
  · exact rep1_ofD h
theorem rep_ofD {G : Gh} {w : World} {x : AV} {v : Value} (h : RepD G.L w x v) : Rep G w x v := by
  unfold Rep
  split
  · cases h with
    | tup h => exact ⟨_, rfl, h.all2.imp fun _ _ => rep2_ofD⟩
  · exact rep2_ofD h
theorem rep1_toD {G : Gh} {w : World} {x : AV} {v : Value} (h : Rep1 G w x v) (hd : x.data1 = true) : RepD G.L w x v := by
  unfold Rep1 at h
  split at h <;> first | exact h | simp [AV.data1, Tok.data] at hd
theorem all_toD {G : Gh} {w : World} {R : AV → Value → Prop} {p : AV → Bool} (hp : ∀ x v, R x v → p x = true → RepD G.L w x v) {xs : List AV} {vs : List Value} (h : All2 R xs vs) (hd : xs.all p = true) : All2 (RepD G.L w) xs vs := by
  induction h with
  | nil => exact .nil
  | cons hx _ ih => simp at hd; exact .cons (hp _ _ hx hd.1) (ih (by simpa using hd.2))
theorem rep2_toD {G : Gh} {w : World} {x : AV} {v : Value} (h : Rep2 G w x v) (hd : x.data2 = true) : RepD G.L w x v := by
  cases x with
  | agg cs =>
    obtain ⟨h1, vs, rfl, ha⟩ := h
    exact .agg h1 (.of_all2 (all_toD (fun _ _ => rep1_toD) ha hd))
  | _ => exact rep1_toD h hd
theorem rep_toD {G : Gh} {w : World} {x : AV} {v : Value} (h : Rep G w x v) (hd : x.data = true) : RepD G.L w x v := by
  cases x with
  | tup cs =>
    obtain ⟨vs, rfl, ha⟩ := h
    exact .tup (.of_all2 (all_toD (fun _ _ => rep2_toD) ha hd))
  | _ => exact rep2_toD h hd

/-- Later, of the whole ghost. -/
structure GLater (G : Gh) (w : World) (G' : Gh) (w' : World) : Prop where
  κ : ∀ i b, G.κ i = some b → G'.κ i = some b
  τ : ∀ i x, G.τ i = some x → G'.τ i = some x
  L : Later G.L w G'.L w'
  ν : ∀ i b, G.κ i = some b → G'.ν i = G.ν i
theorem GLater.refl (G : Gh) (w : World) : GLater G w G w := ⟨fun _ _ h => h, fun _ _ h => h, .refl _ _, fun _ _ _ => rfl⟩
theorem GLater.trans {G G1 G2 : Gh} {w w1 w2 : World} (h : GLater G w G1 w1) (k : GLater G1 w1 G2 w2) : GLater G w G2 w2 :=
  ⟨fun i b hi => k.κ i b (h.κ i b hi), fun i b hi => k.τ i b (h.τ i b hi), h.L.trans k.L, fun i b hi => (k.ν i b (h.κ i b hi)).trans (h.ν i b hi)⟩
/-- Later, of the ghost in which n, then n' variables are numbered: those below n are as they were. -/
structure Step (n : Nat) (G : Gh) (w : World) (n' : Nat) (G' : Gh) (w' : World) : Prop where
  le : n ≤ n'
  low : ∀ i, i < n → G'.κ i = G.κ i
  later : GLater G w G' w'
theorem Step.refl (n : Nat) (G : Gh) (w : World) : Step n G w n G w := ⟨Nat.le_refl _, fun _ _ => rfl, .refl _ _⟩
theorem Step.trans {n n1 n2 : Nat} {G G1 G2 : Gh} {w w1 w2 : World} (h : Step n G w n1 G1 w1) (k : Step n1 G1 w1 n2 G2 w2) : Step n G w n2 G2 w2 :=
  ⟨Nat.le_trans h.le k.le, fun i hi => (k.low i (Nat.lt_of_lt_of_le hi h.le)).trans (h.low i hi), h.later.trans k.later⟩
theorem rep1_later {G G' : Gh} {w w' : World} (e : GLater G w G' w') {x : AV} {v : Value} (h : Rep1 G w x v) : Rep1 G' w' x v := by
  unfold Rep1 at h ⊢
  split at h
  · obtain ⟨A, n, c, rfl, ht, hr⟩ := h; exact ⟨A, n, c, rfl, e.τ _ _ ht, hr.later e.L⟩
  · obtain ⟨b, hk, h⟩ := h; exact ⟨b, e.κ _ _ hk, by rw [e.ν _ _ hk]; exact h⟩
  · obtain ⟨b, hk, h⟩ := h; exact ⟨b, e.κ _ _ hk, h⟩
  · obtain ⟨b, hk, h⟩ := h; exact ⟨b, e.κ _ _ hk, h⟩
  · obtain ⟨vs, rfl, h⟩ := h; exact ⟨vs, rfl, h.imp fun i u hh => by obtain ⟨b, hk, hu⟩ := hh; exact ⟨b, e.κ _ _ hk, hu⟩⟩
  · exact h.later e.L
theorem rep2_eq {G : Gh} {w : World} {x : AV} {v : Value} (h : ∀ cs, x ≠ .agg cs) : Rep2 G w x v = Rep1 G w x v := by
  cases x <;> first | rfl | exact absurd rfl (h _)
theorem rep_eq {G : Gh} {w : World} {x : AV} {v : Value} (h : ∀ cs, x ≠ .tup cs) : Rep G w x v = Rep2 G w x v := by
  cases x <;> first | rfl | exact absurd rfl (h _)
theorem rep2_later {G G' : Gh} {w w' : World} (e : GLater G w G' w') {x : AV} {v : Value} (h : Rep2 G w x v) : Rep2 G' w' x v := by
  cases x with
  | agg cs => obtain ⟨h1, vs, rfl, ha⟩ := h; exact ⟨h1, vs, rfl, ha.imp fun _ _ => rep1_later e⟩
  | _ => rw [rep2_eq (by simp)] at h ⊢; exact rep1_later e h
theorem rep_later {G G' : Gh} {w w' : World} (e : GLater G w G' w') {x : AV} {v : Value} (h : Rep G w x v) : Rep G' w' x v := by
  cases x with
  | tup cs => obtain ⟨vs, rfl, ha⟩ := h; exact ⟨vs, rfl, ha.imp fun _ _ => rep2_later e⟩
  | _ => rw [rep_eq (by simp)] at h ⊢; exact rep2_later e h

inductive Box where
  | cells (cs : List AV)
  | row (sz : Nat) (items : List AV)
  | frow (sz : Nat) (items : List AV)
  | alias (b : Nat)
  | gone
def Box.live : Box → Bool
  | .gone => false
  | _ => true

def BoxRel (G : Gh) (w : World) (b c : Nat) : Box → Prop
  | .cells cs => ∃ (C : List Value) (e : TypeId), w.heap[b]? = some (.cells C.toArray e (0, 0)) ∧ G.L b = 0 ∧ (∀ y, y ∈ cs → y.one = true) ∧ All2 (Rep1 G w) cs C
  | .row sz items => ∃ (C D : List Value) (e : TypeId), w.heap[b]? = some (.cells (C ++ D).toArray e (0, 0)) ∧ G.L b = 0 ∧ (∀ x, x ∈ items → x.cells.length = sz) ∧
      (∀ y, y ∈ flat items → y.one = true) ∧ All2 (Rep1 G w) (flat items) C ∧ (C ++ D).length = c * sz
  | .frow sz items => ∃ C : List Value, (∀ x, x ∈ items → x.cells.length = sz) ∧ (∀ y, y ∈ flat items → y.one = true) ∧ RepDL G.L w (flat items) C ∧ C.length ≤ G.L b ∧ CellsAt w b 0 C
  | .alias b' => b' = b
  | .gone => True
theorem BoxRel.later {G G' : Gh} {w w' : World} (e : GLater G w G' w') {b c : Nat} {bx : Box} (h : BoxRel G w b c bx) (hh : w'.heap[b]? = w.heap[b]?) (hL : G'.L b = G.L b) : BoxRel G' w' b c bx := by
  cases bx with
  | cells cs => obtain ⟨C, t, hb, h0, h1, ha⟩ := h; exact ⟨C, t, hh.trans hb, hL.trans h0, h1, ha.imp fun _ _ => rep1_later e⟩
  | row sz items => obtain ⟨C, D, t, hb, h0, hs, h1, ha, hl⟩ := h; exact ⟨C, D, t, hh.trans hb, hL.trans h0, hs, h1, ha.imp fun _ _ => rep1_later e, hl⟩
  | frow sz items => obtain ⟨C, hs, h1, hr, hl, hc⟩ := h; exact ⟨C, hs, h1, hr.later e.L, by omega, hc.later e.L (by omega)⟩
  | alias b' => exact h
  | gone => trivial

def Key.eq : Key → Key → Bool
  | .l i, .l j => Nat.beq i j
  | .o a, .o b => Nat.beq a b
  | _, _ => false
theorem Key.eq_iff {a b : Key} : a.eq b = true ↔ a = b := by
  cases a <;> cases b <;> simp [Key.eq]
theorem Key.eq_false {a b : Key} : a.eq b = false ↔ a ≠ b := by
  rw [← Bool.not_eq_true, Key.eq_iff]
def find (k : Key) : List (Key × Box) → Option Box
  | [] => none
  | (k', b) :: r => bif k.eq k' then some b else find k r
def look (s : Nat) : List (Nat × AV) → Option AV
  | [] => none
  | (s', x) :: r => bif Nat.beq s s' then some x else look s r
def Gh.at (G : Gh) : Key → Option Nat
  | .l i => G.κ i
  | .o b => some b

def Gh.capOf (G : Gh) : Key → Nat
  | .l i => G.ν i
  | .o _ => 0
/-- Variables in memory and rows of the activations that run: numbers below nb and nt are given; alive: rows that may be appended to. -/
structure Hp where
  boxes : List (Key × Box)
  nb : Nat
  nt : Nat
  alive : List Nat
/-- rows: slots whose first append makes a row that may be written. -/
structure St where
  env : List (Nat × AV)
  size : Nat
  hp : Hp
  rows : List Nat
def Hp.none : Hp := ⟨[], 0, 0, []⟩

structure Entry where
  w : World
  L : Nat → Nat

def Tip (G : Gh) (w : World) (x : TokI) : Prop :=
  x.n = x.c ∨ ∃ (b o : Nat) (C : Array Value) (e : TypeId), x.A = some ⟨b, o, none⟩ ∧ w.heap[b]? = some (.cells C e (0, 0)) ∧ G.L b = o + x.n * x.sz ∧ o + x.c * x.sz ≤ C.size

structure Frame (E : Entry) (G : Gh) (w : World) : Prop where
  os : w.os = E.w.os
  tape : w.tape = E.w.tape
  output : w.output = E.w.output
  size : E.w.heap.size ≤ w.heap.size
  old : ∀ b, b < E.w.heap.size → w.heap[b]? = E.w.heap[b]? ∧ G.L b = E.L b
  top : ∀ b, w.heap.size ≤ b → G.L b = 0

structure BoxesOk (E : Entry) (G : Gh) (bs : List (Key × Box)) (w : World) : Prop where
  rel : ∀ k bx b, find k bs = some bx → G.at k = some b → BoxRel G w b (G.capOf k) bx
  sep : ∀ k k' bx bx' b, find k bs = some bx → find k' bs = some bx' → bx.live = true → bx'.live = true → G.at k = some b → G.at k' = some b → k = k'
  mine : ∀ k bx b, find k bs = some bx → G.at k = some b → b < w.heap.size ∧ E.w.heap.size ≤ b
structure TipsOk (E : Entry) (G : Gh) (alive : List Nat) (bs : List (Key × Box)) (w : World) : Prop where
  tip : ∀ i, i ∈ alive → ∀ x, G.τ i = some x → Tip G w x
  sep : ∀ i j, i ∈ alive → j ∈ alive → i ≠ j → ∀ x y, G.τ i = some x → G.τ j = some y → x.n ≠ x.c → y.n ≠ y.c → ∀ a a', x.A = some a → y.A = some a' → a.block ≠ a'.block
  box : ∀ i, i ∈ alive → ∀ x, G.τ i = some x → x.n ≠ x.c → ∀ a, x.A = some a → (∀ k bx, find k bs = some bx → G.at k ≠ some a.block) ∧ E.w.heap.size ≤ a.block
structure HInv (E : Entry) (G : Gh) (hp : Hp) (w : World) : Prop where
  boxes : BoxesOk E G hp.boxes w
  tips : TipsOk E G hp.alive hp.boxes w
  frame : Frame E G w
  kap : ∀ i b, G.κ i = some b → E.w.heap.size ≤ b ∧ b < w.heap.size
  nb : ∀ i, hp.nb ≤ i → G.κ i = none
  nt : ∀ i, hp.nt ≤ i → G.τ i = none
  al : ∀ i, i ∈ hp.alive → i < hp.nt
  bk : ∀ k bx, find k hp.boxes = some bx → ∃ i, k = .l i ∧ i < hp.nb
structure Inv (E : Entry) (G : Gh) (σ : St) (pend : List Nat) (a : Act) (w : World) : Prop where
  defers : a.defers = []
  tmps : a.tmps.size = σ.size
  env : ∀ s x, look s σ.env = some x → s ∉ pend → Rep G w x (a.tmps.getD s undef)
  h : HInv E G σ.hp w
end Go.Ax
