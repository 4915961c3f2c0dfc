/- Ax, part A: abstract values and how they stand for the machine's values. No project text. -/
import Derived.Below
import Derived.Deep.Draws
import Derived.Laws.IdiomCopy
import Derived.KernelRfl
set_option linter.unusedVariables false
set_option linter.unusedSimpArgs false
set_option linter.unnecessarySimpa false
set_option linter.unusedSectionVars false
namespace Go.Ax

/-- What is known of a slice's room: nothing; it is nil; it has no room; it is row number i of this activation. -/
inductive Tok where
  | dead | nil | zero | empty | loc (i : Nat)

/-- A variable in memory: of this activation (a number), or from outside (its block). -/
inductive Key where
  | l (i : Nat) | o (b : Nat)

inductive AV where
  | lit (v : Value)
  | slice (sz : Nat) (t : Tok) (items : List AV)
  | row (k : Nat) (n : Nat)
  | agg (cs : List AV)
  | tup (cs : List AV)
  | ptr (k : Key) (off : Nat)
  | rptr (k : Nat) (sz i off : Nat)
  | eptr (cs : List AV)
  | func (fn : Fn) (first captured : List AV)
  | clo (fn : Fn) (vars : List Nat)
  | iface (t : TypeId) (v : AV)

def AV.cells : AV → List AV
  | .agg cs => cs
  | x => [x]
def AV.one : AV → Bool
  | .agg _ => false
  | .tup _ => false
  | _ => true
def flat (items : List AV) : List AV := items.flatMap AV.cells

/-- Values of one cell in which no address stands. -/
def scalar : Value → Bool
  | .bool _ | .int _ _ | .float _ _ | .complex _ _ _ | .string _ | .pointer none | .map none | .chan none | .nilFunc | .nilIface => true
  | _ => false

inductive All2 {α β : Type} (R : α → β → Prop) : List α → List β → Prop
  | nil : All2 R [] []
  | cons {x y xs ys} (h : R x y) (t : All2 R xs ys) : All2 R (x :: xs) (y :: ys)

theorem All2.imp {α β : Type} {R S : α → β → Prop} (h : ∀ x y, R x y → S x y) {xs : List α} {ys : List β} (a : All2 R xs ys) : All2 S xs ys := by
  induction a with
  | nil => exact .nil
  | cons hx _ ih => exact .cons (h _ _ hx) ih
theorem All2.length {α β : Type} {R : α → β → Prop} {xs : List α} {ys : List β} (a : All2 R xs ys) : xs.length = ys.length := by
  induction a with
  | nil => rfl
  | cons _ _ ih => simp [ih]
theorem All2.get {α β : Type} {R : α → β → Prop} {xs : List α} {ys : List β} (a : All2 R xs ys) : ∀ {i : Nat} {x : α}, xs[i]? = some x → ∃ y : β, ys[i]? = some y ∧ R x y := by
  induction a with
  | nil => intro i x h; simp at h
  | cons hx _ ih =>
    intro i x h
    cases i with
    | zero => simp at h; subst h; exact ⟨_, by simp, hx⟩
    | succ i => simp at h; obtain ⟨y, hy, hr⟩ := ih h; exact ⟨y, by simpa using hy, hr⟩
theorem All2.append {α β : Type} {R : α → β → Prop} {xs xs' : List α} {ys ys' : List β} (a : All2 R xs ys) (b : All2 R xs' ys') : All2 R (xs ++ xs') (ys ++ ys') := by
  induction a with
  | nil => exact b
  | cons hx _ ih => exact .cons hx ih
theorem All2.drop {α β : Type} {R : α → β → Prop} {xs : List α} {ys : List β} (a : All2 R xs ys) : ∀ n, All2 R (xs.drop n) (ys.drop n) := by
  induction a with
  | nil => intro n; simp; exact .nil
  | cons hx t ih => intro n; cases n with
    | zero => exact .cons hx t
    | succ n => simpa using ih n
theorem All2.take {α β : Type} {R : α → β → Prop} {xs : List α} {ys : List β} (a : All2 R xs ys) : ∀ n, All2 R (xs.take n) (ys.take n) := by
  induction a with
  | nil => intro n; simp; exact .nil
  | cons hx t ih => intro n; cases n with
    | zero => exact .nil
    | succ n => simpa using .cons hx (ih n)
theorem All2.set {α β : Type} {R : α → β → Prop} {xs : List α} {ys : List β} (a : All2 R xs ys) {x : α} {y : β} (h : R x y) : ∀ i, All2 R (xs.set i x) (ys.set i y) := by
  induction a with
  | nil => intro i; simp; exact .nil
  | cons hx t ih => intro i; cases i with
    | zero => exact .cons h t
    | succ i => simpa using .cons hx (ih i)
theorem All2.splitL {α β : Type} {R : α → β → Prop} {xs xs' : List α} {ys : List β} (a : All2 R (xs ++ xs') ys) : ∃ y1 y2, ys = y1 ++ y2 ∧ All2 R xs y1 ∧ All2 R xs' y2 := by
  induction xs generalizing ys with
  | nil => exact ⟨[], ys, rfl, .nil, a⟩
  | cons x xs ih =>
    cases a with
    | cons h t => obtain ⟨y1, y2, rfl, h1, h2⟩ := ih t; exact ⟨_ :: y1, y2, rfl, .cons h h1, h2⟩

/-- From offset o of block b on stand these cells. -/
def CellsAt (w : World) (b o : Nat) (vs : List Value) : Prop := ∀ k v, vs[k]? = some v → w.cell? ⟨b, o + k, none⟩ = some v

def Tok.okD : Tok → Option Addr → Nat → Prop
  | .dead, _, _ => True
  | .nil, A, c => A = none ∧ c = 0
  | .zero, A, c => A.isSome = true ∧ c = 0
  | .empty, A, c => c = 0
  | .loc _, _, _ => False

mutual
/-- x stands for v; what it leads to lies in stable places (below L) of w. -/
inductive RepD (L : Nat → Nat) (w : World) : AV → Value → Prop
  | lit {v : Value} (h : scalar v = true) : RepD L w (.lit v) v
  | slice {sz : Nat} {t : Tok} {items : List AV} {A : Option Addr} {n c : Nat} {vs : List Value} (hn : n = items.length) (hc : n ≤ c) (hm : c ≤ maxLen)
      (hsz : ∀ x, x ∈ items → x.cells.length = sz) (h1 : ∀ y, y ∈ flat items → y.one = true) (hr : RepDL L w (flat items) vs)
      (hA : n ≠ 0 → ∃ b o, A = some ⟨b, o, none⟩ ∧ o + vs.length ≤ L b ∧ CellsAt w b o vs) (ht : t.okD A c) : RepD L w (.slice sz t items) (.slice A n c)
  | agg {cs : List AV} {vs : List Value} (h1 : ∀ y, y ∈ cs → y.one = true) (h : RepDL L w cs vs) : RepD L w (.agg cs) (.agg vs.toArray)
  | tup {cs : List AV} {vs : List Value} (h : RepDL L w cs vs) : RepD L w (.tup cs) (.tuple vs.toArray)
  | ptr {b off : Nat} : RepD L w (.ptr (.o b) off) (.pointer (some ⟨b, off, none⟩))
  | eptr {cs : List AV} {b o : Nat} {vs : List Value} (h1 : ∀ y, y ∈ cs → y.one = true) (hr : RepDL L w cs vs) (hb : o + vs.length ≤ L b) (hc : CellsAt w b o vs) :
      RepD L w (.eptr cs) (.pointer (some ⟨b, o, none⟩))
  | func {fn : Fn} {f c : List AV} {fs cs : List Value} (hf : RepDL L w f fs) (hc : RepDL L w c cs) : RepD L w (.func fn f c) (.func fn fs.toArray cs.toArray)
  | iface {t : TypeId} {x : AV} {v : Value} (h : RepD L w x v) : RepD L w (.iface t x) (.iface t v)
inductive RepDL (L : Nat → Nat) (w : World) : List AV → List Value → Prop
  | nil : RepDL L w [] []
  | cons {x : AV} {v : Value} {xs : List AV} {vs : List Value} (h : RepD L w x v) (t : RepDL L w xs vs) : RepDL L w (x :: xs) (v :: vs)
end

/-- Later: what was stable is stable, and stands as it stood. -/
structure Later (L : Nat → Nat) (w : World) (L' : Nat → Nat) (w' : World) : Prop where
  le : ∀ b, L b ≤ L' b
  cell : ∀ b o v, o < L b → w.cell? ⟨b, o, none⟩ = some v → w'.cell? ⟨b, o, none⟩ = some v
theorem Later.refl (L : Nat → Nat) (w : World) : Later L w L w := ⟨fun _ => Nat.le_refl _, fun _ _ _ _ h => h⟩
theorem Later.trans {L L1 L2 : Nat → Nat} {w w1 w2 : World} (h : Later L w L1 w1) (k : Later L1 w1 L2 w2) : Later L w L2 w2 :=
  ⟨fun b => Nat.le_trans (h.le b) (k.le b), fun b o v hb hv => k.cell b o v (Nat.lt_of_lt_of_le hb (h.le b)) (h.cell b o v hb hv)⟩
theorem CellsAt.later {L L' : Nat → Nat} {w w' : World} (h : Later L w L' w') {b o : Nat} {vs : List Value} (hb : o + vs.length ≤ L b) (hc : CellsAt w b o vs) : CellsAt w' b o vs := by
  intro k v hk
  have : k < vs.length := (List.getElem?_eq_some_iff.1 hk).1
  exact h.cell b (o + k) v (by omega) (hc k v hk)

mutual
theorem RepD.later {L L' : Nat → Nat} {w w' : World} (e : Later L w L' w') {x : AV} {v : Value} (h : RepD L w x v) : RepD L' w' x v := by
  match h with
  | .lit h => exact .lit h
  | .slice hn hc hm hsz h1 hr hA ht =>
    exact .slice hn hc hm hsz h1 (RepDL.later e hr) (fun h0 => let ⟨b, o, ha, hb, hx⟩ := hA h0; ⟨b, o, ha, Nat.le_trans hb (e.le b), hx.later e hb⟩) ht
  | .agg h1 h => exact .agg h1 (RepDL.later e h)
  | .tup h => exact .tup (RepDL.later e h)
  | .ptr => exact .ptr
  | .eptr h1 hr hb hc => exact .eptr h1 (RepDL.later e hr) (Nat.le_trans hb (e.le _)) (hc.later e hb)
  | .func hf hc => exact .func (RepDL.later e hf) (RepDL.later e hc)
  | .iface h => exact .iface (RepD.later e h)
theorem RepDL.later {L L' : Nat → Nat} {w w' : World} (e : Later L w L' w') {xs : List AV} {vs : List Value} (h : RepDL L w xs vs) : RepDL L' w' xs vs := by
  match h with
  | .nil => exact .nil
  | .cons h t => exact .cons (RepD.later e h) (RepDL.later e t)
end
theorem RepDL.all2 {L : Nat → Nat} {w : World} {xs : List AV} {vs : List Value} (h : RepDL L w xs vs) : All2 (RepD L w) xs vs := by
  induction vs generalizing xs with
  | nil => cases h; exact .nil
  | cons v vs ih => cases h with | cons h t => exact .cons h (ih t)
theorem RepDL.of_all2 {L : Nat → Nat} {w : World} {xs : List AV} {vs : List Value} (h : All2 (RepD L w) xs vs) : RepDL L w xs vs := by
  induction h with
  | nil => exact .nil
  | cons h _ ih => exact .cons h ih
end Go.Ax
