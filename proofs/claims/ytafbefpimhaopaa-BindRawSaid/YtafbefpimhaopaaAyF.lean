/- AyF: data opened into abstract values; a call over the starting world. -/
import Derived.Test.YtafbefpimhaopaaAyE
import Derived.ProofKit
import Derived.Deep.Slices
set_option linter.unusedVariables false
set_option linter.unusedSimpArgs false
set_option linter.unnecessarySimpa false
set_option linter.unusedSectionVars false
namespace Go.Ax

/-- How many cells a block has. -/
def blockLen (W : World) (b : Nat) : Nat :=
  match W.heap[b]? with
  | some (.cells c _ _) => c.size
  | _ => 0
theorem cell_lt {W : World} {a : Addr} {v : Value} (h : W.cell? a = some v) : a.spot = none ∧ a.off < blockLen W a.block := by
  unfold World.cell? at h
  unfold blockLen
  split at h
  · rename_i c t z hh
    rw [hh]
    split at h
    · simp at h
    · rename_i hs
      refine ⟨by simpa using hs, (Array.getElem?_eq_some_iff.1 h).1⟩
  · simp at h
theorem RepDL.append {L : Nat → Nat} {w : World} {xs ys : List AV} {us vs : List Value} (h : RepDL L w xs us) (k : RepDL L w ys vs) : RepDL L w (xs ++ ys) (us ++ vs) :=
  .of_all2 (h.all2.append k.all2)

section
variable {H : Type} {enc : TypeId × Value → H} {P : Program} {W : World} {base : Nat} {spare : Nat → Bool} {held : Bool}

theorem trod_fields {t : TypeId} {fs : Array Field} {n : Nat} {cs : List Value} {x : DataW H × List MemPlace} (ht : P.underlying t = some (.struct fs)) (h : DataW.trod enc P W base spare held n t cs = some x) :
    ∃ m, n = m + 1 ∧ cs.length = P.cellsOf t ∧ ∀ (i : Nat) (f : Field) (T k : Nat) (ps : List Value), fs[i]? = some f → f.type = T → P.cellsOf T = k → (cs.drop f.offset).take k = ps → ∃ y, DataW.trod enc P W base spare held m T ps = some y := by
  obtain ⟨xs, m, rfl, _, hl, hx, hf⟩ := DataW.trod_struct ht h
  refine ⟨m, rfl, hl, fun i f T k ps hi hT hk hp => ?_⟩
  subst hT; subst hk; subst hp
  have hlt : i < fs.size := (Array.getElem?_eq_some_iff.1 hi).1
  rw [hf i f hi, List.getElem?_eq_getElem (by omega)]
  exact ⟨_, rfl⟩

theorem opn_slice {α : Type} {f : α → AV} {Good : α → Prop} {t e : TypeId} {sz n : Nat} {cs : List Value} {x : DataW H × List MemPlace} (ht : P.underlying t = some (.slice e)) (hc : P.cellsOf e = sz) (h0 : 0 < sz)
    (hsz : ∀ a, (f a).cells.length = sz) (hone : ∀ a y, y ∈ (f a).cells → y.one = true)
    (hel : ∀ m cs y, m < n → DataW.trod enc P W base spare held m e cs = some y → ∃ a, RepDL (blockLen W) W (f a).cells cs ∧ Good a)
    (h : DataW.trod enc P W base spare held n t cs = some x) :
    ∃ l : List α, RepDL (blockLen W) W [.slice sz .dead (l.map f)] cs ∧ l.length ≤ maxLen ∧ ∀ a, a ∈ l → Good a := by
  rcases DataW.trod_slice ht h with ⟨rfl, _⟩ | ⟨a, len, cap, elems, rest, m, rfl, rfl, _, hb, hl, hm, hlen, hx, _⟩
  · refine ⟨[], .cons (.slice (vs := []) rfl (Nat.le_refl _) (Nat.zero_le _) (by simp) (by simp [flat]) .nil (by simp) trivial) .nil, Nat.zero_le _, by simp⟩
  · have key : ∀ k, k ≤ len → ∃ (l : List α) (vs : List Value), l.length = k ∧ RepDL (blockLen W) W (flat (l.map f)) vs ∧ vs.length = k * sz ∧ (∀ i, i < k * sz → W.cell? (a.add i) = vs[i]?) ∧ ∀ a, a ∈ l → Good a := by
      intro k
      induction k with
      | zero => intro _; exact ⟨[], [], rfl, .nil, by simp, by simp, by simp⟩
      | succ k ih =>
        intro hk
        obtain ⟨l, vs, h1, h2, h3, h4, h5⟩ := ih (by omega)
        have := hx k (by omega)
        rw [hc, List.getElem?_eq_getElem (by omega)] at this
        obtain ⟨cs', e1, e2⟩ := Option.bind_eq_some_iff.1 this
        obtain ⟨z, hz, hg⟩ := hel m cs' _ (by omega) e2
        obtain ⟨_, d1, d2⟩ := World.cells?_some e1
        refine ⟨l ++ [z], vs ++ cs', by simp [h1], ?_, by simp [h3, d1, Nat.succ_mul], ?_, ?_⟩
        · rw [List.map_append, flat_append]
          exact h2.append (by simpa [flat] using hz)
        · intro i hi
          rw [Nat.succ_mul] at hi
          by_cases hik : i < k * sz
          · rw [h4 i hik, List.getElem?_append_left (by omega)]
          · rw [List.getElem?_append_right (by omega), h3, ← d2 (i - k * sz) (by omega), Go.Deep.add_add]
            congr 2
            omega
        · intro b hb
          rcases List.mem_append.1 hb with hb | hb
          · exact h5 b hb
          · simp at hb; subst hb; exact hg
    obtain ⟨l, vs, h1, h2, h3, h4, h5⟩ := key len (Nat.le_refl _)
    refine ⟨l, .cons (.slice (vs := vs) (by simp [h1]) hl hm ?_ ?_ h2 ?_ trivial) .nil, by omega, h5⟩
    · intro x hx
      obtain ⟨b, _, rfl⟩ := List.mem_map.1 hx
      exact hsz b
    · intro y hy
      obtain ⟨x, hx, hy⟩ := List.mem_flatMap.1 hy
      obtain ⟨b, _, rfl⟩ := List.mem_map.1 hx
      exact hone b y hy
    · intro hn
      have hpos : 0 < len * sz := Nat.mul_pos (by omega) h0
      have h00 := h4 0 hpos
      rw [List.getElem?_eq_getElem (by omega)] at h00
      have s1 : a.spot = none := (cell_lt h00).1
      obtain ⟨b, o, z⟩ := a
      simp at s1
      subst s1
      have hlast := h4 (len * sz - 1) (by omega)
      rw [List.getElem?_eq_getElem (by omega), addr_add] at hlast
      have s2 : o + (len * sz - 1) < blockLen W b := (cell_lt hlast).2
      refine ⟨b, o, rfl, by omega, ?_⟩
      intro k v hk
      have hlt : k < vs.length := (List.getElem?_eq_some_iff.1 hk).1
      rw [← hk, ← h4 k (by omega), addr_add]
end

def startGh (W : World) : Gh := ⟨fun _ => none, fun _ => none, blockLen W, fun _ => 0⟩
theorem start_inv (W : World) : HInv ⟨W, blockLen W⟩ (startGh W) Hp.none W where
  boxes := ⟨fun k bx b h => by simp [Hp.none, find] at h, fun k k' bx bx' b h => by simp [Hp.none, find] at h, fun k bx b h => by simp [Hp.none, find] at h⟩
  tips := ⟨fun i h => by simp [Hp.none] at h, fun i j h => by simp [Hp.none] at h, fun i h => by simp [Hp.none] at h⟩
  frame := ⟨rfl, rfl, rfl, Nat.le_refl _, fun b _ => ⟨rfl, rfl⟩, fun b h => by
    show blockLen W b = 0
    unfold blockLen
    rw [Array.getElem?_eq_none h]⟩
  kap := fun i b h => by simp [startGh] at h
  nb := fun i _ => rfl
  nt := fun i _ => rfl
  al := fun i h => by simp [Hp.none] at h
  bk := fun k bx h => by simp [Hp.none, find] at h

/-- The call from the world as it stands: what it comes to, and that nothing that stood has turned. -/
theorem Pure.calls {P : Program} {g : FuncId} {xs : List AV} {Q : AV → Prop} (h : Pure P g xs Q) {W : World} {vs : List Value} (ha : All2 (RepD (blockLen W) W) xs vs) :
    Calls P g vs.toArray W fun e W' => ∃ r v, e = .returned v ∧ Q r ∧ Go.RowKit.Below W.heap.size W W' ∧ ∃ G', Rep G' W' r v :=
  ((h Hp.none).2 ⟨W, blockLen W⟩ (startGh W) W vs (start_inv W) (ha.imp fun _ _ hh => rep_ofD hh)).mono
    fun e W' ⟨r, v, hp', G', h1, ⟨_, hq⟩, hi, _, hr⟩ => ⟨r, v, h1, hq, ⟨hi.frame.os, hi.frame.tape, hi.frame.output, hi.frame.size, fun k hk => (hi.frame.old k hk).1⟩, G', hr⟩
end Go.Ax
