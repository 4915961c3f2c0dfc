/- Ax, part J: stores and rows: the relation lives on. No project text. -/
import Derived.Test.YtafbefpimhaopaaAxI
set_option linter.unusedVariables false
set_option linter.unusedSimpArgs false
set_option linter.unnecessarySimpa false
set_option linter.unusedSectionVars false
namespace Go.Ax

def splice {α : Type} (C : List α) (o : Nat) (vs : List α) : List α := C.take o ++ vs ++ C.drop (o + vs.length)
theorem splice_length {α : Type} {C vs : List α} {o : Nat} (h : o + vs.length ≤ C.length) : (splice C o vs).length = C.length := by
  simp [splice]; omega
theorem splice_nil {α : Type} (C : List α) (o : Nat) : splice C o [] = C := by simp [splice]
theorem splice_cons {α : Type} {C : List α} {o : Nat} {v : α} {vs : List α} (h : o + (v :: vs).length ≤ C.length) : splice C o (v :: vs) = splice (C.set o v) (o + 1) vs := by
  simp only [List.length_cons] at h
  apply List.ext_getElem?
  intro i
  simp only [splice, List.getElem?_append, List.length_append, List.length_take, List.length_cons, List.getElem?_take, List.getElem?_drop, List.length_set, List.getElem?_set, List.getElem?_cons]
  by_cases h1 : i < o
  · have : i < min o C.length := by omega
    simp [this, h1, show i < o + 1 by omega, show i < min (o + 1) C.length by omega, show i < min o C.length + (vs.length + 1) by omega, show o ≠ i by omega, show i < min (o + 1) C.length + vs.length by omega]
  · by_cases h2 : i = o
    · subst h2
      simp [show ¬ (i < min i C.length) by omega, show i - min i C.length = 0 by omega, show i < min i C.length + (vs.length + 1) by omega, show i < min (i + 1) C.length by omega, show i < min (i + 1) C.length + vs.length by omega, show i < C.length by omega]
    · by_cases h3 : i < o + 1 + vs.length
      · simp [show ¬ (i < min o C.length) by omega, show i < min o C.length + (vs.length + 1) by omega, show ¬ (i < min (o + 1) C.length) by omega, show i < min (o + 1) C.length + vs.length by omega, show i - min o C.length ≠ 0 by omega]
        congr 1; omega
      · simp [show ¬ (i < min o C.length + (vs.length + 1)) by omega, show ¬ (i < min (o + 1) C.length + vs.length) by omega]
        rw [if_neg (by omega)]
        congr 1; omega
theorem setCells_other {b : Nat} : ∀ (vs : List Value) (o : Nat) {w : World} {k : Nat}, k ≠ b → (w.setCells b o vs).heap[k]? = w.heap[k]?
  | [], _, _, _, _ => rfl
  | v :: vs, o, w, k, h => by
    rw [World.setCells, setCells_other vs (o + 1) h, RowKit.Below.heap_setCell _ _ _ _ h]
theorem setCells_size {b : Nat} : ∀ (vs : List Value) (o : Nat) {w : World}, (w.setCells b o vs).heap.size = w.heap.size
  | [], _, _ => rfl
  | v :: vs, o, w => by rw [World.setCells, setCells_size vs (o + 1)]; simp [World.setCell]
theorem setCells_rest {b : Nat} : ∀ (vs : List Value) (o : Nat) {w : World}, (w.setCells b o vs).os = w.os ∧ (w.setCells b o vs).tape = w.tape ∧ (w.setCells b o vs).output = w.output
  | [], _, _ => ⟨rfl, rfl, rfl⟩
  | v :: vs, o, w => by rw [World.setCells]; exact setCells_rest vs (o + 1)
theorem setCells_block {b : Nat} {e : TypeId} {fr : Nat × Nat} : ∀ (vs : List Value) (o : Nat) {w : World} {C : List Value}, w.heap[b]? = some (.cells C.toArray e fr) → o + vs.length ≤ C.length →
    (w.setCells b o vs).heap[b]? = some (.cells (splice C o vs).toArray e fr)
  | [], o, w, C, h, _ => by rw [splice_nil]; exact h
  | v :: vs, o, w, C, h, hl => by
    rw [splice_cons hl, World.setCells]
    refine setCells_block vs (o + 1) ?_ (by simp at hl ⊢; omega)
    simp [World.setCell, Array.getElem?_modify, h]
theorem cell_block {w : World} {b k : Nat} {C : List Value} {e : TypeId} {fr : Nat × Nat} (h : w.heap[b]? = some (.cells C.toArray e fr)) : w.cell? ⟨b, k, none⟩ = C[k]? := by
  simp [World.cell?, h]

theorem splice_all2 {α β : Type} {R : α → β → Prop} {xs : List α} {ys : List β} {o : Nat} {us : List α} {vs : List β} (h : All2 R xs ys) (k : All2 R us vs) : All2 R (splice xs o us) (splice ys o vs) := by
  have := k.length
  simp only [splice]
  rw [this]
  exact ((h.take o).append k).append (h.drop _)
theorem splice_one {xs us : List AV} {o : Nat} (h : ∀ y, y ∈ xs → y.one = true) (k : ∀ y, y ∈ us → y.one = true) : ∀ y, y ∈ splice xs o us → y.one = true := by
  intro y hy
  simp only [splice, List.mem_append] at hy
  rcases hy with (hy | hy) | hy
  · exact h y (List.mem_of_mem_take hy)
  · exact k y hy
  · exact h y (List.mem_of_mem_drop hy)

theorem rep1_one {G : Gh} {w : World} {X : AV} {v : Value} (h : Rep1 G w X v) (h1 : X.one = true) : v.oneCell' = true := by
  unfold Rep1 at h
  split at h
  · obtain ⟨A, n, c, rfl, _⟩ := h; rfl
  · obtain ⟨b, _, _, _, rfl⟩ := h; rfl
  · obtain ⟨b, _, rfl⟩ := h; rfl
  · obtain ⟨b, _, rfl⟩ := h; rfl
  · obtain ⟨vs, rfl, _⟩ := h; rfl
  · cases h with
    | lit h => cases v <;> first | rfl | simp [scalar] at h
    | agg => simp [AV.one] at h1
    | tup => simp [AV.one] at h1
    | _ => rfl
theorem rep1_ones {G : Gh} {w : World} {xs : List AV} {vs : List Value} (h : All2 (Rep1 G w) xs vs) (h1 : ∀ y, y ∈ xs → y.one = true) : ∀ v, v ∈ vs → v.oneCell' = true := by
  induction h with
  | nil => simp
  | cons hx _ ih =>
    intro v hv
    cases hv with
    | head => exact rep1_one hx (h1 _ (by simp))
    | tail _ hv => exact ih (fun y hy => h1 y (by simp [hy])) v hv
/-- A value's cells. -/
theorem rep_cells {G : Gh} {w : World} {X : AV} {v : Value} (h : Rep G w X v) (h2 : ∀ cs, X ≠ .tup cs) : All2 (Rep1 G w) X.cells v.cells.toList ∧ (∀ y, y ∈ X.cells → y.one = true) := by
  rw [rep_eq h2] at h
  cases X with
  | agg cs => obtain ⟨h1, vs, rfl, ha⟩ := h; exact ⟨by simpa [AV.cells, Value.cells] using ha, h1⟩
  | tup cs => exact absurd rfl (h2 cs)
  | _ =>
    rw [rep2_eq (by simp)] at h
    have hv : v.cells = #[v] := by
      have := rep1_one h rfl
      cases v <;> first | rfl | simp [Value.oneCell'] at this
    rw [hv]
    exact ⟨.cons h .nil, by simp [AV.cells, AV.one]⟩
end Go.Ax
