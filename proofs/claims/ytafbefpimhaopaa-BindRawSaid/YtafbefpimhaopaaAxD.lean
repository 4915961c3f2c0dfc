/- Ax, part D: a quiet operation of the machine does what part C says. No project text. -/
import Derived.Test.YtafbefpimhaopaaAxC
import Derived.Laws.Cells
import Derived.Laws.Slices
set_option linter.unusedVariables false
set_option linter.unusedSimpArgs false
set_option linter.unnecessarySimpa false
set_option linter.unusedSectionVars false
namespace Go.Ax

theorem rep_one {G : Gh} {w : World} {x : AV} {v : Value} (h : x.one = true) : Rep G w x v = Rep1 G w x v := by
  cases x <;> first | rfl | simp [AV.one] at h
theorem rep_agg {G : Gh} {w : World} {cs : List AV} {vs : List Value} (h1 : ∀ y, y ∈ cs → y.one = true) (h : All2 (Rep1 G w) cs vs) : Rep G w (.agg cs) (.agg vs.toArray) := by
  rw [rep_eq (by simp)]; exact ⟨h1, vs, rfl, h⟩
theorem addr_add (b o j : Nat) : (⟨b, o, none⟩ : Addr).add j = ⟨b, o + j, none⟩ := by unfold Addr.add; split <;> simp_all
theorem CellsAt.drop {w : World} {b o : Nat} {vs : List Value} (h : CellsAt w b o vs) (n : Nat) : CellsAt w b (o + n) (vs.drop n) := by
  intro k v hk
  rw [List.getElem?_drop] at hk
  have := h (n + k) v hk
  rwa [show o + n + k = o + (n + k) by omega]
theorem CellsAt.take {w : World} {b o : Nat} {vs : List Value} (h : CellsAt w b o vs) (n : Nat) : CellsAt w b o (vs.take n) := by
  intro k v hk
  rw [List.getElem?_take] at hk
  split at hk
  · exact h k v hk
  · simp at hk
theorem CellsAt.left {w : World} {b o : Nat} {vs us : List Value} (h : CellsAt w b o (vs ++ us)) : CellsAt w b o vs := by
  have := h.take vs.length
  simpa using this
theorem cellsAt_block {w : World} {b : Nat} {C D : List Value} {e : TypeId} {f : Nat × Nat} (h : w.heap[b]? = some (.cells (C ++ D).toArray e f)) : CellsAt w b 0 C := by
  intro k v hk
  have hl : k < C.length := (List.getElem?_eq_some_iff.1 hk).1
  simp only [World.cell?, h, Nat.zero_add]
  simp [List.getElem?_append_left hl, hk]
theorem cellsAt_block0 {w : World} {b : Nat} {C : List Value} {e : TypeId} {f : Nat × Nat} (h : w.heap[b]? = some (.cells C.toArray e f)) : CellsAt w b 0 C := by
  have := cellsAt_block (C := C) (D := []) (w := w) (b := b) (e := e) (f := f) (by simpa using h)
  exact this

section types
variable {P : Program} {tt : TT} {T : TypeId} {i : TyI} (w : World)
theorem TyOk.sizeOf (h : TyOk P T i) : (sizeOf T).run P w = .ok i.size w := by
  obtain ⟨info, d, h1, h2, h3, h4, h5, h6, h7⟩ := h.ex
  simp [Go.sizeOf, typeInfo, h1, h3]
theorem TyOk.isAgg (h : TyOk P T i) : (isAgg T).run P w = .ok i.isAgg w := by
  obtain ⟨info, d, h1, h2, h3, h4, h5, h6, h7⟩ := h.ex
  rw [← h5]
  cases d <;> simp [Go.isAgg, run_underlying h2, aggD]
theorem TyOk.under (h : TyOk P T i) : ∃ d, P.underlying T = some d ∧ aggD d = i.isAgg ∧ shapeOk i.shape d := by
  obtain ⟨info, d, h1, h2, h3, h4, h5, h6, h7⟩ := h.ex
  exact ⟨d, h2, h5, h7⟩
theorem TyOk.zero (h : TyOk P T i) : ∃ z, (zeroValue T).run P w = .ok z w ∧ z.cells.toList = i.zero := by
  obtain ⟨info, d, h1, h2, h3, h4, h5, ⟨z, hz, hz'⟩, h7⟩ := h.ex
  exact ⟨z, by simp [zeroValue, typeInfo, h1, hz], hz'⟩
end types

/-- Cells that are read as a variable of type T. -/
theorem take_sound {P : Program} {T : TypeId} {ty : TyI} (ht : TyOk P T ty) {G : Gh} {w : World} {fb : Key → Option Box} {cs : List AV} {vs : List Value} {b o : Nat} {x : AV}
    (h1 : ∀ y, y ∈ cs → y.one = true) (hr : All2 (Rep1 G w) cs vs) (hc : CellsAt w b o vs) (h : (takeQ ty cs).holds fb (· = x)) :
    ∃ v, (loadVar T ⟨b, o, none⟩).run P w = .ok v w ∧ Rep G w x v := by
  unfold takeQ at h
  cases ha : ty.isAgg with
  | true =>
    simp only [ha, cond_true, QRes.holds] at h
    obtain ⟨hle, rfl⟩ := h
    have hle : ty.size ≤ cs.length := Nat.le_of_ble_eq_true hle
    have hl := hr.length
    refine ⟨.agg (vs.take ty.size).toArray, ?_, ?_⟩
    · have hrun := run_loadCells_list (P := P) w ⟨b, o, none⟩ (vs.take ty.size) (fun j v hj => by rw [addr_add]; exact hc.take _ j v hj)
      have hlen : (vs.take ty.size).length = ty.size := by simp; omega
      rw [hlen] at hrun
      simp [loadVar, ht.isAgg, ha, ht.sizeOf, hrun]
    · exact rep_agg (fun y hy => h1 y (List.mem_of_mem_take hy)) (hr.take _)
  | false =>
    simp only [ha, cond_false] at h
    cases hr with
    | nil => simp [QRes.holds] at h
    | cons hx hxs =>
      simp only [QRes.holds] at h
      subst h
      rename_i y v xs vs'
      refine ⟨v, ?_, ?_⟩
      · have := hc 0 v (by simp)
        simp only [Nat.add_zero] at this
        simp [loadVar, ht.isAgg, ha, this]
      · rw [rep_one (h1 _ (by simp))]; exact hx

theorem flat_get {sz : Nat} : ∀ {items : List AV} {i : Nat} {x : AV}, (∀ y, y ∈ items → y.cells.length = sz) → items[i]? = some x → ∃ r, (flat items).drop (i * sz) = x.cells ++ r
  | [], i, x, _, h => by simp at h
  | y :: ys, 0, x, hs, h => by simp at h; subst h; exact ⟨flat ys, by simp [flat]⟩
  | y :: ys, i + 1, x, hs, h => by
    simp at h
    obtain ⟨r, hr⟩ := flat_get (fun z hz => hs z (by simp [hz])) h
    refine ⟨r, ?_⟩
    have hy := hs y (by simp)
    rw [← hr]
    simp only [flat, List.flatMap_cons]
    rw [show (i + 1) * sz = y.cells.length + i * sz by rw [hy, Nat.succ_mul]; omega]
    rw [List.drop_append]
    simp
theorem flat_length {sz : Nat} : ∀ {items : List AV}, (∀ y, y ∈ items → y.cells.length = sz) → (flat items).length = items.length * sz
  | [], _ => by simp [flat]
  | y :: ys, hs => by
    have := flat_length (items := ys) (fun z hz => hs z (by simp [hz]))
    simp only [flat, List.flatMap_cons, List.length_append, List.length_cons] at this ⊢
    rw [this, hs y (by simp), Nat.succ_mul]; omega
theorem cells_mem_flat {items : List AV} {x y : AV} (h : x ∈ items) (hy : y ∈ x.cells) : y ∈ flat items := by
  simp only [flat, List.mem_flatMap]; exact ⟨x, h, hy⟩

theorem scalar_rep {G : Gh} {w : World} {v : Value} (h : scalar v = true) : RepD G.L w (.lit v) v := .lit h
theorem rep_lit {G : Gh} {w : World} {v u : Value} (h : Rep G w (.lit v) u) : u = v ∧ scalar v = true := by
  cases (show RepD G.L w (.lit v) u from h) with | lit h' => exact ⟨rfl, h'⟩
theorem lit_rep {G : Gh} {w : World} {v : Value} (h : scalar v = true) : Rep G w (.lit v) v := rep_ofD (.lit h)
theorem avOf1_rep {L : Nat → Nat} {w : World} {v : Value} {x : AV} (h : avOf1 v = some x) : RepD L w x v ∧ x.one = true := by
  unfold avOf1 at h
  split at h
  · simp at h; subst h
    refine ⟨.slice (vs := []) rfl (Nat.le_refl _) (Nat.zero_le _) (by simp) (by simp [flat]) .nil (by simp) ⟨rfl, rfl⟩, rfl⟩
  · cases hs : scalar v with
    | true => rw [hs] at h; simp at h; subst h; exact ⟨.lit hs, rfl⟩
    | false => rw [hs] at h; simp at h
theorem avsOf_rep {L : Nat → Nat} {w : World} : ∀ {vs : List Value} {xs : List AV}, avsOf vs = some xs → RepDL L w xs vs ∧ ∀ y, y ∈ xs → y.one = true
  | [], xs, h => by simp [avsOf] at h; subst h; exact ⟨.nil, by simp⟩
  | v :: vs, xs, h => by
    simp only [avsOf] at h
    split at h
    · rename_i x xs' hx hxs
      simp at h; subst h
      obtain ⟨h1, h2⟩ := avOf1_rep hx
      obtain ⟨h3, h4⟩ := avsOf_rep hxs
      exact ⟨.cons h1 h3, by intro y hy; cases hy with | head => exact h2 | tail _ hy => exact h4 y hy⟩
    · simp at h
theorem avOf_rep {L : Nat → Nat} {w : World} {v : Value} {x : AV} (h : avOf v = some x) : RepD L w x v := by
  unfold avOf at h
  split at h
  · split at h
    · rename_i cs xs hxs
      simp at h; subst h
      obtain ⟨h1, h2⟩ := avsOf_rep (L := L) (w := w) hxs
      simpa using RepD.agg h2 h1
    · simp at h
  · exact (avOf1_rep h).1
theorem opd_rep {G : Gh} {w : World} {env : List (Nat × AV)} {a : Act} {y : Operand} {X : AV} (he : ∀ t X, y = .tmp t → look t env = some X → Rep G w X (a.tmps.getD t undef)) (h : opd env y = some X) : Rep G w X (a.eval y) := by
  cases y with
  | tmp t => exact he t X rfl h
  | const v => exact rep_ofD (avOf_rep h)
  | global g => simp [opd] at h; subst h; exact rep_ofD .ptr
  | func f =>
    simp [opd] at h; subst h
    exact rep_ofD (.func (fs := []) (cs := []) .nil .nil)
end Go.Ax
