/- The arguments of BindRaw, opened into plain data. -/
import Derived.Test.YtafbefpimhaopaaLaw
import Derived.Test.YtafbefpimhaopaaAyF
set_option linter.unusedVariables false
set_option linter.unusedSimpArgs false
set_option linter.unnecessarySimpa false
set_option linter.unusedSectionVars false
namespace Go.Proofs.Ytafbefpimhaopaa
open Go.Ax Go.Rw
section
variable {H : Type} {enc : TypeId × Value → H} {W : World} {base : Nat} {spare : Nat → Bool} {held : Bool}

theorem c2 : Try.prog.cellsOf 2 = 1 := by kernel_rfl
theorem c3 : Try.prog.cellsOf 3 = 1 := by kernel_rfl
theorem c4 : Try.prog.cellsOf 4 = 1 := by kernel_rfl
theorem c5 : Try.prog.cellsOf 5 = 1 := by kernel_rfl
theorem c9 : Try.prog.cellsOf 9 = 1 := by kernel_rfl
theorem c22 : Try.prog.cellsOf 22 = 1 := by kernel_rfl
theorem c23 : Try.prog.cellsOf 23 = 1 := by kernel_rfl
theorem c25 : Try.prog.cellsOf 25 = 2 := by kernel_rfl
theorem c26 : Try.prog.cellsOf 26 = 1 := by kernel_rfl
theorem c28 : Try.prog.cellsOf 28 = 3 := by kernel_rfl
theorem c29 : Try.prog.cellsOf 29 = 1 := by kernel_rfl
theorem c31 : Try.prog.cellsOf 31 = 11 := by kernel_rfl
theorem c36 : Try.prog.cellsOf 36 = 1 := by kernel_rfl
theorem c38 : Try.prog.cellsOf 38 = 1 := by kernel_rfl
theorem c40 : Try.prog.cellsOf 40 = 5 := by kernel_rfl
theorem c42 : Try.prog.cellsOf 42 = 4 := by kernel_rfl
theorem c48 : Try.prog.cellsOf 48 = 7 := by kernel_rfl

theorem opn_ints {n : Nat} {cs : List Value} {x : DataW H × List MemPlace} (h : DataW.trod enc Try.prog W base spare held n 26 cs = some x) :
    ∃ l : List Int, RepDL (blockLen W) W [ints l] cs ∧ l.length ≤ maxLen := by
  obtain ⟨l, h1, h2, _⟩ := opn_slice (f := eI .i64) (Good := fun _ => True) Try.underlying26 c3 (by omega) (fun _ => rfl) (fun a y hy => by simp [eI, AV.cells] at hy; subst hy; rfl)
    (fun m cs y _ hy => by
      obtain ⟨i, rfl, _⟩ := DataW.trod_int Try.underlying3 hy
      exact ⟨i, .cons (.lit rfl) .nil, trivial⟩) h
  exact ⟨l, h1, h2⟩
set_option maxRecDepth 100000 in
theorem opn_col {n : Nat} {cs : List Value} {x : DataW H × List MemPlace} (h : DataW.trod enc Try.prog W base spare held n 42 cs = some x) :
    ∃ c : Column, RepDL (blockLen W) W (encCol c).cells cs := by
  obtain ⟨m, rfl, hl, hf⟩ := trod_fields Try.underlying42 h
  rw [c42] at hl
  match cs, hl with
  | [v0, v1, v2, v3], _ =>
    obtain ⟨y0, h0⟩ := hf 0 _ 9 1 [v0] rfl rfl c9 rfl
    obtain ⟨y1, h1⟩ := hf 1 _ 5 1 [v1] rfl rfl c5 rfl
    obtain ⟨y2, h2⟩ := hf 2 _ 3 1 [v2] rfl rfl c3 rfl
    obtain ⟨y3, h3⟩ := hf 3 _ 3 1 [v3] rfl rfl c3 rfl
    obtain ⟨a0, e0, _⟩ := DataW.trod_string Try.underlying9 h0
    obtain ⟨a1, e1, _⟩ := DataW.trod_int Try.underlying5 h1
    obtain ⟨a2, e2, _⟩ := DataW.trod_int Try.underlying3 h2
    obtain ⟨a3, e3, _⟩ := DataW.trod_int Try.underlying3 h3
    cases e0; cases e1; cases e2; cases e3
    exact ⟨⟨a0, a1, a2, a3⟩, .cons (.lit rfl) (.cons (.lit rfl) (.cons (.lit rfl) (.cons (.lit rfl) .nil)))⟩
set_option maxRecDepth 100000 in
theorem opn_table {n : Nat} {cs : List Value} {x : DataW H × List MemPlace} (h : DataW.trod enc Try.prog W base spare held n 40 cs = some x) :
    ∃ t : Table, RepDL (blockLen W) W (encTable t).cells cs ∧ t.columns.length ≤ maxLen := by
  obtain ⟨m, rfl, hl, hf⟩ := trod_fields Try.underlying40 h
  rw [c40] at hl
  match cs, hl with
  | [v0, v1, v2, v3, v4], _ =>
    obtain ⟨y0, h0⟩ := hf 0 _ 9 1 [v0] rfl rfl c9 rfl
    obtain ⟨y1, h1⟩ := hf 1 _ 38 1 [v1] rfl rfl c38 rfl
    obtain ⟨y2, h2⟩ := hf 2 _ 36 1 [v2] rfl rfl c36 rfl
    obtain ⟨y3, h3⟩ := hf 3 _ 3 1 [v3] rfl rfl c3 rfl
    obtain ⟨y4, h4⟩ := hf 4 _ 3 1 [v4] rfl rfl c3 rfl
    obtain ⟨a0, e0, _⟩ := DataW.trod_string Try.underlying9 h0
    obtain ⟨l, r1, hm, _⟩ := opn_slice (f := encCol) (Good := fun _ => True) Try.underlying38 c42 (by omega) (fun _ => rfl) (fun a y hy => by simp [encCol, AV.cells] at hy; rcases hy with rfl | rfl | rfl | rfl <;> rfl)
      (fun m cs y _ hy => by obtain ⟨c, hc⟩ := opn_col hy; exact ⟨c, hc, trivial⟩) h1
    obtain ⟨a2, e2, _⟩ := DataW.trod_int Try.underlying36 h2
    obtain ⟨a3, e3, _⟩ := DataW.trod_int Try.underlying3 h3
    obtain ⟨a4, e4, _⟩ := DataW.trod_int Try.underlying3 h4
    cases e0; cases e2; cases e3; cases e4
    exact ⟨⟨a0, l, a2, a3, a4⟩, .cons (.lit rfl) (r1.append (us := [v1]) (.cons (.lit rfl) (.cons (.lit rfl) (.cons (.lit rfl) .nil)))), hm⟩
set_option maxRecDepth 100000 in
theorem opn_index {n : Nat} {cs : List Value} {x : DataW H × List MemPlace} (h : DataW.trod enc Try.prog W base spare held n 48 cs = some x) :
    ∃ t : Index, RepDL (blockLen W) W (encIndex t).cells cs := by
  obtain ⟨m, rfl, hl, hf⟩ := trod_fields Try.underlying48 h
  rw [c48] at hl
  match cs, hl with
  | [v0, v1, v2, v3, v4, v5, v6], _ =>
    obtain ⟨y0, h0⟩ := hf 0 _ 9 1 [v0] rfl rfl c9 rfl
    obtain ⟨y1, h1⟩ := hf 1 _ 3 1 [v1] rfl rfl c3 rfl
    obtain ⟨y2, h2⟩ := hf 2 _ 26 1 [v2] rfl rfl c26 rfl
    obtain ⟨y3, h3⟩ := hf 3 _ 36 1 [v3] rfl rfl c36 rfl
    obtain ⟨y4, h4⟩ := hf 4 _ 3 1 [v4] rfl rfl c3 rfl
    obtain ⟨y5, h5⟩ := hf 5 _ 3 1 [v5] rfl rfl c3 rfl
    obtain ⟨y6, h6⟩ := hf 6 _ 26 1 [v6] rfl rfl c26 rfl
    obtain ⟨a0, e0, _⟩ := DataW.trod_string Try.underlying9 h0
    obtain ⟨a1, e1, _⟩ := DataW.trod_int Try.underlying3 h1
    obtain ⟨l2, r2, _⟩ := opn_ints h2
    obtain ⟨a3, e3, _⟩ := DataW.trod_int Try.underlying36 h3
    obtain ⟨a4, e4, _⟩ := DataW.trod_int Try.underlying3 h4
    obtain ⟨a5, e5, _⟩ := DataW.trod_int Try.underlying3 h5
    obtain ⟨l6, r6, _⟩ := opn_ints h6
    cases e0; cases e1; cases e3; cases e4; cases e5
    exact ⟨⟨a0, a1, l2, a3, a4, a5, l6⟩, .cons (.lit rfl) (.cons (.lit rfl) (r2.append (us := [v2]) (.cons (.lit rfl) (.cons (.lit rfl) (.cons (.lit rfl) r6)))))⟩
set_option maxRecDepth 100000 in
theorem opn_book {n : Nat} {cs : List Value} {x : DataW H × List MemPlace} (h : DataW.trod enc Try.prog W base spare held n 25 cs = some x) :
    ∃ b : Book, RepDL (blockLen W) W (encBook b).cells cs ∧ b.tables.length ≤ maxLen ∧ b.indexes.length ≤ maxLen ∧ ∀ t, t ∈ b.tables → t.columns.length ≤ maxLen := by
  obtain ⟨m, rfl, hl, hf⟩ := trod_fields Try.underlying25 h
  rw [c25] at hl
  match cs, hl with
  | [v0, v1], _ =>
    obtain ⟨y0, h0⟩ := hf 0 _ 22 1 [v0] rfl rfl c22 rfl
    obtain ⟨y1, h1⟩ := hf 1 _ 23 1 [v1] rfl rfl c23 rfl
    obtain ⟨l0, r0, m0, g0⟩ := opn_slice (f := encTable) (Good := fun t => t.columns.length ≤ maxLen) Try.underlying22 c40 (by omega) (fun _ => rfl) (fun a y hy => by simp [encTable, AV.cells] at hy; rcases hy with rfl | rfl | rfl | rfl | rfl <;> rfl)
      (fun m cs y _ hy => opn_table hy) h0
    obtain ⟨l1, r1, m1, _⟩ := opn_slice (f := encIndex) (Good := fun _ => True) Try.underlying23 c48 (by omega) (fun _ => rfl) (fun a y hy => by simp [encIndex, AV.cells] at hy; rcases hy with rfl | rfl | rfl | rfl | rfl | rfl | rfl <;> rfl)
      (fun m cs y _ hy => by obtain ⟨c, hc⟩ := opn_index hy; exact ⟨c, hc, trivial⟩) h1
    exact ⟨⟨l0, l1⟩, r0.append (us := [v0]) r1, m0, m1, g0⟩
set_option maxRecDepth 100000 in
theorem opn_term : ∀ (n : Nat) {cs : List Value} {x : DataW H × List MemPlace}, DataW.trod enc Try.prog W base spare held n 31 cs = some x → ∃ t : Term, RepDL (blockLen W) W (encTerm t).cells cs := by
  intro n
  induction n using Nat.strongRecOn with
  | _ n ih =>
    intro cs x h
    obtain ⟨m, rfl, hl, hf⟩ := trod_fields Try.underlying31 h
    rw [c31] at hl
    match cs, hl with
    | [v0, v1, v2, v3, v4, v5, v6, v7, v8, v9, v10], _ =>
      obtain ⟨y0, h0⟩ := hf 0 _ 5 1 [v0] rfl rfl c5 rfl
      obtain ⟨y1, h1⟩ := hf 1 _ 9 1 [v1] rfl rfl c9 rfl
      obtain ⟨y2, h2⟩ := hf 2 _ 4 1 [v2] rfl rfl c4 rfl
      obtain ⟨y3, h3⟩ := hf 3 _ 28 3 [v3, v4, v5] rfl rfl c28 rfl
      obtain ⟨y6, h6⟩ := hf 4 _ 9 1 [v6] rfl rfl c9 rfl
      obtain ⟨y7, h7⟩ := hf 5 _ 9 1 [v7] rfl rfl c9 rfl
      obtain ⟨y8, h8⟩ := hf 6 _ 3 1 [v8] rfl rfl c3 rfl
      obtain ⟨y9, h9⟩ := hf 7 _ 3 1 [v9] rfl rfl c3 rfl
      obtain ⟨y10, h10⟩ := hf 8 _ 29 1 [v10] rfl rfl c29 rfl
      obtain ⟨a0, e0, _⟩ := DataW.trod_int Try.underlying5 h0
      obtain ⟨a1, e1, _⟩ := DataW.trod_string Try.underlying9 h1
      obtain ⟨a2, e2, _⟩ := DataW.trod_bool Try.underlying4 h2
      obtain ⟨m', rfl, _, hg⟩ := trod_fields Try.underlying28 h3
      obtain ⟨z3, h3⟩ := hg 0 _ 5 1 [v3] rfl rfl c5 rfl
      obtain ⟨z4, h4⟩ := hg 1 _ 2 1 [v4] rfl rfl c2 rfl
      obtain ⟨z5, h5⟩ := hg 2 _ 9 1 [v5] rfl rfl c9 rfl
      obtain ⟨a3, e3, _⟩ := DataW.trod_int Try.underlying5 h3
      obtain ⟨a4, e4, _⟩ := DataW.trod_int Try.underlying2 h4
      obtain ⟨a5, e5, _⟩ := DataW.trod_string Try.underlying9 h5
      obtain ⟨a6, e6, _⟩ := DataW.trod_string Try.underlying9 h6
      obtain ⟨a7, e7, _⟩ := DataW.trod_string Try.underlying9 h7
      obtain ⟨a8, e8, _⟩ := DataW.trod_int Try.underlying3 h8
      obtain ⟨a9, e9, _⟩ := DataW.trod_int Try.underlying3 h9
      obtain ⟨l, r, _⟩ := opn_slice (f := encTerm) (Good := fun _ => True) Try.underlying29 c31 (by omega) (fun _ => rfl)
        (fun a y hy => by simp [encTerm, AV.cells] at hy; rcases hy with rfl | rfl | rfl | rfl | rfl | rfl | rfl | rfl | rfl | rfl | rfl <;> rfl)
        (fun k cs y hk hy => by obtain ⟨c, hc⟩ := ih k (by omega) hy; exact ⟨c, hc, trivial⟩) h10
      rw [← encTs_map] at r
      cases e0; cases e1; cases e2; cases e3; cases e4; cases e5; cases e6; cases e7; cases e8; cases e9
      exact ⟨.mk a0 a1 a2 ⟨a3, a4, a5⟩ a6 a7 a8 a9 l, .cons (.lit rfl) (.cons (.lit rfl) (.cons (.lit rfl) (.cons (.lit rfl) (.cons (.lit rfl) (.cons (.lit rfl) (.cons (.lit rfl) (.cons (.lit rfl) (.cons (.lit rfl) (.cons (.lit rfl) r)))))))))⟩
end
end Go.Proofs.Ytafbefpimhaopaa
