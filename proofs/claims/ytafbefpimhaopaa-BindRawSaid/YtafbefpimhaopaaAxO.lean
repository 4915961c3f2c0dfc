/- Ax, part O: rows that are made and appended to; all operations: the machine does what part L says. No project text. -/
import Derived.Test.YtafbefpimhaopaaAxN
set_option linter.unusedVariables false
set_option linter.unusedSimpArgs false
set_option linter.unnecessarySimpa false
set_option linter.unusedSectionVars false
namespace Go.Ax
section
variable {P : Program} {tt : TT} {E : Entry} {G : Gh} {σ : St} {pend : List Nat} {a : Act} {w : World}

theorem dn1_rep {x : AV} {v : Value} (h : Rep1 G w x v) : Rep1 G w (dn1 x) v := by
  unfold dn1
  split
  · obtain ⟨A, n, c, rfl, _, hr⟩ := h; exact hr
  · exact h
theorem dn1_one (x : AV) : (dn1 x).one = x.one := by unfold dn1; split <;> rfl
theorem data2_one {x : AV} (h : x.one = true) : x.data2 = x.data1 := by cases x <;> first | rfl | simp [AV.one] at h
theorem dn_one_rep {X : AV} {v : Value} (h1 : X.one = true) (h : Rep1 G w X v) (hd : (dn X).data2 = true) : RepD G.L w (dn X) v := by
  have e : dn X = dn1 X := by cases X <;> first | rfl | simp [AV.one] at h1
  rw [e] at hd ⊢
  rw [data2_one ((dn1_one X).trans h1)] at hd
  exact rep1_toD (dn1_rep h) hd
theorem dn_rep {X : AV} {v : Value} (h : Rep G w X v) (hd : (dn X).data2 = true) : RepD G.L w (dn X) v ∧ (∀ cs, X ≠ .tup cs) := by
  have hnt : ∀ cs, X ≠ .tup cs := by intro cs e; subst e; simp [dn, dn1, AV.data2, AV.data1] at hd
  refine ⟨?_, hnt⟩
  cases X with
  | agg cs =>
    rw [rep_eq (by simp)] at h
    obtain ⟨h1, vs, rfl, ha⟩ := h
    refine rep2_toD (G := G) ⟨?_, vs, rfl, ?_⟩ hd
    · intro y hy; simp at hy; obtain ⟨z, hz, rfl⟩ := hy; rw [dn1_one]; exact h1 z hz
    · clear h1 hd hnt
      induction ha with
      | nil => exact .nil
      | cons hx _ ih => exact .cons (dn1_rep hx) ih
  | tup cs => exact absurd rfl (hnt cs)
  | _ =>
    rw [rep_eq (by simp), rep2_eq (by simp)] at h
    exact dn_one_rep rfl h hd
theorem dn_cells {X : AV} {v : Value} (h : RepD G.L w (dn X) v) (hd : (dn X).data2 = true) (hnt : ∀ cs, X ≠ .tup cs) : RepDL G.L w (dn X).cells v.cells.toList ∧ (∀ y, y ∈ (dn X).cells → y.one = true) := by
  have hnt' : ∀ cs, dn X ≠ .tup cs := by
    intro cs e
    cases X <;> simp [dn, dn1] at e <;> first | exact absurd rfl (hnt _) | (split at e <;> simp at e)
  obtain ⟨h1, h2⟩ := rep_cells (rep_ofD h) hnt'
  refine ⟨.of_all2 ?_, h2⟩
  have hd1 : (dn X).cells.all AV.data1 = true := by
    cases hx : dn X <;> simp_all [AV.cells, AV.data2]
  exact all_toD (fun _ _ => rep1_toD) h1 hd1

/-- Elements of a slice that is made. -/
theorem all_sound {size : Nat} {K : List AV → Prop} : ∀ {ps : List (Nat × AV)} {vs : List (Nat × Value)} {i : Nat},
    All2 (fun p q => p.1 = q.1 ∧ Rep G w p.2 q.2) ps vs → allA size i ps K →
    ∃ (items : List AV) (us : List Value), K items ∧ items.length = ps.length ∧ (∀ x, x ∈ items → x.cells.length = size) ∧ (∀ y, y ∈ flat items → y.one = true) ∧ RepDL G.L w (flat items) us ∧
      (∀ (C : List Value), C.length = (i + ps.length) * size → Instr.fill (fun i => some (i * size, size)) C.toArray vs = some ((C.take (i * size)) ++ us).toArray)
  | _, _, i, .nil, h => ⟨[], [], h, rfl, by simp, by simp [flat], .nil, fun C hC => by
      simp only [List.length_nil, Nat.add_zero] at hC
      simp [Instr.fill, ← hC]⟩
  | _, _, i, .cons (x := (j, X)) (y := (j', v)) hp ht, h => by
    rename_i ps' vs'
    obtain ⟨rfl, hX⟩ := hp
    obtain ⟨hij, h2⟩ := Chk.out h
    obtain ⟨hd, h3⟩ := h2.out
    obtain ⟨hlen, h4⟩ := h3.out
    clear h h2 h3
    obtain rfl : i = j := Nat.eq_of_beq_eq_true hij
    have hlen := Nat.eq_of_beq_eq_true hlen
    obtain ⟨hr, hnt⟩ := dn_rep hX hd
    obtain ⟨hrc, hone⟩ := dn_cells hr hd hnt
    obtain ⟨items, us, hK, hl, hsz, h1, hrl, hfill⟩ := all_sound ht h4
    have hcl := hrc.all2.length
    refine ⟨dn X :: items, v.cells.toList ++ us, hK, by simp [hl], ?_, ?_, ?_, ?_⟩
    · intro x hx; cases hx with
      | head => exact hlen
      | tail _ hx => exact hsz x hx
    · intro y hy; simp only [flat, List.flatMap_cons, List.mem_append] at hy
      rcases hy with hy | hy
      · exact hone y hy
      · exact h1 y hy
    · simp only [flat, List.flatMap_cons]
      exact .of_all2 (hrc.all2.append hrl.all2)
    · intro C hC
      simp only [List.length_cons] at hC
      have e1 : (i + (ps'.length + 1)) * size = i * size + size + ps'.length * size := by rw [Nat.add_mul, Nat.add_mul]; omega
      have hvs : v.cells.size = size := by rw [← Array.length_toList, ← hcl, hlen]
      have hvl : v.cells.toList.length = size := by simpa using hvs
      have hspl := foldl_splice v.cells.toList (i * size) C 0 (by rw [hvl, Nat.add_zero, hC, e1]; omega)
      simp only [Nat.add_zero] at hspl
      show Instr.fill (fun i => some (i * size, size)) C.toArray ((i, v) :: vs') = _
      simp only [Instr.fill]
      have hsl : (splice C (i * size) v.cells.toList).length = C.length := splice_length (by rw [hvl, hC, e1]; omega)
      rw [if_neg (by simp [hvs]; rw [hC, e1]; omega)]
      have hfold' : v.cells.zipIdx.foldl (fun cs (x : Value × Nat) => match x with | (c, j) => cs.setIfInBounds (i * size + j) c) C.toArray = (splice C (i * size) v.cells.toList).toArray := by
        rw [← Array.foldl_toList, Array.toList_zipIdx]; exact hspl
      have e2 : (i + 1) * size = i * size + size := by rw [Nat.add_mul]; omega
      have hCl : i * size ≤ C.length := by rw [hC, e1]; omega
      have hfin : (splice C (i * size) v.cells.toList).take (i * size + size) ++ us = C.take (i * size) ++ (v.cells.toList ++ us) := by
        have ht1 : (C.take (i * size) ++ v.cells.toList).length = i * size + size := by rw [List.length_append, hvl, List.length_take]; omega
        simp only [splice]
        rw [List.take_append_of_le_length (Nat.le_of_eq ht1.symm), List.take_of_length_le (Nat.le_of_eq ht1), List.append_assoc]
      have hlenS : (splice C (i * size) v.cells.toList).length = (i + 1 + ps'.length) * size := by rw [hsl, hC, e1, Nat.add_mul, Nat.add_mul, Nat.one_mul]
      have := hfill _ hlenS
      rw [e2, hfin] at this
      rw [hfold']
      exact this
end
end Go.Ax
