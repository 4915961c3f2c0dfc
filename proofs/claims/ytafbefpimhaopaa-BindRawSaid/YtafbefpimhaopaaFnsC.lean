/- The functions that BindRaw calls, each once: kinds. -/
import Derived.Test.YtafbefpimhaopaaFnsB
set_option linter.unusedVariables false
set_option linter.unusedSimpArgs false
set_option linter.unnecessarySimpa false
set_option linter.unusedSectionVars false
namespace Go.Proofs.Ytafbefpimhaopaa
open Go.Ax Go.Rw

theorem gotZ {α : Type} {f : α → AV} {l : List α} {i : Int} {k : AV → Prop} (h0 : 0 ≤ i) (h : i.toNat < l.length) (hk : k (f l[i.toNat])) : Got (l.map f) i k :=
  ⟨f l[i.toNat], ⟨h0, by simp [h]⟩, hk⟩
def KindIs (b : Book) (tables : List Int) (t : Term) (r : AV) : Prop := ∃ k : Int, r = .lit (.int .u8 k) ∧ (t.kind = 2 → k = want b tables t)
def SomeKind (r : AV) : Prop := ∃ k : Int, r = .lit (.int .u8 k)
theorem total_kind (b : Book) (tables : List Int) (t : Term) (h : ∀ u, u ∈ t.args → Pure Try.prog 7 [encBook b, ints tables, encTerm u] SomeKind) : Pure Try.prog 17 [encBook b, ints tables, encTerm t] SomeKind := by
  refine pure_of rfl ?_
  refine icalls_of ttOk Try.func17 rfl rfl rfl ?_
  have leaf : ∀ k : Int, ∃ r' : AV, Wk (.lit (.int .u8 k)) r' ∧ SomeKind r' := fun k => ⟨_, ⟨rfl, rfl⟩, k, rfl⟩
  refine Br.intro (fun h1 => Br.intro (fun h2 => leaf _) (fun h2 => ?_)) (fun h1 => leaf _)
  refine Br.intro (fun h3 => ?_) (fun h3 => leaf _)
  have h3 : t.args.length = 1 := by simp [encTs_length] at h3; omega
  refine arunDraw_plan ttOk mixed p17_4 (by kernel_rfl) ?_
  refine gotT (i := 0) (by omega) ?_
  refine (h _ (List.getElem_mem (by omega)) _).mono ?_
  rintro r hp' ⟨rfl, k, rfl⟩
  exact ⟨fun _ _ => rfl, leaf k⟩
theorem kind_kind (b : Book) (tables : List Int) : ∀ t : Term, Pure Try.prog 7 [encBook b, ints tables, encTerm t] (KindIs b tables t) := by
  intro t
  induction t using Term.ind with
  | h t ih =>
    have ht := total_kind b tables t fun u hu => (ih u hu).mono fun r ⟨k, hk, _⟩ => ⟨k, hk⟩
    refine pure_of rfl ?_
    refine icalls_of ttOk Try.func7 rfl rfl rfl ?_
    have leaf : t.kind ≠ 2 → ∀ k : Int, ∃ r' : AV, Wk (.lit (.int .u8 k)) r' ∧ KindIs b tables t r' := fun hne k => ⟨_, ⟨rfl, rfl⟩, k, rfl, fun h => absurd h hne⟩
    refine Br.intro (fun h1 => leaf (by simp at h1; omega) _) (fun h1 => ?_)
    refine Br.intro (fun h2 => ?_) (fun h2 => ?_)
    · have zero : want b tables t = 0 → ∃ r' : AV, Wk (.lit (.int .u8 0)) r' ∧ KindIs b tables t r' := fun hw => ⟨_, ⟨rfl, rfl⟩, 0, rfl, fun _ => hw.symm⟩
      refine arunDraw_plan ttOk mixed p7_5 (by kernel_rfl) ?_
      refine Br.intro (fun a1 => ?_) (fun a1 => ?_)
      · have a1 : 0 ≤ t.table := by simp at a1; omega
        refine Br.intro (fun a2 => ?_) (fun a2 => ?_)
        · have a2 : t.table.toNat < tables.length := by simp at a2; omega
          have e2 : tables.getD t.table.toNat 0 = tables[t.table.toNat] := by simp [List.getD_eq_getElem?_getD, a2]
          have c2 : 0 ≤ t.table ∧ t.table < tables.length := ⟨a1, by omega⟩
          refine gotZ a1 a2 ?_
          refine Br.intro (fun a3 => ?_) (fun a3 => ?_)
          · have a3 : 0 ≤ tables[t.table.toNat] := by simp at a3; omega
            refine gotZ a1 a2 ?_
            refine Br.intro (fun a4 => ?_) (fun a4 => ?_)
            · refine zero ?_
              have a4 : ¬ tables[t.table.toNat] < b.tables.length := by simp at a4; omega
              unfold want; rw [if_pos c2, e2]
              simp only []
              rw [if_neg (fun hh => a4 hh.2)]
            · have a4 : tables[t.table.toNat].toNat < b.tables.length := by simp at a4; omega
              have e4 : (b.tables.map (·.columns)).getD tables[t.table.toNat].toNat [] = b.tables[tables[t.table.toNat].toNat].columns := by simp [List.getD_eq_getElem?_getD, a4]
              have c4 : 0 ≤ tables[t.table.toNat] ∧ tables[t.table.toNat] < b.tables.length := ⟨a3, by omega⟩
              have hw : want b tables t = (if 0 ≤ t.column ∧ t.column < b.tables[tables[t.table.toNat].toNat].columns.length then (b.tables[tables[t.table.toNat].toNat].columns.map (·.kind)).getD t.column.toNat 0 else 0) := by
                unfold want; rw [if_pos c2, e2]
                simp only []
                rw [if_pos c4, e4]
              refine arunDraw_plan ttOk mixed p7_7 (by kernel_rfl) ?_
              refine gotZ a1 a2 ?_
              refine gotZ a3 a4 ?_
              refine Br.intro (fun a5 => ?_) (fun a5 => ?_)
              · have a5 : 0 ≤ t.column := by simp at a5; omega
                refine Br.intro (fun a6 => ?_) (fun a6 => ?_)
                · refine zero ?_
                  have a6 : ¬ t.column < b.tables[tables[t.table.toNat].toNat].columns.length := by simp at a6; omega
                  rw [hw, if_neg (fun hh => a6 hh.2)]
                · have a6 : t.column.toNat < b.tables[tables[t.table.toNat].toNat].columns.length := by simp at a6; omega
                  refine gotZ a5 a6 ?_
                  refine ⟨_, ⟨rfl, rfl⟩, _, rfl, fun _ => ?_⟩
                  rw [hw, if_pos ⟨a5, by omega⟩]
                  simp [List.getD_eq_getElem?_getD, a6]
              · refine zero ?_
                have a5 : ¬ 0 ≤ t.column := by simp at a5; omega
                rw [hw, if_neg (fun hh => a5 hh.1)]
          · refine zero ?_
            have a3 : ¬ 0 ≤ tables[t.table.toNat] := by simp at a3; omega
            unfold want; rw [if_pos c2, e2]
            simp only []
            rw [if_neg (fun hh => a3 hh.1)]
        · refine zero ?_
          have a2 : ¬ t.table < tables.length := by simp at a2; omega
          unfold want; rw [if_neg (fun hh => a2 hh.2)]
      · refine zero ?_
        have : ¬ 0 ≤ t.table := by simp at a1; omega
        unfold want; rw [if_neg (fun hh => this hh.1)]
    · have hne : t.kind ≠ 2 := by simpa using h2
      have leaf := leaf hne
      have ops : ∃ r' : AV, Wk (.lit (.int .u8 0)) r' ∧ KindIs b tables t r' := leaf 0
      refine Br.intro (fun h3 => ?_) (fun h3 => Br.intro (fun h4 => ?_) (fun h4 => ?_))
      · exact Br.intro (fun _ => leaf _) (fun _ => Br.intro (fun _ => leaf _) (fun _ => Br.intro (fun _ => leaf _) (fun _ => leaf _)))
      · exact Br.intro (fun _ => leaf _) (fun _ => Br.intro (fun _ => leaf _) (fun _ => Br.intro (fun _ => leaf _) (fun _ => leaf _)))
      · refine Br.intro (fun h5 => leaf _) (fun h5 => Br.intro (fun h6 => leaf _) (fun h6 => Br.intro (fun h7 => ?_) (fun h7 => leaf _)))
        refine (ht _).mono ?_
        rintro r hp' ⟨rfl, k, rfl⟩
        exact leaf k
end Go.Proofs.Ytafbefpimhaopaa
