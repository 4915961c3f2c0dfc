/- The functions that BindRaw calls, each once: terms that are the same, conjuncts. -/
import Derived.Test.YtafbefpimhaopaaFns
import Derived.Test.YtafbefpimhaopaaAyD
set_option linter.unusedVariables false
set_option linter.unusedSimpArgs false
set_option linter.unnecessarySimpa false
set_option linter.unusedSectionVars false
namespace Go.Proofs.Ytafbefpimhaopaa
open Go.Ax Go.Rw

def S18 (t : Term) (k : Nat) : St := St.of [(2, .ptr (.l 0) 0), (3, .ptr (.l 1) 0), (71, .lit (.int .i64 (encTs t.args).length)), (72, .lit (.int .i64 k))] 88 [(0, (encTerm t).cells), (1, (encTerm t).cells)] 2 0
theorem same_term : ∀ t : Term, (∀ u, u ∈ t.args → Pure Try.prog 18 [encTerm u, encTerm u] (fun r => r = .lit (.bool true))) → t.args.length ≤ 1000 → Pure Try.prog 18 [encTerm t, encTerm t] (fun r => r = .lit (.bool true)) := by
  intro t ih hargs
  refine pure_of rfl ?_
  refine icalls_of ttOk Try.func18 rfl rfl rfl ?_
  refine Br.intro (fun h => ?_) (fun h => by simp [neg?, beq_toListBytes] at h)
  refine Br.intro (fun h => ?_) (fun h => by simp [neg?, beq_toListBytes] at h)
  refine Br.intro (fun h => ?_) (fun h => by simp [neg?, beq_toListBytes] at h)
  refine Br.intro (fun h => ?_) (fun h => by simp [neg?, beq_toListBytes] at h)
  refine Br.intro (fun h => ?_) (fun h => by simp [neg?, beq_toListBytes] at h)
  refine Br.intro (fun h => ?_) (fun h => by simp [neg?, beq_toListBytes] at h)
  refine Br.intro (fun h => ?_) (fun h => by simp [neg?, beq_toListBytes] at h)
  refine Br.intro (fun h => ?_) (fun h => by simp [neg?, beq_toListBytes] at h)
  refine Br.intro (fun h => by simp [neg?, beq_toListBytes] at h) (fun h => ?_)
  refine aloop_cov (σ' := S18 t 0) (cov_of [] rfl rfl rfl rfl (by repeat first | exact envCov.nil | refine envCov.cons rfl rfl ?_) (by repeat first | exact boxCov.nil | refine boxCov.cons rfl rfl rfl ?_))
    (aloop_inv (S18 t) (fun k => k ≤ t.args.length) (fun k => t.args.length - k) ?_ 0 (Nat.zero_le _))
  intro k hk IH
  refine aloop_round ttOk ?_
  refine Br.intro (fun hlt => ?_) (fun hlt => ?_)
  · have hlt : k < t.args.length := by simpa [encTs_length] using hlt
    refine arunDraw_plan ttOk mixed p18_6 (by kernel_rfl) ?_
    refine gotT hlt ?_
    refine gotT hlt ?_
    refine (ih _ (List.getElem_mem hlt) _).mono ?_
    rintro r hp' ⟨rfl, rfl⟩
    refine ⟨fun _ _ => rfl, ?_⟩
    refine aloop_cov (σ' := S18 t (k + 1)) (cov_of [] rfl rfl rfl rfl
      (envCov.cons rfl rfl (envCov.cons rfl rfl (envCov.cons rfl rfl (envCov.cons rfl (show some (AV.lit (.int .i64 (IntKind.i64.wrap ((k : Int) + 1)))) = some _ by rw [kwrap (by omega)]) envCov.nil))))
      (by repeat first | exact boxCov.nil | refine boxCov.cons rfl rfl rfl ?_)) (IH (k + 1) hlt (Nat.sub_lt_sub_left hlt (Nat.lt_succ_self _)))
  · exact ⟨_, ⟨rfl, rfl⟩, rfl⟩
theorem same_terms' : ∀ (n : Nat) (d : Int) (t : Term), greatB n d t = false → Pure Try.prog 18 [encTerm t, encTerm t] (fun r => r = .lit (.bool true))
  | 0, d, t, h => by simp [greatB] at h
  | n + 1, d, t, h => by
    simp only [greatB, Bool.or_eq_false_iff, decide_eq_false_iff_not, List.any_eq_false] at h
    exact same_term t (fun u hu => same_terms' n (d + 6) u (by simpa using h.2 u hu)) (by omega)
def S10 (l : List Term) (k : Nat) : St := St.of [(0, encTerms l), (1, encTerms l), (12, .lit (.int .i64 (encTs l).length)), (13, .lit (.int .i64 k))] 27 [] 0 0
theorem same_list (l : List Term) (hl : l.length ≤ 100000000) (hs : ∀ u, u ∈ l → Pure Try.prog 18 [encTerm u, encTerm u] (fun r => r = .lit (.bool true))) : Pure Try.prog 10 [encTerms l, encTerms l] (fun r => r = .lit (.bool true)) := by
  refine pure_of rfl ?_
  refine icalls_of ttOk Try.func10 rfl rfl rfl ?_
  refine Br.intro (fun h => by simp at h) (fun h => ?_)
  refine aloop_cov (σ' := S10 l 0) (cov_of [] rfl rfl rfl rfl (by repeat first | exact envCov.nil | refine envCov.cons rfl rfl ?_) boxCov.nil)
    (aloop_inv (S10 l) (fun k => k ≤ l.length) (fun k => l.length - k) ?_ 0 (Nat.zero_le _))
  intro k hk IH
  refine aloop_round ttOk ?_
  refine Br.intro (fun hlt => ?_) (fun hlt => ?_)
  · have hlt : k < l.length := by simpa [encTs_length] using hlt
    refine arunDraw_plan ttOk mixed p10_6 (by kernel_rfl) ?_
    refine gotT hlt ?_
    refine gotT hlt ?_
    refine (hs _ (List.getElem_mem hlt) _).mono ?_
    rintro r hp' ⟨rfl, rfl⟩
    refine aloop_cov (σ' := S10 l (k + 1)) (cov_of [] rfl rfl rfl rfl
      (envCov.cons rfl rfl (envCov.cons rfl rfl (envCov.cons rfl rfl (envCov.cons rfl (show some (AV.lit (.int .i64 (IntKind.i64.wrap ((k : Int) + 1)))) = some _ by rw [kwrap (by omega)]) envCov.nil))))
      boxCov.nil) (IH (k + 1) hlt (Nat.sub_lt_sub_left hlt (Nat.lt_succ_self _)))
  · exact ⟨_, ⟨rfl, rfl⟩, rfl⟩

theorem conj_succ (m : Nat) (t : Term) : conj (m + 1) t = match t.args with
    | [a, b] => if t.kind = 4 ∧ isAnd t = true then conj m a ++ conj m b else [t]
    | _ => [t] := rfl
theorem conj_one {m : Nat} {t : Term} (h : ¬ (t.kind = 4 ∧ isAnd t = true ∧ t.args.length = 2)) : conj (m + 1) t = [t] := by
  rw [conj_succ]
  split
  · rename_i a b hab
    rw [if_neg (fun hh => h ⟨hh.1, hh.2, by rw [hab]; rfl⟩)]
  · rfl
theorem conj_two {m : Nat} {t : Term} (h4 : t.kind = 4) (ha : isAnd t = true) (h : t.args.length = 2) : conj (m + 1) t = conj m t.args[0] ++ conj m t.args[1] := by
  rw [conj_succ]
  split
  · rename_i a b hab
    rw [if_pos ⟨h4, ha⟩]
    simp [hab]
  · rename_i hno
    exfalso
    revert h hno
    generalize t.args = l
    intro h hno
    match l, h with
    | [a, b], _ => exact hno a b rfl
theorem one_enc (t : Term) : [encTerm t] = encTs [t] := by simp [encTs_map]
theorem bind_conj : ∀ (m n : Nat) (d : Int) (t : Term), greatB n d t = false → n ≤ m → n ≤ 7 → PureR Try.prog 12 [encTerm t] 11 (fun items => items = encTs (conj m t))
  | m, 0, d, t, h, _, _ => by simp [greatB] at h
  | 0, n + 1, d, t, h, hm, _ => by omega
  | m + 1, n + 1, d, t, h, hm, hn => by
    have hg := conj_great (m + 1) (n + 1) d t h
    have h7 : 2 ^ (n + 1) ≤ 2 ^ 7 := Nat.pow_le_pow_right (by omega) (by omega)
    simp only [greatB, Bool.or_eq_false_iff, decide_eq_false_iff_not, List.any_eq_false] at h
    have ih : ∀ u, u ∈ t.args → PureR Try.prog 12 [encTerm u] 11 (fun items => items = encTs (conj m u)) := fun u hu => bind_conj m n (d + 6) u (by simpa using h.2 u hu) (by omega) (by omega)
    refine pureR_of rfl ?_
    refine icalls_of ttOk Try.func12 rfl rfl rfl ?_
    refine Br.intro (fun h4 => Br.intro (fun h5 => Br.intro (fun h6 => ?_) (fun h6 => ?_)) (fun h5 => ?_)) (fun h4 => ?_)
    · refine ⟨_, _, rfl, List.mem_cons_self, ?_⟩
      have h6 : ¬ t.args.length = 2 := by simp [encTs_length] at h6; omega
      rw [conj_one (fun hh => h6 hh.2.2)]; exact one_enc t
    · have h4 : t.kind = 4 := by simpa using h4
      have h5 : isAnd t = true := by simpa [isAnd] using h5
      have h6 : t.args.length = 2 := by simp [encTs_length] at h6; omega
      rw [conj_two h4 h5 h6] at hg ⊢
      rw [List.length_append] at hg
      refine arunDraw_plan ttOk mixed p12_3 (by kernel_rfl) ?_
      refine gotT (i := 0) (by omega) ?_
      refine gotT (i := 1) (by omega) ?_
      refine (ih _ (List.getElem_mem (by omega)) _).mono ?_
      rintro r hp' ⟨items, rfl, rfl, rfl⟩
      refine ⟨fun _ _ => rfl, ?_⟩
      refine (ih _ (List.getElem_mem (by omega)) _).mono ?_
      rintro r hp' ⟨items, rfl, rfl, rfl⟩
      refine ⟨fun _ _ => rfl, ?_⟩
      refine Chk.intro (le_of (by simp only [encTs_length]; omega)) ?_
      refine Chk.intro (le_of (by simp only [encTs_length]; omega)) ?_
      exact ⟨_, _, rfl, List.mem_cons_self, by rw [encTs_append]⟩
    · refine ⟨_, _, rfl, List.mem_cons_self, ?_⟩
      have h5 : ¬ isAnd t = true := by simpa [isAnd] using h5
      rw [conj_one (fun hh => h5 hh.2.1)]; exact one_enc t
    · refine ⟨_, _, rfl, List.mem_cons_self, ?_⟩
      have h4 : ¬ t.kind = 4 := by simpa using h4
      rw [conj_one (fun hh => h4 hh.1)]; exact one_enc t
theorem ref_conj : ∀ (m n : Nat) (d : Int) (t : Term), greatB n d t = false → n ≤ m → n ≤ 7 → PureR Try.prog 13 [encTerm t] 11 (fun items => items = encTs (conj m t))
  | m, 0, d, t, h, _, _ => by simp [greatB] at h
  | 0, n + 1, d, t, h, hm, _ => by omega
  | m + 1, n + 1, d, t, h, hm, hn => by
    have hg := conj_great (m + 1) (n + 1) d t h
    have h7 : 2 ^ (n + 1) ≤ 2 ^ 7 := Nat.pow_le_pow_right (by omega) (by omega)
    simp only [greatB, Bool.or_eq_false_iff, decide_eq_false_iff_not, List.any_eq_false] at h
    have ih : ∀ u, u ∈ t.args → PureR Try.prog 13 [encTerm u] 11 (fun items => items = encTs (conj m u)) := fun u hu => ref_conj m n (d + 6) u (by simpa using h.2 u hu) (by omega) (by omega)
    refine pureR_of rfl ?_
    refine icalls_of ttOk Try.func13 rfl rfl rfl ?_
    refine Br.intro (fun h4 => Br.intro (fun h5 => Br.intro (fun h6 => ?_) (fun h6 => ?_)) (fun h5 => ?_)) (fun h4 => ?_)
    · have h4 : t.kind = 4 := by simpa using h4
      have h5 : isAnd t = true := by simpa [isAnd] using h5
      have h6 : t.args.length = 2 := by simp [encTs_length] at h6; omega
      rw [conj_two h4 h5 h6] at hg ⊢
      rw [List.length_append] at hg
      refine gotT (i := 0) (by omega) ?_
      refine (ih _ (List.getElem_mem (by omega)) _).mono ?_
      rintro r hp' ⟨items, rfl, rfl, rfl⟩
      refine gotT (i := 1) (by omega) ?_
      refine (ih _ (List.getElem_mem (by omega)) _).mono ?_
      rintro r hp' ⟨items, rfl, rfl, rfl⟩
      refine Chk.intro (le_of (by simp only [encTs_length]; omega)) ?_
      refine Chk.intro (le_of (by simp only [encTs_length]; omega)) ?_
      exact ⟨_, _, rfl, List.mem_cons_self, by rw [encTs_append]⟩
    · refine ⟨_, _, rfl, List.mem_cons_self, ?_⟩
      have h6 : ¬ t.args.length = 2 := by simp [encTs_length] at h6; omega
      rw [conj_one (fun hh => h6 hh.2.2)]; exact one_enc t
    · refine ⟨_, _, rfl, List.mem_cons_self, ?_⟩
      have h5 : ¬ isAnd t = true := by simpa [isAnd] using h5
      rw [conj_one (fun hh => h5 hh.2.1)]; exact one_enc t
    · refine ⟨_, _, rfl, List.mem_cons_self, ?_⟩
      have h4 : ¬ t.kind = 4 := by simpa using h4
      rw [conj_one (fun hh => h4 hh.1)]; exact one_enc t

/-- A field's kind, by the book. -/
def want (b : Book) (tables : List Int) (t : Term) : Int :=
  if 0 ≤ t.table ∧ t.table < tables.length then
    let n := tables.getD t.table.toNat 0
    if 0 ≤ n ∧ n < b.tables.length then
      let cs := (b.tables.map (·.columns)).getD n.toNat []
      if 0 ≤ t.column ∧ t.column < cs.length then (cs.map (·.kind)).getD t.column.toNat 0 else 0
    else 0
  else 0
end Go.Proofs.Ytafbefpimhaopaa
