/- The functions that BindRaw calls, each once. -/
import Derived.Test.YtafbefpimhaopaaRwB
import Derived.Test.YtafbefpimhaopaaFixed
import Derived.Test.YtafbefpimhaopaaPl
import Derived.Test.YtafbefpimhaopaaAyE
set_option linter.unusedVariables false
set_option linter.unusedSimpArgs false
set_option linter.unnecessarySimpa false
set_option linter.unusedSectionVars false
namespace Go.Proofs.Ytafbefpimhaopaa
open Go.Ax Go.Rw

theorem le_of {a b : Nat} (h : a ≤ b) : Nat.ble a b = true := Nat.ble_eq_true_of_le h
def S8 (t : Term) (o : Bool) : Nat × Bool → St
  | (k, b) => St.of [(2, .ptr (.l 0) 0), (1, .lit (.bool o)), (5, if b then .slice 11 (.loc 0) (encTs (fieldsL o (t.args.take k))) else .slice 11 .zero []), (24, .lit (.int .i64 (encTs t.args).length)), (25, .lit (.int .i64 k))] 39 [(0, (encTerm t).cells)] 1 (if b then 1 else 0)
theorem f8 (o : Bool) : ∀ t : Term, (fields o t).length ≤ 2000000 → t.args.length ≤ 1000 → (∀ u, u ∈ t.args → Pure Try.prog 8 [encTerm u, .lit (.bool o)] (fun r => r = encTerms (fields o u))) →
    Pure Try.prog 8 [encTerm t, .lit (.bool o)] (fun r => r = encTerms (fields o t)) := by
  intro t hlen hargs ih
  refine pure_of rfl ?_
  refine icalls_of ttOk Try.func8 rfl rfl rfl ?_
  refine Br.intro (fun h => ?_) (fun h => ?_)
  · refine ⟨_, .inl rfl, ?_⟩
    have h2 : t.kind = 2 := by simpa using h
    show AV.slice 11 .dead [encTerm t] = _
    rw [fields_eq, if_pos h2]
    simp [encTerms, encTs_map]
  · have h2 : ¬ t.kind = 2 := by simpa using h
    rw [fields_eq, if_neg h2] at hlen ⊢
    refine Br.intro (fun h7 => Br.intro (fun ho => ?_) (fun ho => ?_)) (fun h7 => ?_)
    · have h7 : t.kind = 7 := by simpa using h7
      refine ⟨_, .inl rfl, ?_⟩
      rw [if_pos ⟨h7, ho⟩]
      rfl
    all_goals
      have hno : ¬ (t.kind = 7 ∧ o = true) := by simp at *; simp [*]
      rw [if_neg hno] at hlen ⊢
      refine aloop_cov (σ' := S8 t o (0, false)) (cov_of [] rfl rfl rfl rfl (by repeat first | exact envCov.nil | refine envCov.cons rfl rfl ?_) (by repeat first | exact boxCov.nil | refine boxCov.cons rfl rfl rfl ?_))
        (aloop_inv (S8 t o) (fun x => x.1 ≤ t.args.length ∧ (x.2 = false → x.1 = 0)) (fun x => t.args.length - x.1) ?_ (0, false) ⟨Nat.zero_le _, fun _ => rfl⟩)
      rintro ⟨k, b⟩ ⟨hk, hb⟩ IH
      refine aloop_round ttOk ?_
      cases b with
      | false =>
        obtain rfl : k = 0 := hb rfl
        refine Br.intro (fun hlt => ?_) (fun hlt => ?_)
        · have hlt : 0 < t.args.length := by simpa [encTs_length] using hlt
          refine gotT hlt ?_
          refine (ih _ (List.getElem_mem hlt) _).mono ?_
          rintro r hp' ⟨rfl, rfl⟩
          have hf := fieldsL_le o t.args 1
          have ht := fieldsL_take o t.args 0 hlt
          have h1 : (fields o t.args[0]).length ≤ 2000000 := Nat.le_trans (fields_mem o (List.getElem_mem hlt)) hlen
          refine Chk.intro (le_of (by simp [encTs_length]; omega)) ?_
          refine Chk.intro (le_of (by simp [encTs_length]; omega)) ?_
          refine aloop_cov (σ' := S8 t o (1, true)) (cov_of [0] rfl rfl rfl rfl
            (envCov.cons rfl rfl (envCov.cons rfl rfl (envCov.cons rfl (show some (AV.slice 11 (.loc 0) ([] ++ encTs (fields o t.args[0]))) = some _ by rw [ht]; simp [fieldsL]) (envCov.cons rfl rfl (envCov.cons rfl (show some (AV.lit (.int .i64 (IntKind.i64.wrap (((0 : Nat) : Int) + 1)))) = some _ by rw [kwrap (by omega)]) envCov.nil)))))
            (by repeat first | exact boxCov.nil | refine boxCov.cons rfl rfl rfl ?_)) (IH (1, true) ⟨hlt, by simp⟩ (Nat.sub_lt_sub_left hlt (Nat.lt_succ_self _)))
        · have hlt : t.args = [] := by simpa [encTs_length] using hlt
          refine ⟨_, .inl rfl, ?_⟩
          show AV.slice 11 .dead [] = _
          rw [hlt]; rfl
      | true =>
        refine Br.intro (fun hlt => ?_) (fun hlt => ?_)
        · have hlt : k < t.args.length := by simpa [encTs_length] using hlt
          refine gotT hlt ?_
          refine (ih _ (List.getElem_mem hlt) _).mono ?_
          rintro r hp' ⟨rfl, rfl⟩
          have hf := fieldsL_le o t.args (k + 1)
          have ht := fieldsL_take o t.args k hlt
          rw [ht, List.length_append] at hf
          refine Chk.intro (le_of (by simp only [encTs_length]; omega)) ?_
          refine Chk.intro (le_of (by simp only [encTs_length]; omega)) ?_
          refine aloop_cov (σ' := S8 t o (k + 1, true)) (cov_of [1] rfl rfl rfl rfl
            (envCov.cons rfl rfl (envCov.cons rfl rfl (envCov.cons rfl (show some (AV.slice 11 (.loc 0) (encTs (fieldsL o (t.args.take k)) ++ encTs (fields o t.args[k]))) = some _ by rw [ht, encTs_append]; rfl) (envCov.cons rfl rfl (envCov.cons rfl (show some (AV.lit (.int .i64 (IntKind.i64.wrap ((k : Int) + 1)))) = some _ by rw [kwrap (by omega)]) envCov.nil)))))
            (by repeat first | exact boxCov.nil | refine boxCov.cons rfl rfl rfl ?_)) (IH (k + 1, true) ⟨hlt, by simp⟩ (Nat.sub_lt_sub_left hlt (Nat.lt_succ_self _)))
        · have hlt : k = t.args.length := by simp [encTs_length] at hlt; simp at hk; omega
          refine ⟨_, .inl rfl, ?_⟩
          show AV.slice 11 .dead (encTs (fieldsL o (t.args.take k))) = _
          rw [hlt, List.take_length]; rfl

theorem ref_fields (o : Bool) : ∀ (n : Nat) (d : Int) (t : Term), greatB n d t = false → n ≤ 7 → Pure Try.prog 8 [encTerm t, .lit (.bool o)] (fun r => r = encTerms (fields o t))
  | 0, d, t, h, _ => by simp [greatB] at h
  | n + 1, d, t, h, hn => by
    have hl := fields_great o (n + 1) d t h
    have h6 : 6 ^ (n + 1 + 1) ≤ 6 ^ 8 := Nat.pow_le_pow_right (by omega) (by omega)
    have h8 : 6 ^ 8 = 1679616 := by decide
    simp only [greatB, Bool.or_eq_false_iff, decide_eq_false_iff_not, List.any_eq_false] at h
    exact f8 o t (by omega) (by omega) fun u hu => ref_fields o n (d + 6) u (by simpa using h.2 u hu) (by omega)

def S11 (t : Term) : Nat × Bool → St
  | (k, b) => St.of [(1, .ptr (.l 0) 0), (3, if b then .slice 11 (.loc 0) (encTs (fieldsL false (t.args.take k))) else .slice 0 .nil []), (12, .slice 11 .dead (encTs t.args)), (13, .lit (.int .i64 (encTs t.args).length)), (14, .lit (.int .i64 k))] 24 [(0, (encTerm t).cells)] 1 (if b then 1 else 0)
theorem f11 : ∀ t : Term, (fields false t).length ≤ 2000000 → t.args.length ≤ 1000 → (∀ u, u ∈ t.args → Pure Try.prog 11 [encTerm u] (fun r => r = encTerms (fields false u))) →
    Pure Try.prog 11 [encTerm t] (fun r => r = encTerms (fields false t)) := by
  intro t hlen hargs ih
  refine pure_of rfl ?_
  refine icalls_of ttOk Try.func11 rfl rfl rfl ?_
  refine Br.intro (fun h => ?_) (fun h => ?_)
  · refine ⟨_, .inl rfl, ?_⟩
    have h2 : t.kind = 2 := by simpa using h
    show AV.slice 11 .dead [encTerm t] = _
    rw [fields_eq, if_pos h2]
    simp [encTerms, encTs_map]
  · have h2 : ¬ t.kind = 2 := by simpa using h
    rw [fields_eq, if_neg h2, if_neg (by simp)] at hlen ⊢
    refine aloop_cov (σ' := S11 t (0, false)) (cov_of [] rfl rfl rfl rfl (by repeat first | exact envCov.nil | refine envCov.cons rfl rfl ?_) (by repeat first | exact boxCov.nil | refine boxCov.cons rfl rfl rfl ?_))
      (aloop_inv (S11 t) (fun x => x.1 ≤ t.args.length ∧ (x.2 = false → x.1 = 0)) (fun x => t.args.length - x.1) ?_ (0, false) ⟨Nat.zero_le _, fun _ => rfl⟩)
    rintro ⟨k, b⟩ ⟨hk, hb⟩ IH
    refine aloop_round ttOk ?_
    cases b with
    | false =>
      obtain rfl : k = 0 := hb rfl
      refine Br.intro (fun hlt => ?_) (fun hlt => ?_)
      · have hlt : 0 < t.args.length := by simpa [encTs_length] using hlt
        refine gotT hlt ?_
        refine (ih _ (List.getElem_mem hlt) _).mono ?_
        rintro r hp' ⟨rfl, rfl⟩
        have hf := fieldsL_le false t.args 1
        have ht := fieldsL_take false t.args 0 hlt
        have h1 : (fields false t.args[0]).length ≤ 2000000 := Nat.le_trans (fields_mem false (List.getElem_mem hlt)) hlen
        refine Chk.intro (le_of (by simp [encTs_length]; omega)) ?_
        refine Chk.intro (le_of (by simp [encTs_length]; omega)) ?_
        refine aloop_cov (σ' := S11 t (1, true)) (cov_of [0] rfl rfl rfl rfl
          (envCov.cons rfl rfl (envCov.cons rfl (show some (AV.slice 11 (.loc 0) ([] ++ encTs (fields false t.args[0]))) = some _ by rw [ht]; simp [fieldsL]) (envCov.cons rfl rfl (envCov.cons rfl rfl (envCov.cons rfl (show some (AV.lit (.int .i64 (IntKind.i64.wrap (((0 : Nat) : Int) + 1)))) = some _ by rw [kwrap (by omega)]) envCov.nil)))))
          (by repeat first | exact boxCov.nil | refine boxCov.cons rfl rfl rfl ?_)) (IH (1, true) ⟨hlt, by simp⟩ (Nat.sub_lt_sub_left hlt (Nat.lt_succ_self _)))
      · have hlt : t.args = [] := by simpa [encTs_length] using hlt
        refine ⟨_, .inr ⟨rfl, 11, rfl⟩, ?_⟩
        rw [hlt]; rfl
    | true =>
      refine Br.intro (fun hlt => ?_) (fun hlt => ?_)
      · have hlt : k < t.args.length := by simpa [encTs_length] using hlt
        refine gotT hlt ?_
        refine (ih _ (List.getElem_mem hlt) _).mono ?_
        rintro r hp' ⟨rfl, rfl⟩
        have hf := fieldsL_le false t.args (k + 1)
        have ht := fieldsL_take false t.args k hlt
        rw [ht, List.length_append] at hf
        refine Chk.intro (le_of (by simp only [encTs_length]; omega)) ?_
        refine Chk.intro (le_of (by simp only [encTs_length]; omega)) ?_
        refine aloop_cov (σ' := S11 t (k + 1, true)) (cov_of [1] rfl rfl rfl rfl
          (envCov.cons rfl rfl (envCov.cons rfl (show some (AV.slice 11 (.loc 0) (encTs (fieldsL false (t.args.take k)) ++ encTs (fields false t.args[k]))) = some _ by rw [ht, encTs_append]; rfl) (envCov.cons rfl rfl (envCov.cons rfl rfl (envCov.cons rfl (show some (AV.lit (.int .i64 (IntKind.i64.wrap ((k : Int) + 1)))) = some _ by rw [kwrap (by omega)]) envCov.nil)))))
          (by repeat first | exact boxCov.nil | refine boxCov.cons rfl rfl rfl ?_)) (IH (k + 1, true) ⟨hlt, by simp⟩ (Nat.sub_lt_sub_left hlt (Nat.lt_succ_self _)))
      · have hlt : k = t.args.length := by simp [encTs_length] at hlt; simp at hk; omega
        refine ⟨_, .inl rfl, ?_⟩
        show AV.slice 11 .dead (encTs (fieldsL false (t.args.take k))) = _
        rw [hlt, List.take_length]; rfl
theorem bind_fields : ∀ (n : Nat) (d : Int) (t : Term), greatB n d t = false → n ≤ 7 → Pure Try.prog 11 [encTerm t] (fun r => r = encTerms (fields false t))
  | 0, d, t, h, _ => by simp [greatB] at h
  | n + 1, d, t, h, hn => by
    have hl := fields_great false (n + 1) d t h
    have h6 : 6 ^ (n + 1 + 1) ≤ 6 ^ 8 := Nat.pow_le_pow_right (by omega) (by omega)
    have h8 : 6 ^ 8 = 1679616 := by decide
    simp only [greatB, Bool.or_eq_false_iff, decide_eq_false_iff_not, List.any_eq_false] at h
    exact f11 t (by omega) (by omega) fun u hu => bind_fields n (d + 6) u (by simpa using h.2 u hu) (by omega)

def S9 (l : List Term) (k : Nat) : St := St.of [(3, .lit (.int .u32 (usesOf 0 (l.take k)))), (7, encTerms l), (8, .lit (.int .i64 (encTs l).length)), (9, .lit (.int .i64 k))] 28 [] 0 0
theorem bind_uses (t : Term) (hl : (fields false t).length ≤ 2000000) (h : Pure Try.prog 11 [encTerm t] (fun r => r = encTerms (fields false t))) :
    Pure Try.prog 9 [encTerm t] (fun r => r = .lit (.int .u32 (usesOf 0 (fields false t)))) := by
  refine pure_of rfl ?_
  refine icalls_of ttOk Try.func9 rfl rfl rfl ?_
  refine (h _).mono ?_
  rintro r hp' ⟨rfl, rfl⟩
  generalize fields false t = l at hl
  refine aloop_cov (σ' := S9 l 0) (cov_of [] rfl rfl rfl rfl (by repeat first | exact envCov.nil | refine envCov.cons rfl rfl ?_) boxCov.nil)
    (aloop_inv (S9 l) (fun k => k ≤ l.length) (fun k => l.length - k) ?_ 0 (Nat.zero_le _))
  intro k hk IH
  refine aloop_round ttOk ?_
  refine Br.intro (fun hlt => ?_) (fun hlt => ?_)
  · have hlt : k < l.length := by simpa [encTs_length] using hlt
    have ht := usesOf_take 0 l k hlt
    refine gotT hlt ?_
    refine Br.intro (fun h0 => Br.intro (fun h32 => ?_) (fun h32 => ?_)) (fun h0 => ?_)
    · have h0 : 0 ≤ l[k].table := by simpa using h0
      have h32 : l[k].table < 32 := by simpa using h32
      refine Chk.intro (by simpa using h0) ?_
      rw [if_pos ⟨h0, h32⟩] at ht
      refine aloop_cov (σ' := S9 l (k + 1)) (cov_of [] rfl rfl rfl rfl
        (envCov.cons rfl (show some (AV.lit (.int .u32 (orBit (usesOf 0 (l.take k)) l[k].table))) = some _ by rw [ht]) (envCov.cons rfl rfl (envCov.cons rfl rfl (envCov.cons rfl (show some (AV.lit (.int .i64 (IntKind.i64.wrap ((k : Int) + 1)))) = some _ by rw [kwrap (by omega)]) envCov.nil))))
        boxCov.nil) (IH (k + 1) hlt (Nat.sub_lt_sub_left hlt (Nat.lt_succ_self _)))
    all_goals
      have hno : ¬ (0 ≤ l[k].table ∧ l[k].table < 32) := by simp at *; omega
      rw [if_neg hno] at ht
      refine aloop_cov (σ' := S9 l (k + 1)) (cov_of [] rfl rfl rfl rfl
        (envCov.cons rfl (show some (AV.lit (.int .u32 (usesOf 0 (l.take k)))) = some _ by rw [ht]) (envCov.cons rfl rfl (envCov.cons rfl rfl (envCov.cons rfl (show some (AV.lit (.int .i64 (IntKind.i64.wrap ((k : Int) + 1)))) = some _ by rw [kwrap (by omega)]) envCov.nil))))
        boxCov.nil) (IH (k + 1) hlt (Nat.sub_lt_sub_left hlt (Nat.lt_succ_self _)))
  · have hlt : k = l.length := by simp [encTs_length] at hlt; omega
    refine ⟨_, ⟨rfl, rfl⟩, ?_⟩
    rw [hlt, List.take_length]
end Go.Proofs.Ytafbefpimhaopaa
