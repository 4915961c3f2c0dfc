/- BindRaw comes to true. -/
import Derived.Test.YtafbefpimhaopaaFnsD
set_option linter.unusedVariables false
set_option linter.unusedSimpArgs false
set_option linter.unnecessarySimpa false
set_option linter.unusedSectionVars false
namespace Go.Proofs.Ytafbefpimhaopaa
open Go.Ax Go.Rw

def S3 (b : Book) (tables : List Int) (t : Term) (k : Int) (l : List Term) (i : Nat) : St :=
  St.of [(1, ints tables), (3, .ptr (.l 0) 0), (5, .ptr (.l 1) 0), (7, .lit (.int .u8 k)), (8, .lit (.int .u32 (usesOf 0 (l.take i)))), (9, encTerms l), (31, encTerms l), (32, .lit (.int .i64 (encTs l).length)), (33, .lit (.int .i64 i))] 142 [(0, (encBook b).cells), (1, (encTerm t).cells)] 2 0
theorem same_all : ∀ (u : Term), (∃ n d, greatB n d u = false) → Pure Try.prog 18 [encTerm u, encTerm u] (fun r => r = .lit (.bool true)) := fun u ⟨n, d, h⟩ => same_terms' n d u h
theorem fields_small (o : Bool) : ∀ (n : Nat) (d : Int) (t : Term), greatB n d t = false → ∀ u, u ∈ fields o t → ∃ n d, greatB n d u = false
  | 0, d, t, h => by simp [greatB] at h
  | n + 1, d, t, h => by
    intro u hu
    rw [fields_eq] at hu
    split at hu
    · simp at hu; subst hu; exact ⟨_, _, h⟩
    · split at hu
      · simp at hu
      · simp only [greatB, Bool.or_eq_false_iff, decide_eq_false_iff_not, List.any_eq_false] at h
        have key : ∀ l : List Term, (∀ v, v ∈ l → v ∈ t.args) → u ∈ fieldsL o l → ∃ n d, greatB n d u = false := by
          intro l
          induction l with
          | nil => intro _ hu; simp [fieldsL] at hu
          | cons x r ih =>
            intro hl hu
            simp only [fieldsL, List.mem_append] at hu
            rcases hu with hu | hu
            · exact fields_small o n (d + 6) x (by simpa using h.2 x (hl x (by simp))) u hu
            · exact ih (fun v hv => hl v (by simp [hv])) hu
        exact key t.args (fun _ h => h) hu
theorem conj_small : ∀ (m n : Nat) (d : Int) (t : Term), greatB n d t = false → ∀ u, u ∈ conj m t → ∃ n d, greatB n d u = false
  | 0, n, d, t, h => by intro u hu; simp [conj] at hu; subst hu; exact ⟨_, _, h⟩
  | m + 1, 0, d, t, h => by simp [greatB] at h
  | m + 1, n + 1, d, t, h => by
    intro u hu
    rw [conj_succ] at hu
    have hh := h
    simp only [greatB, Bool.or_eq_false_iff, decide_eq_false_iff_not, List.any_eq_false] at hh
    split at hu
    · rename_i a b hab
      split at hu
      · rcases List.mem_append.1 hu with hu | hu
        · exact conj_small m n (d + 6) a (by simpa using hh.2 a (by rw [hab]; simp)) u hu
        · exact conj_small m n (d + 6) b (by simpa using hh.2 b (by rw [hab]; simp)) u hu
      · simp at hu; subst hu; exact ⟨_, _, h⟩
    · simp at hu; subst hu; exact ⟨_, _, h⟩
def T3 (t : Term) (l : List Term) : St := St.of [(5, .ptr (.l 1) 0), (8, .lit (.int .u32 (usesOf 0 l))), (9, encTerms l)] 142 [(1, (encTerm t).cells)] 2 0
def True3 (r : AV) (_ : Hp) : Prop := ∃ r' : AV, Wk r r' ∧ r' = .lit (.bool true)
theorem tail3 (t : Term) (l : List Term) (bf : Pure Try.prog 11 [encTerm t] (fun r => r = encTerms l)) (bu : Pure Try.prog 9 [encTerm t] (fun r => r = .lit (.int .u32 (usesOf 0 l))))
    (bc : PureR Try.prog 12 [encTerm t] 11 (fun items => items = encTs (conj 7 t))) (rc : PureR Try.prog 13 [encTerm t] 11 (fun items => items = encTs (conj 7 t)))
    (sl : Pure Try.prog 10 [encTerms l, encTerms l] (fun r => r = .lit (.bool true))) (sc : Pure Try.prog 10 [encTerms (conj 7 t), encTerms (conj 7 t)] (fun r => r = .lit (.bool true))) :
    awp Try.prog ⟨0, 0, [18]⟩ (dropS 7 (bodyOf Try.f3)) (T3 t l) (retQ tt Try.f3.results.toList True3) := by
  refine acut_run ttOk ?_
  refine arunDraw_plan ttOk mixed p3_18 (by kernel_rfl) ?_
  refine (fixed_pure _).mono ?_
  rintro r hp' ⟨rfl, rfl⟩
  refine (bu _).mono ?_
  rintro r hp' ⟨rfl, rfl⟩
  refine Br.intro (fun _ => ?_) (fun h => by simp at h)
  refine (bf _).mono ?_
  rintro r hp' ⟨rfl, rfl⟩
  refine ⟨fun _ _ => rfl, ?_⟩
  refine (sl _).mono ?_
  rintro r hp' ⟨rfl, rfl⟩
  refine ⟨fun _ _ => rfl, ?_⟩
  refine (bc _).mono ?_
  rintro r hp' ⟨items, rfl, rfl, rfl⟩
  refine ⟨fun _ _ => rfl, ?_⟩
  refine (rc _).mono ?_
  rintro r hp' ⟨items, rfl, rfl, rfl⟩
  refine ⟨fun _ _ => rfl, ?_⟩
  refine (((sc _).args (.cons Imp.slice (.cons Imp.slice .nil)))).mono ?_
  rintro r hp' ⟨rfl, rfl⟩
  exact ⟨fun _ _ => rfl, _, ⟨rfl, rfl⟩, rfl⟩
set_option maxRecDepth 100000 in
set_option maxHeartbeats 2000000 in
theorem bindRaw_true (b : Book) (tables : List Int) (t : Term) (h1 : b.tables.length ≤ 9223372036854775807) (h2 : b.indexes.length ≤ 9223372036854775807) (h3 : ∀ t, t ∈ b.tables → t.columns.length ≤ 9223372036854775807) :
    Pure Try.prog 3 [encBook b, ints tables, encTerm t] (fun r => r = .lit (.bool true)) := by
  refine pure_of rfl ?_
  refine icalls_rows ttOk [] [18] Try.func3 rfl rfl rfl ?_
  have leaf : ∃ r' : AV, Wk (.lit (.bool true)) r' ∧ r' = .lit (.bool true) := ⟨_, ⟨rfl, rfl⟩, rfl⟩
  refine ((book_great b h1 h2 h3) _).mono ?_
  rintro r hp' ⟨rfl, g, rfl⟩
  refine Br.intro (fun hg => Br.intro (fun hl => ?_) (fun hl => ?_)) (fun hg => ?_)
  · refine (great_is 6 0 t (by omega) (by omega) _).mono ?_
    rintro r hp' ⟨rfl, rfl⟩
    refine Br.intro (fun hgr => ?_) (fun hgr => ?_)
    · refine (fixed_pure _).mono ?_
      rintro r hp' ⟨rfl, rfl⟩
      exact leaf
    · have hgr : greatB 7 0 t = false := hgr
      refine (kind_kind b tables t _).mono ?_
      rintro r hp' ⟨rfl, k, rfl, hk⟩
      refine (ref_fields false 7 0 t hgr (by omega) _).mono ?_
      rintro r hp' ⟨rfl, rfl⟩
      have hlen := fields_great false 7 0 t hgr
      have h68 : 6 ^ (7 + 1) = 1679616 := by decide
      have bf := bind_fields 7 0 t hgr (by omega)
      have bu := bind_uses t (by omega) bf
      have bc := bind_conj 7 7 0 t hgr (by omega) (by omega)
      have rc := ref_conj 7 7 0 t hgr (by omega) (by omega)
      have sl := same_list (fields false t) (by omega) (fun u hu => same_all u (fields_small false 7 0 t hgr u hu))
      have sc := same_list (conj 7 t) (by have := conj_great 7 7 0 t hgr; have h27 : 2 ^ 7 = 128 := by decide
                                          omega) (fun u hu => same_all u (conj_small 7 7 0 t hgr u hu))
      generalize hlf : fields false t = l at *
      refine aloop_cov (σ' := S3 b tables t k l 0) (cov_of [] rfl rfl rfl rfl (by repeat first | exact envCov.nil | refine envCov.cons rfl rfl ?_) (by repeat first | exact boxCov.nil | refine boxCov.cons rfl rfl rfl ?_))
        (aloop_inv (S3 b tables t k l) (fun i => i ≤ l.length) (fun i => l.length - i) ?_ 0 (Nat.zero_le _))
      intro i hi IH
      refine aloop_round ttOk ?_
      refine Br.intro (fun hlt => ?_) (fun hlt => ?_)
      · have hlt : i < l.length := by simpa [encTs_length] using hlt
        have ht := usesOf_take 0 l i hlt
        refine gotT hlt ?_
        refine Br.intro (fun h0 => Br.intro (fun h32 => ?_) (fun h32 => ?_)) (fun h0 => ?_)
        · have h0 : 0 ≤ l[i].table := by simpa using h0
          have h32 : l[i].table < 32 := by simpa using h32
          refine Chk.intro (by simpa using h0) ?_
          rw [if_pos ⟨h0, h32⟩] at ht
          refine aloop_cov (σ' := S3 b tables t k l (i + 1)) (cov_of [] rfl rfl rfl rfl
            (envCov.cons rfl rfl (envCov.cons rfl rfl (envCov.cons rfl rfl (envCov.cons rfl rfl (envCov.cons rfl (show some (AV.lit (.int .u32 (orBit (usesOf 0 (l.take i)) l[i].table))) = some _ by rw [ht]) (envCov.cons rfl rfl (envCov.cons rfl rfl (envCov.cons rfl rfl (envCov.cons rfl (show some (AV.lit (.int .i64 (IntKind.i64.wrap ((i : Int) + 1)))) = some _ by rw [kwrap (by omega)]) envCov.nil)))))))))
            (by repeat first | exact boxCov.nil | refine boxCov.cons rfl rfl rfl ?_)) (IH (i + 1) hlt (Nat.sub_lt_sub_left hlt (Nat.lt_succ_self _)))
        all_goals
          have hno : ¬ (0 ≤ l[i].table ∧ l[i].table < 32) := by simp at *; omega
          rw [if_neg hno] at ht
          refine aloop_cov (σ' := S3 b tables t k l (i + 1)) (cov_of [] rfl rfl rfl rfl
            (envCov.cons rfl rfl (envCov.cons rfl rfl (envCov.cons rfl rfl (envCov.cons rfl rfl (envCov.cons rfl (show some (AV.lit (.int .u32 (usesOf 0 (l.take i)))) = some _ by rw [ht]) (envCov.cons rfl rfl (envCov.cons rfl rfl (envCov.cons rfl rfl (envCov.cons rfl (show some (AV.lit (.int .i64 (IntKind.i64.wrap ((i : Int) + 1)))) = some _ by rw [kwrap (by omega)]) envCov.nil)))))))))
            (by repeat first | exact boxCov.nil | refine boxCov.cons rfl rfl rfl ?_)) (IH (i + 1) hlt (Nat.sub_lt_sub_left hlt (Nat.lt_succ_self _)))
      · have hlt : i = l.length := by simp [encTs_length] at hlt; omega
        subst hlt
        have tail := tail3 t l bf bu bc rc sl sc
        refine Br.intro (fun h2 => ?_) (fun h2 => ?_)
        · have h2 : t.kind = 2 := by simpa using h2
          have hk := hk h2
          subst hk
          refine arunDraw_plan ttOk mixed p3_14 (by kernel_rfl) ?_
          refine Br.intro (fun a1 => ?_) (fun a1 => ?_)
          · have a1 : 0 ≤ t.table := by simp at a1; omega
            refine Br.intro (fun a2 => ?_) (fun a2 => ?_)
            · have a2 : t.table.toNat < tables.length := by simp at a2; omega
              have e2 : tables.getD t.table.toNat 0 = tables[t.table.toNat] := by simp [List.getD_eq_getElem?_getD, a2]
              have c2 : 0 ≤ t.table ∧ t.table < tables.length := ⟨a1, by omega⟩
              refine gotZ a1 a2 ?_
              refine Br.intro (fun a3 => ?_) (fun a3 => ?_)
              · have a3 : 0 ≤ tables[t.table.toNat] := by simp at a3; omega
                refine gotZ a1 a2 ?_
                refine Br.intro (fun a4 => ?_) (fun a4 => ?_)
                · have a4 : tables[t.table.toNat].toNat < b.tables.length := by simp at a4; omega
                  have e4 : (b.tables.map (·.columns)).getD tables[t.table.toNat].toNat [] = b.tables[tables[t.table.toNat].toNat].columns := by simp [List.getD_eq_getElem?_getD, a4]
                  have c4 : 0 ≤ tables[t.table.toNat] ∧ tables[t.table.toNat] < b.tables.length := ⟨a3, by omega⟩
                  have hw0 : want b tables t = (if 0 ≤ t.column ∧ t.column < b.tables[tables[t.table.toNat].toNat].columns.length then (b.tables[tables[t.table.toNat].toNat].columns.map (·.kind)).getD t.column.toNat 0 else 0) := by
                    unfold want; rw [if_pos c2, e2]
                    simp only []
                    rw [if_pos c4, e4]
                  refine Br.intro (fun a5 => ?_) (fun a5 => ?_)
                  · have a5 : 0 ≤ t.column := by simp at a5; omega
                    refine gotZ a1 a2 ?_
                    refine gotZ a3 a4 ?_
                    refine Br.intro (fun a6 => ?_) (fun a6 => ?_)
                    · have a6 : t.column.toNat < b.tables[tables[t.table.toNat].toNat].columns.length := by simp at a6; omega
                      refine arunDraw_plan ttOk mixed p3_15 (by kernel_rfl) ?_
                      refine gotZ a1 a2 ?_
                      refine gotZ a3 a4 ?_
                      refine gotZ a5 a6 ?_
                      have hw : want b tables t = b.tables[tables[t.table.toNat].toNat].columns[t.column.toNat].kind := by
                        rw [hw0, if_pos ⟨a5, by omega⟩]
                        simp [List.getD_eq_getElem?_getD, a6]
                      refine Br.intro (fun hne => absurd hne (by rw [hw]; simp)) (fun _ => ?_)
                      exact awp_cov (σ' := T3 t l) (cov_of [] rfl rfl rfl rfl (envCov.cons rfl rfl (envCov.cons rfl (by rw [List.take_length]; rfl) (envCov.cons rfl rfl envCov.nil))) (boxCov.cons rfl rfl rfl boxCov.nil)) tail
                    · have a6 : ¬ t.column < b.tables[tables[t.table.toNat].toNat].columns.length := by simp at a6; omega
                      have hw : want b tables t = 0 := by rw [hw0, if_neg (fun hh => a6 hh.2)]
                      refine Br.intro (fun hne => absurd hne (by rw [hw]; simp)) (fun _ => ?_)
                      exact awp_cov (σ' := T3 t l) (cov_of [] rfl rfl rfl rfl (envCov.cons rfl rfl (envCov.cons rfl (by rw [List.take_length]; rfl) (envCov.cons rfl rfl envCov.nil))) (boxCov.cons rfl rfl rfl boxCov.nil)) tail
                  · have a5 : ¬ 0 ≤ t.column := by simp at a5; omega
                    have hw : want b tables t = 0 := by rw [hw0, if_neg (fun hh => a5 hh.1)]
                    refine Br.intro (fun hne => absurd hne (by rw [hw]; simp)) (fun _ => ?_)
                    exact awp_cov (σ' := T3 t l) (cov_of [] rfl rfl rfl rfl (envCov.cons rfl rfl (envCov.cons rfl (by rw [List.take_length]; rfl) (envCov.cons rfl rfl envCov.nil))) (boxCov.cons rfl rfl rfl boxCov.nil)) tail
                · have a4 : ¬ tables[t.table.toNat] < b.tables.length := by simp at a4; omega
                  have hw : want b tables t = 0 := by
                    unfold want; rw [if_pos c2, e2]
                    simp only []
                    rw [if_neg (fun hh => a4 hh.2)]
                  refine Br.intro (fun hne => absurd hne (by rw [hw]; simp)) (fun _ => ?_)
                  exact awp_cov (σ' := T3 t l) (cov_of [] rfl rfl rfl rfl (envCov.cons rfl rfl (envCov.cons rfl (by rw [List.take_length]; rfl) (envCov.cons rfl rfl envCov.nil))) (boxCov.cons rfl rfl rfl boxCov.nil)) tail
              · have a3 : ¬ 0 ≤ tables[t.table.toNat] := by simp at a3; omega
                have hw : want b tables t = 0 := by
                  unfold want; rw [if_pos c2, e2]
                  simp only []
                  rw [if_neg (fun hh => a3 hh.1)]
                refine Br.intro (fun hne => absurd hne (by rw [hw]; simp)) (fun _ => ?_)
                exact awp_cov (σ' := T3 t l) (cov_of [] rfl rfl rfl rfl (envCov.cons rfl rfl (envCov.cons rfl (by rw [List.take_length]; rfl) (envCov.cons rfl rfl envCov.nil))) (boxCov.cons rfl rfl rfl boxCov.nil)) tail
            · have a2 : ¬ t.table < tables.length := by simp at a2; omega
              have hw : want b tables t = 0 := by unfold want; rw [if_neg (fun hh => a2 hh.2)]
              refine Br.intro (fun hne => absurd hne (by rw [hw]; simp)) (fun _ => ?_)
              exact awp_cov (σ' := T3 t l) (cov_of [] rfl rfl rfl rfl (envCov.cons rfl rfl (envCov.cons rfl (by rw [List.take_length]; rfl) (envCov.cons rfl rfl envCov.nil))) (boxCov.cons rfl rfl rfl boxCov.nil)) tail
          · have a1 : ¬ 0 ≤ t.table := by simp at a1; omega
            have hw : want b tables t = 0 := by unfold want; rw [if_neg (fun hh => a1 hh.1)]
            refine Br.intro (fun hne => absurd hne (by rw [hw]; simp)) (fun _ => ?_)
            exact awp_cov (σ' := T3 t l) (cov_of [] rfl rfl rfl rfl (envCov.cons rfl rfl (envCov.cons rfl (by rw [List.take_length]; rfl) (envCov.cons rfl rfl envCov.nil))) (boxCov.cons rfl rfl rfl boxCov.nil)) tail
        · exact awp_cov (σ' := T3 t l) (cov_of [] rfl rfl rfl rfl (envCov.cons rfl rfl (envCov.cons rfl (by rw [List.take_length]; rfl) (envCov.cons rfl rfl envCov.nil))) (boxCov.cons rfl rfl rfl boxCov.nil)) tail
  · refine (fixed_pure _).mono ?_
    rintro r hp' ⟨rfl, rfl⟩
    exact leaf
  · refine (fixed_pure _).mono ?_
    rintro r hp' ⟨rfl, rfl⟩
    exact leaf
end Go.Proofs.Ytafbefpimhaopaa
