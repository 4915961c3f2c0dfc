/- Ax, part X: regions whose order is drawn: sound. No project text. -/
import Derived.Test.YtafbefpimhaopaaAxW
set_option linter.unusedVariables false
set_option linter.unusedSimpArgs false
set_option linter.unnecessarySimpa false
set_option linter.unusedSectionVars false
namespace Go.Ax
section
variable {P : Program} {tt : TT} {σ : St} {o : Oper} {K K' : St → Prop}

/-- What a loud operation leaves to the reads that may come behind it. -/
def Kept (o : Oper) (σ : St) (rd : List (Nat × Key)) (σ' : St) : Prop :=
  ∃ hp x, σ' = (σ.withHp hp).put o.dst x ∧ ∀ y, y ∈ openReads o rd → y.2 ≠ .l σ.hp.nb → find y.2 hp.boxes = find y.2 σ.hp.boxes

theorem keyB_mem {k : Key} : ∀ {l : List (Nat × Key)} {y : Nat × Key}, keyB k l = false → y ∈ l → k ≠ y.2
  | (i, k') :: r, y, h, hy => by
    simp only [keyB, Bool.or_eq_false_iff] at h
    rcases List.mem_cons.1 hy with rfl | hy
    · exact Key.eq_false.1 h.1
    · exact keyB_mem h.2 hy
theorem loudD_form {rd : List (Nat × Key)} (h : loudD P tt o σ rd K) : aop P tt o σ (fun σ' => K σ' ∧ Kept o σ rd σ') := by
  have free : isCallV o.op = false → (∀ y, y ∈ openReads o rd → storeKey (opd σ.env) o.op ≠ some y.2) → aop P tt o σ K → aop P tt o σ (fun σ' => K σ' ∧ Kept o σ rd σ') := by
    intro hc hs h
    exact aop_form h fun hp x hok hK => ⟨hK, hp, x, rfl, fun y hy hn => hok hc _ (hs y hy) hn⟩
  unfold loudD at h
  split at h
  · rename_i hnil
    exact aop_form h fun hp x hok hK => ⟨hK, hp, x, rfl, fun y hy => by rw [hnil] at hy; simp at hy⟩
  · split at h
    · rename_i ho
      split at h
      · rename_i k hk
        cases hb : keyB k (openReads o rd) with
        | true => rw [hb] at h; exact h.elim
        | false =>
          rw [hb] at h
          exact free (by rw [ho]; rfl) (fun y hy e => keyB_mem hb hy (by rw [hk] at e; exact Option.some.inj e)) h
      · exact h.elim
    · rename_i c ho
      split at h
      · rename_i f hcal
        split at h
        · rename_i F args hF hA
          unfold aop
          rw [ho]
          simp only [hcal, hF, hA]
          unfold callS at h
          unfold callA
          split at h
          · cases hd : dstOk σ o.dst with
            | false => rw [hd] at h; exact h.elim
            | true =>
              rw [hd] at h
              simp only [cond_true] at h ⊢
              refine h.mono fun r hp' hh => ?_
              obtain ⟨hs, hK⟩ := hh
              exact ⟨hK, hp', r, rfl, fun y hy _ => hs y hy⟩
          · cases hd : dstOk σ o.dst with
            | false => rw [hd] at h; exact h.elim
            | true =>
              rw [hd] at h
              simp only [cond_true] at h ⊢
              refine h.mono fun r hp' hh => ?_
              obtain ⟨hs, hK⟩ := hh
              exact ⟨hK, hp', r, rfl, fun y hy _ => hs y hy⟩
          · exact h.elim
        · exact h.elim
      · rename_i hcal
        refine free ?_ (fun y _ e => by rw [ho] at e; simp [storeKey] at e) h
        rw [ho]; obtain ⟨cal, ar, ts⟩ := c; have hcal : cal = _ := hcal; subst hcal; rfl
      · exact h.elim
    all_goals first
      | exact h.elim
      | (rename_i ho; exact free (by rw [ho]; rfl) (fun y _ e => by rw [ho] at e; simp [storeKey] at e) h)
end

/-- What is kept of a quiet operation that the machine hasn't come to. -/
structure Rec (ops : Array Oper) (tt : TT) (rd : List (Nat × Key)) (σ : St) (i : Nat) (o : Oper) : Prop where
  dst : dstOk σ o.dst = true
  get : (∃ j want oj t, o.guard = some (j, want) ∧ ops[j]? = some oj ∧ oj.dst = some t ∧ NotW (look t σ.env) want ∧ ∀ d, o.dst = some d → look d σ.env = some (.tup [])) ∨
    ((o.guard = none ∨ ∃ j want oj t, o.guard = some (j, want) ∧ ops[j]? = some oj ∧ oj.dst = some t ∧ look t σ.env = some (.lit (.bool want))) ∧
     ∃ env0 fb0 x, (qop tt (opd env0) fb0 o.op).holds fb0 (· = x) ∧ (∀ t, .tmp t ∈ o.op.operands → look t env0 = look t σ.env) ∧
       (∀ X, X ∈ readsX (opd env0) o.op → ∀ k, k ∈ keysOf fb0 X → ∀ bx, fb0 k = some bx → (i, k) ∈ rd ∧ find k σ.hp.boxes = some bx) ∧
       ∀ d, o.dst = some d → look d σ.env = some x)

theorem tmps_operand {ops : Array Oper} {o : Oper} {t : Tmp} (h : Operand.tmp t ∈ o.op.operands) : t ∈ tmpsOf ops o :=
  List.mem_append_left _ (List.mem_filterMap.2 ⟨.tmp t, by simpa using h, rfl⟩)
theorem tmps_guard {ops : Array Oper} {o oj : Oper} {j : Nat} {want : Bool} {t : Tmp} (hg : o.guard = some (j, want)) (hj : ops[j]? = some oj) (ht : oj.dst = some t) : t ∈ tmpsOf ops o :=
  List.mem_append_right _ (by simp [hg, hj, ht])

theorem Rec.keep {ops : Array Oper} {tt : TT} {rd rd' : List (Nat × Key)} {σ σ' : St} {i : Nat} {o : Oper} (r : Rec ops tt rd σ i o) (hs : σ'.size = σ.size)
    (ht : ∀ t, t ∈ tmpsOf ops o → look t σ'.env = look t σ.env) (hd : ∀ d, o.dst = some d → look d σ'.env = look d σ.env)
    (hb : ∀ k bx, (i, k) ∈ rd → find k σ.hp.boxes = some bx → find k σ'.hp.boxes = some bx) (hr : ∀ y, y ∈ rd → y ∈ rd') : Rec ops tt rd' σ' i o := by
  refine ⟨by have := r.dst; unfold dstOk at this ⊢; rw [hs]; exact this, ?_⟩
  rcases r.get with ⟨j, want, oj, t, hg, hj, hjd, hl, h⟩ | ⟨hg, env0, fb0, x, hq, he, hf, h⟩
  · exact .inl ⟨j, want, oj, t, hg, hj, hjd, by rw [ht t (tmps_guard hg hj hjd)]; exact hl, fun d e => (hd d e).trans (h d e)⟩
  · refine .inr ⟨?_, env0, fb0, x, hq, fun t h' => (he t h').trans (ht t (tmps_operand h')).symm, ?_, fun d e => (hd d e).trans (h d e)⟩
    · rcases hg with hg | ⟨j, want, oj, t, hg, hj, hjd, hl⟩
      · exact .inl hg
      · exact .inr ⟨j, want, oj, t, hg, hj, hjd, (ht t (tmps_guard hg hj hjd)).trans hl⟩
    · intro X hX k hk bx hbx
      obtain ⟨h1, h2⟩ := hf X hX k hk bx hbx
      exact ⟨hr _ h1, hb k bx h1 h2⟩

def dropP (d : Option Tmp) (pend : List Nat) : List Nat :=
  match d with
  | none => pend
  | some d => pend.filter (· ≠ d)
theorem real' {E : Entry} {G : Gh} {σ : St} {pend : List Nat} {a : Act} {w : World} (I : Inv E G σ pend a w) {d : Option Tmp} (hd : dstOk σ d = true) {x : AV} {v : Value} (hl : ∀ t, d = some t → look t σ.env = some x) (h : Rep G w x v) :
    Inv E G σ (dropP d pend) (a.put d v) w := by
  cases d with
  | none => exact I
  | some d => exact I.real (nat_blt hd) (hl d rfl) h

theorem Rec.run {P : Program} {tt : TT} {ops : Array Oper} {rd : List (Nat × Key)} {σ : St} {i : Nat} {o : Oper} {E : Entry} {G : Gh} {pend : List Nat} {a : Act} {w : World} {Q : Exit → Act → World → Prop} {K : Act → World → Prop}
    (ok : TTOk P tt) (r : Rec ops tt rd σ i o) (I : Inv E G σ pend a w) (hi : ops[i]? = some o) (hp : ∀ t, t ∈ tmpsOf ops o → t ∉ pend)
    (hk : ∀ v, Inv E G σ (dropP o.dst pend) (a.put o.dst v) w → K (a.put o.dst v) w) : wpOp P ops Q i K a w := by
  have lit : ∀ {t : Nat} {b : Bool}, t ∉ pend → look t σ.env = some (.lit (.bool b)) → a.tmps.getD t undef = .bool b := fun hn h => (rep_lit (I.env _ _ h hn)).1
  unfold wpOp
  simp only [hi]
  rcases r.get with ⟨j, want, oj, t, hg, hj, hjd, hl, h⟩ | ⟨hg, env0, fb0, x, hq, he, hf, h⟩
  · have hw : Region.wanted o (yielded ops a.tmps) = false := by
      cases hx : look t σ.env with
      | none => rw [hx] at hl; rcases hl with hl | ⟨cs, hl⟩ <;> cases hl
      | some x => rw [hx] at hl; exact notW_wanted hg hj hjd (I.env _ _ hx (hp t (tmps_guard hg hj hjd))) hl
    rw [if_neg (by simp [hw])]
    exact hk _ (real' I r.dst h undef_rep)
  · have hw : Region.wanted o (yielded ops a.tmps) = true := by
      rcases hg with hg | ⟨j, want, oj, t, hg, hj, hjd, hl⟩
      · simp [Region.wanted, hg]
      · simp [Region.wanted, hg, yielded_of hj hjd (lit (hp t (tmps_guard hg hj hjd)) hl)]
    rw [if_pos hw]
    obtain ⟨v, hv, hr⟩ := qop_sound (G := G) (w := w) (a := a) ok hq (fun t X ht hX => I.env t X (by rw [← he t ht]; exact hX) (hp t (tmps_operand ht)))
      (fun X hX k hk bx b hf' hb => I.h.boxes.rel k bx b (hf X hX k hk bx hf').2 hb)
    refine .inl ?_
    simp only [Oper.wp, hv, Oper.upon]
    exact hk _ (real' I r.dst h hr)
/-- What is kept of a variable that the machine hasn't made. -/
structure RecA (ops : Array Oper) (tt : TT) (rd : List (Nat × Key)) (σ : St) (i : Nat) (o : Oper) (k : Nat) : Prop where
  guard : o.guard = none ∨ ∃ j want oj t, o.guard = some (j, want) ∧ ops[j]? = some oj ∧ oj.dst = some t ∧ look t σ.env = some (.lit (.bool want))
  get : ∃ T ty zs d, o.op = .alloc T ∧ tt T = some ty ∧ avsOf ty.zero = some zs ∧ o.dst = some d ∧ dstOk σ o.dst = true ∧ look d σ.env = some (.ptr (.l k) 0) ∧ k < σ.hp.nb ∧ (i, .l k) ∈ rd ∧ find (.l k) σ.hp.boxes = some (.cells zs)
theorem RecA.keep {ops : Array Oper} {tt : TT} {rd rd' : List (Nat × Key)} {σ σ' : St} {i : Nat} {o : Oper} {k : Nat} (r : RecA ops tt rd σ i o k) (hs : σ'.size = σ.size)
    (ht : ∀ t, t ∈ tmpsOf ops o → look t σ'.env = look t σ.env) (hd : ∀ d, o.dst = some d → look d σ'.env = look d σ.env)
    (hb : ∀ k bx, (i, k) ∈ rd → find k σ.hp.boxes = some bx → find k σ'.hp.boxes = some bx) (hn : σ.hp.nb ≤ σ'.hp.nb) (hr : ∀ y, y ∈ rd → y ∈ rd') : RecA ops tt rd' σ' i o k := by
  obtain ⟨T, ty, zs, d, h1, h2, h3, h4, h5, h6, h7, h8, h9⟩ := r.get
  refine ⟨?_, T, ty, zs, d, h1, h2, h3, h4, by unfold dstOk at h5 ⊢; rw [hs]; exact h5, (hd d h4).trans h6, Nat.lt_of_lt_of_le h7 hn, hr _ h8, hb _ _ h8 h9⟩
  rcases r.guard with hg | ⟨j, want, oj, t, hg, hj, hjd, hl⟩
  · exact .inl hg
  · exact .inr ⟨j, want, oj, t, hg, hj, hjd, (ht t (tmps_guard hg hj hjd)).trans hl⟩
theorem RecA.run {P : Program} {tt : TT} {ops : Array Oper} {rd : List (Nat × Key)} {σ : St} {i k : Nat} {o : Oper} {E : Entry} {G : Gh} {pend : List Nat} {a : Act} {w : World} {Q : Exit → Act → World → Prop} {K : Act → World → Prop}
    (ok : TTOk P tt) (r : RecA ops tt rd σ i o k) (hk : G.κ k = none) (I : Inv E G σ pend a w) (hi : ops[i]? = some o) (hp : ∀ t, t ∈ tmpsOf ops o → t ∉ pend)
    (hK : ∀ G' w' v, GLater G w G' w' → (∀ j, j ≠ k → G'.κ j = G.κ j) → Inv E G' σ (dropP o.dst pend) (a.put o.dst v) w' → K (a.put o.dst v) w') : wpOp P ops Q i K a w := by
  obtain ⟨T, ty, zs, d, h1, h2, h3, h4, h5, h6, h7, h8, h9⟩ := r.get
  have hw : Region.wanted o (yielded ops a.tmps) = true := by
    rcases r.guard with hg | ⟨j, want, oj, t, hg, hj, hjd, hl⟩
    · simp [Region.wanted, hg]
    · have : a.tmps.getD t undef = .bool want := (rep_lit (I.env _ _ hl (hp t (tmps_guard hg hj hjd)))).1
      simp [Region.wanted, hg, yielded_of hj hjd this]
  obtain ⟨z, hz1, hz2⟩ := (ok _ _ h2).zero (P := P) w
  have hrun : (execOp a.eval o).run P w = .ok (.value (.pointer (some ⟨w.heap.size, 0, none⟩))) (w.alloc (.cells z.cells T)) := by
    simp [execOp, h1, Instr.alloc, hz1, newVar, newRow]
  obtain ⟨hR, hone⟩ := avsOf_rep (L := G.L) (w := w) h3
  obtain ⟨G', H2, L2, hk2, hko⟩ := box_real (e := T) (C := z.cells.toList) I.h h9 hk hone (by rw [hz2]; exact hR.all2.imp fun _ _ => rep1_ofD)
  have ew : w.alloc (.cells z.cells.toList.toArray T) = w.alloc (.cells z.cells T) := by simp
  rw [ew] at H2 L2
  unfold wpOp
  simp only [hi]
  rw [if_pos hw]
  refine .inl ?_
  simp only [Oper.wp, hrun, Oper.upon]
  have hrep : Rep G' (w.alloc (.cells z.cells T)) (.ptr (.l k) 0) (.pointer (some ⟨w.heap.size, 0, none⟩)) := (⟨_, hk2, rfl⟩ : Rep1 G' _ (.ptr (.l k) 0) _)
  refine hK G' _ _ L2 hko (real' (I.world L2 H2) h5 (x := .ptr (.l k) 0) (fun t e => ?_) hrep)
  rw [h4] at e; cases e; exact h6
end Go.Ax
