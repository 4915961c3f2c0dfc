/- Ax, part Q: all operations; regions in the text's order; code; calls. No project text. -/
import Derived.Test.YtafbefpimhaopaaAxP
import Derived.Orders
set_option linter.unusedVariables false
set_option linter.unusedSimpArgs false
set_option linter.unnecessarySimpa false
set_option linter.unusedSectionVars false
namespace Go.Ax
section
variable {P : Program} {tt : TT} {E : Entry} {G : Gh} {σ : St} {pend : List Nat} {a : Act} {w : World}

theorem aop_sound (ok : TTOk P tt) {o : Oper} {K : St → Prop} (I : Inv E G σ pend a w) (hp : ∀ t, .tmp t ∈ o.op.operands → t ∉ pend) (h : aop P tt o σ K) {Q : Exit → Act → World → Prop} :
    o.wp P a w (fun a' w' => ∃ σ' G', K σ' ∧ Inv E G' σ' pend a' w' ∧ Step σ.hp.nb G w σ'.hp.nb G' w') Q := by
  have R : ∀ y X, y ∈ o.op.operands → opd σ.env y = some X → Rep G w X (a.eval y) := fun y X hy hX => opd_rep (fun t X' e h' => by subst e; exact I.env t X' h' (hp t hy)) hX
  unfold aop at h
  split at h
  · rename_i T ho
    split at h
    · rename_i ty hty
      split at h
      · rename_i zs hz; exact (alloc_sound ok hty ho hz I h).wp
      · exact h.elim
    · exact h.elim
  · rename_i T x ho
    split at h
    · rename_i X hX; exact (boxOp_sound ok ho (R x X (by simp [ho, Op.operands]) hX) I h).wp
    · exact h.elim
  · rename_i T x y ho
    split at h
    · rename_i ty A X hd hty hA hX
      exact (store_sound ok hty ho hd (R x A (by simp [ho, Op.operands]) hA) (R y X (by simp [ho, Op.operands]) hX) I h).wp
    · exact h.elim
  · rename_i T parts ho
    split at h
    · rename_i ty ps hty hps; exact (build_sound ok hty ho hps hp I h).wp
    · exact h.elim
  · rename_i T n parts ho
    split at h
    · rename_i ty ps hty hps; exact (buildSlice_sound ok hty ho hps hp I h).wp
    · exact h.elim
  · rename_i c ho
    split at h
    · rename_i hcal
      split at h
      · rename_i s x T T2 hargs hts
        have ea : c.args = #[s, x] := Array.ext' hargs
        have et : c.argTypes = #[T, T2] := Array.ext' hts
        split at h
        · rename_i ty ty2 S X hty hty2 hS hX
          split at h
          · rename_i e2 hs2
            exact (append_sound ok hty hty2 hs2 ho hcal ea et (R s S (by simp [ho, Op.operands, Call.operands, hcal, ea]) hS) (R x X (by simp [ho, Op.operands, Call.operands, hcal, ea]) hX) I h).wp
          · exact h.elim
        · exact h.elim
      · exact h.elim
    · exact (quiet_sound ok I hp h).wp
    · rename_i f hcal
      split at h
      · rename_i F args hF hA
        refine call_sound ho hcal (R f F (by simp [ho, Op.operands, Call.operands, hcal]) hF) ?_ I h
        exact args_rep (pend := pend) (fun t X hX ht => I.env t X hX ht) (fun t ht => hp t (by simp only [ho, Op.operands, Call.operands, hcal]; simp; exact .inr (by simpa using ht))) hA
      · exact h.elim
    · exact h.elim
  · exact (quiet_sound ok I hp h).wp

/-- A region in the text's order. -/
def arunOps (P : Program) (tt : TT) (ops : Array Oper) : List Oper → St → (St → Prop) → Prop
  | [], σ, K => K σ
  | o :: rest, σ, K => match o.guard with
    | none => aop P tt o σ (fun σ' => arunOps P tt ops rest σ' K)
    | some (j, want) => match ops[j]? with
      | none => False
      | some oj => match oj.dst with
        | none => False
        | some t => match look t σ.env with
          | some (.lit (.bool b)) =>
            Br (bif want then b else !b)
              (aop P tt o (σ.put (some t) (.lit (.bool want))) (fun σ' => arunOps P tt ops rest σ' K))
              (bif dstOk σ o.dst then arunOps P tt ops rest ((σ.put (some t) (.lit (.bool (!want)))).put o.dst (.tup [])) K else False)
          | some (.tup _) => bif dstOk σ o.dst then arunOps P tt ops rest (σ.put o.dst (.tup [])) K else False
          | _ => False

/-- The guard's slot holds the other truth, or nothing. -/
def NotW (x : Option AV) (want : Bool) : Prop := x = some (.lit (.bool (!want))) ∨ ∃ cs, x = some (.tup cs)
theorem notW_wanted {ops : Array Oper} {o oj : Oper} {j t : Nat} {want : Bool} {x : AV} (hg : o.guard = some (j, want)) (hj : ops[j]? = some oj) (ht : oj.dst = some t) (hx : Rep G w x (a.tmps.getD t undef)) (hn : NotW (some x) want) :
    Region.wanted o (yielded ops a.tmps) = false := by
  have hv : a.tmps.getD t undef = .bool (!want) ∨ ∃ vs, a.tmps.getD t undef = .tuple vs := by
    rcases hn with h | ⟨cs, h⟩
    · cases h; exact .inl (rep_lit hx).1
    · cases h; obtain ⟨vs, hv, _⟩ := hx; exact .inr ⟨_, hv⟩
  have hy : yielded ops a.tmps j ≠ some want := by
    simp only [yielded, hj, ht, Option.bind_some]
    rw [Array.getD_eq_getD_getElem?] at hv
    cases hg' : a.tmps[t]? with
    | none => simp
    | some v =>
      rw [hg'] at hv
      rcases hv with hv | ⟨vs, hv⟩
      · simp at hv; subst hv; cases want <;> simp
      · simp at hv; subst hv; simp
  simp only [Region.wanted, hg]
  cases hyy : yielded ops a.tmps j with
  | none => rfl
  | some b => rw [hyy] at hy; cases b <;> cases want <;> first | rfl | exact absurd rfl hy

theorem Inv.lit (I : Inv E G σ [] a w) {t : Nat} {b : Bool} (h : look t σ.env = some (.lit (.bool b))) : a.tmps.getD t undef = .bool b := by
  have := I.env t _ h (by simp)
  exact (rep_lit this).1
theorem Inv.again (I : Inv E G σ pend a w) {t : Nat} {x : AV} (h : look t σ.env = some x) : Inv E G (σ.put (some t) x) pend a w := by
  refine ⟨I.defers, I.tmps, fun s y hy hs => ?_, I.h⟩
  simp only [St.put, look_cons] at hy
  split at hy
  · rename_i e; subst e; simp at hy; subst hy; exact I.env s _ h hs
  · exact I.env s y hy hs

abbrev Ends (E : Entry) (G : Gh) (w : World) (K : St → Prop) : Exit → Act → World → Prop := fun e a' w' => e = .normal ∧ ∃ σ' G', K σ' ∧ Inv E G' σ' [] a' w' ∧ Step σ.hp.nb G w σ'.hp.nb G' w'

theorem undef_rep : Rep G w (.tup []) undef := ⟨[], rfl, .nil⟩

theorem drop_cons_get {α : Type} {l r : List α} {o : α} {k : Nat} (hl : l.drop k = o :: r) : l[k]? = some o := by
  have : (l.drop k)[0]? = some o := by rw [hl]; rfl
  simpa using this

theorem yielded_of {ops : Array Oper} {j t : Nat} {oj : Oper} {b : Bool} (hj : ops[j]? = some oj) (ht : oj.dst = some t) (h : a.tmps.getD t undef = .bool b) : yielded ops a.tmps j = some b := by
  have : a.tmps[t]? = some (.bool b) := by
    rw [Array.getD_eq_getD_getElem?] at h
    cases hg : a.tmps[t]? with
    | none => rw [hg] at h; simp [undef] at h
    | some v => rw [hg] at h; simpa using h
  simp [yielded, hj, ht, this]

/-- What holds behind: the next state describes the machine; what was told of G0, w0 stands. -/
abbrev After (E : Entry) (n0 : Nat) (G0 : Gh) (w0 : World) (K : St → Prop) : Exit → Act → World → Prop := fun e a' w' => e = .normal ∧ ∃ σ' G', K σ' ∧ Inv E G' σ' [] a' w' ∧ Step n0 G0 w0 σ'.hp.nb G' w'

theorem arun_sound (ok : TTOk P tt) {ops : Array Oper} {K : St → Prop} {n0 : Nat} {G0 : Gh} {w0 : World} : ∀ (l : List Oper) (k n : Nat) {G : Gh} {σ : St} {a : Act} {w : World}, l = ops.toList.drop k → n = l.length → Inv E G σ [] a w → Step n0 G0 w0 σ.hp.nb G w → arunOps P tt ops l σ K →
    wpOps P ops (After E n0 G0 w0 K) (List.range' k n) a w
  | [], k, n, G, σ, a, w, hl, hn, I, L0, h => by
    subst hn
    exact ⟨rfl, σ, G, h, I, L0⟩
  | o :: rest, k, n, G, σ, a, w, hl, hn, I, L0, h => by
    subst hn
    have ho : ops[k]? = some o := by
      have := drop_cons_get hl.symm
      simpa using this
    have hrest : rest = ops.toList.drop (k + 1) := by
      have : (ops.toList.drop k).drop 1 = rest := by rw [← hl]; rfl
      rw [← this, List.drop_drop]
    simp only [List.length_cons, List.range'_succ, wpOps, ho]
    have step : ∀ {σ1 : St}, σ1.hp = σ.hp → Inv E G σ1 [] a w → aop P tt o σ1 (fun σ' => arunOps P tt ops rest σ' K) →
        o.wp P a w (wpOps P ops (After E n0 G0 w0 K) (List.range' (k + 1) rest.length)) (After E n0 G0 w0 K) := by
      intro σ1 e1 I1 h1
      refine Oper.wp_mono (fun a' w' h => ?_) (aop_sound ok I1 (by simp) h1)
      obtain ⟨σ', G', hK, I', L'⟩ := h
      exact arun_sound ok rest (k + 1) _ hrest rfl I' (L0.trans (by rw [← e1]; exact L')) hK
    unfold arunOps at h
    split at h
    · rename_i hg
      rw [if_pos (by simp [Region.wanted, hg])]
      exact .inl (step rfl I h)
    · rename_i j want hg
      split at h
      · exact h.elim
      · rename_i oj hj
        split at h
        · exact h.elim
        · rename_i t ht
          split at h
          · rename_i b hb
            have hlit := I.lit hb
            have hy : yielded ops a.tmps j = some b := yielded_of hj ht hlit
            cases hw : (bif want then b else !b) with
            | true =>
              rw [hw] at h
              have hbw : b = want := by cases want <;> cases b <;> simp_all
              subst hbw
              rw [if_pos (by simp [Region.wanted, hg, hy])]
              exact .inl (step (by rw [put_hp]) (I.again hb) h)
            | false =>
              rw [hw] at h
              have hbw : b = !want := by cases want <;> cases b <;> simp_all
              subst hbw
              rw [if_neg (by simp [Region.wanted, hg, hy])]
              have h : (bif dstOk σ o.dst then arunOps P tt ops rest ((σ.put (some t) (.lit (.bool (!want)))).put o.dst (.tup [])) K else False) := h
              cases hd : dstOk σ o.dst with
              | false => rw [hd] at h; exact h.elim
              | true =>
                rw [hd] at h
                exact arun_sound ok rest (k + 1) _ hrest rfl ((I.again hb).put (by cases hdst : o.dst with
                  | none => rfl
                  | some d => rw [hdst] at hd; exact hd) undef_rep) (by simp only [put_hp]; exact L0) h
          · rename_i cs hb
            have hw := notW_wanted (o := o) (want := want) hg hj ht (I.env t _ hb (by simp)) (.inr ⟨_, rfl⟩)
            rw [if_neg (by simp [hw])]
            cases hd : dstOk σ o.dst with
            | false => rw [hd] at h; exact h.elim
            | true =>
              rw [hd] at h
              exact arun_sound ok rest (k + 1) _ hrest rfl (I.put (by cases hdst : o.dst with
                | none => rfl
                | some d => rw [hdst] at hd; exact hd) undef_rep) (by simp only [put_hp]; exact L0) h
          · exact h.elim
end
end Go.Ax
