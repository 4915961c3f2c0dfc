/- Ax, part M: operations that write, make memory or call: the machine does what part L says. No project text. -/
import Derived.Test.YtafbefpimhaopaaAxL
set_option linter.unusedVariables false
set_option linter.unusedSimpArgs false
set_option linter.unnecessarySimpa false
set_option linter.unusedSectionVars false
namespace Go.Ax
section
variable {P : Program} {tt : TT} {E : Entry} {G : Gh} {σ : St} {pend : List Nat} {a : Act} {w : World}

/-- What is left to show of an operation: the machine comes to a value and a world that the next state describes. -/
def Goes (P : Program) (E : Entry) (G : Gh) (w : World) (σ : St) (pend : List Nat) (K : St → Prop) (a : Act) (o : Oper) (r : Result Next) : Prop :=
  ∃ v w' σ' G', (r = .ok (.value v) w' ∨ (r = .ok .skip w' ∧ v = undef)) ∧ K σ' ∧ Inv E G' σ' pend (a.put o.dst v) w' ∧ Step σ.hp.nb G w σ'.hp.nb G' w'
theorem Goes.wp {K : St → Prop} {o : Oper} {Q : Exit → Act → World → Prop} (h : Goes P E G w σ pend K a o ((execOp a.eval o).run P w)) :
    o.wp P a w (fun a' w' => ∃ σ' G', K σ' ∧ Inv E G' σ' pend a' w' ∧ Step σ.hp.nb G w σ'.hp.nb G' w') Q := by
  obtain ⟨v, w', σ', G', hr, hK, hI, hL⟩ := h
  unfold Oper.wp
  rcases hr with hr | ⟨hr, rfl⟩
  · rw [hr]; exact ⟨σ', G', hK, hI, hL⟩
  · rw [hr]; exact ⟨σ', G', hK, hI, hL⟩

theorem quiet_sound (ok : TTOk P tt) {o : Oper} {K : St → Prop} (I : Inv E G σ pend a w) (hp : ∀ t, .tmp t ∈ o.op.operands → t ∉ pend) (h : quietA tt o σ K) : Goes P E G w σ pend K a o ((execOp a.eval o).run P w) := by
  unfold quietA at h
  cases hd : dstOk σ o.dst with
  | false => rw [hd] at h; exact h.elim
  | true =>
    rw [hd] at h
    obtain ⟨x, hx, hK⟩ := QRes.split _ (QRes.run_holds _ h)
    obtain ⟨v, hv, hr⟩ := qop_sound (G := G) (w := w) (a := a) ok hx (fun t X ht hX => I.env t X hX (hp t ht)) (fun X hX k hk bx b hf hb => I.h.boxes.rel k bx b hf hb)
    exact ⟨v, w, _, G, .inl hv, hK, I.put hd hr, put_nb (Nat.le_refl _), fun _ _ => rfl, .refl _ _⟩

theorem find_add {hp : Hp} {bx : Box} {k : Key} {b2 : Box} (h : find k (hp.addBox bx).boxes = some b2) : (k = .l hp.nb ∧ b2 = bx) ∨ (k ≠ .l hp.nb ∧ find k hp.boxes = some b2) := by
  simp only [Hp.addBox, find_cons] at h
  split at h
  · rename_i e; simp at h; exact .inl ⟨e, h.symm⟩
  · rename_i e; exact .inr ⟨e, h⟩
/-- A variable is told, the machine hasn't made it. -/
theorem HInv.addBox {hp : Hp} (H : HInv E G hp w) (bx : Box) : HInv E G (hp.addBox bx) w := by
  have hk : G.at (.l hp.nb) = none := H.nb _ (Nat.le_refl _)
  refine ⟨⟨?_, ?_, ?_⟩, ⟨H.tips.tip, H.tips.sep, ?_⟩, H.frame, H.kap, fun i hi => H.nb i (by simp [Hp.addBox] at hi; omega), H.nt, H.al, ?_⟩
  · intro k b2 b hf hb
    rcases find_add hf with ⟨rfl, _⟩ | ⟨_, hf⟩
    · rw [hk] at hb; simp at hb
    · exact H.boxes.rel k b2 b hf hb
  · intro k k' b2 b3 b hf hf' v1 v2 hb hb'
    rcases find_add hf with ⟨rfl, _⟩ | ⟨_, hf⟩
    · rw [hk] at hb; simp at hb
    · rcases find_add hf' with ⟨rfl, _⟩ | ⟨_, hf'⟩
      · rw [hk] at hb'; simp at hb'
      · exact H.boxes.sep k k' b2 b3 b hf hf' v1 v2 hb hb'
  · intro k b2 b hf hb
    rcases find_add hf with ⟨rfl, _⟩ | ⟨_, hf⟩
    · rw [hk] at hb; simp at hb
    · exact H.boxes.mine k b2 b hf hb
  · intro i hi x hx hn a ha
    obtain ⟨h1, h2⟩ := H.tips.box i hi x hx hn a ha
    refine ⟨fun k b2 hf => ?_, h2⟩
    rcases find_add hf with ⟨rfl, _⟩ | ⟨_, hf⟩
    · rw [hk]; simp
    · exact h1 k b2 hf
  · intro k b2 hf
    rcases find_add hf with ⟨rfl, _⟩ | ⟨_, hf⟩
    · exact ⟨hp.nb, rfl, by simp [Hp.addBox]⟩
    · obtain ⟨i, hi, hl⟩ := H.bk k b2 hf; exact ⟨i, hi, by simp [Hp.addBox]; omega⟩

/-- The machine makes a variable that was told. -/
theorem box_real {hp : Hp} (H : HInv E G hp w) {i : Nat} {cs : List AV} (hf : find (.l i) hp.boxes = some (.cells cs)) (hk : G.κ i = none) {C : List Value} {e : TypeId}
    (h1 : ∀ y, y ∈ cs → y.one = true) (hr : All2 (Rep1 G w) cs C) :
    ∃ G', HInv E G' hp (w.alloc (.cells C.toArray e)) ∧ GLater G w G' (w.alloc (.cells C.toArray e)) ∧ G'.κ i = some w.heap.size ∧ ∀ j, j ≠ i → G'.κ j = G.κ j := by
  obtain ⟨j, hj, hl⟩ := H.bk _ _ hf
  simp only [Key.l.injEq] at hj; subst hj
  obtain ⟨H2, L2⟩ := H.newBox (e := e) (C := C) (cp := 0) hl hk (fun bx hbx G2 hG2 hmono => by
    rw [hf] at hbx; simp at hbx; subst hbx
    exact ⟨C, e, by rw [alloc_block, if_pos rfl], by rw [hG2]; simp, h1, hr.imp hmono⟩)
  exact ⟨_, H2, L2, by simp, fun j hj => upd_ne _ _ hj⟩

theorem box_sound' {K : St → Prop} {o : Oper} {X : AV} {v : Value} {T : TypeId} (I : Inv E G σ pend a w) (hX : Rep G w X v) (hrun : (execOp a.eval o).run P w = .ok (.value (.pointer (some ⟨w.heap.size, 0, none⟩))) (w.alloc (.cells v.cells T)))
    (h : boxA σ o.dst X K) : Goes P E G w σ pend K a o ((execOp a.eval o).run P w) := by
  have hnt : ∀ cs, X ≠ .tup cs := by intro cs e; subst e; exact h
  have h' : (bif dstOk σ o.dst then K ((σ.withHp (σ.hp.addBox (.cells X.cells))).put o.dst (.ptr (.l σ.hp.nb) 0)) else False) := by
    cases X <;> first | exact h | exact absurd rfl (hnt _)
  cases hd : dstOk σ o.dst with
  | false => rw [hd] at h'; exact h'.elim
  | true =>
    rw [hd] at h'
    obtain ⟨hr, h1⟩ := rep_cells hX hnt
    obtain ⟨G', H2, L2, hk, hko⟩ := box_real (e := T) (C := v.cells.toList) (I.h.addBox (.cells X.cells)) (i := σ.hp.nb) (by simp [Hp.addBox, find_cons]) (I.h.nb _ (Nat.le_refl _)) h1 hr
    have ew : w.alloc (.cells v.cells.toList.toArray T) = w.alloc (.cells v.cells T) := by simp
    rw [ew] at H2 L2
    refine ⟨_, _, _, G', .inl hrun, h', ?_, put_nb (σ := σ.withHp (σ.hp.addBox (.cells X.cells))) (Nat.le_succ _), fun i hi => hko i (by omega), L2⟩
    exact (I.world L2 H2).put (σ := σ.withHp (σ.hp.addBox (.cells X.cells))) (by cases hdst : o.dst <;> simpa [dstOk, hdst, St.withHp] using hd) (⟨_, hk, rfl⟩ : Rep1 G' _ (.ptr (.l σ.hp.nb) 0) _)

theorem avs_rep {vs : List Value} {xs : List AV} (h : avsOf vs = some xs) : Rep G w (.agg xs) (.agg vs.toArray) := by
  obtain ⟨h1, h2⟩ := avsOf_rep (L := G.L) (w := w) h
  exact rep_ofD (.agg h2 h1)
theorem alloc_sound (ok : TTOk P tt) {T : TypeId} {ty : TyI} (hty : tt T = some ty) {K : St → Prop} {o : Oper} (ho : o.op = .alloc T) {zs : List AV} (hz : avsOf ty.zero = some zs) (I : Inv E G σ pend a w) (h : boxA σ o.dst (.agg zs) K) :
    Goes P E G w σ pend K a o ((execOp a.eval o).run P w) := by
  obtain ⟨z, hz1, hz2⟩ := (ok _ _ hty).zero (P := P) w
  refine box_sound' (T := T) (v := .agg z.cells) I (by rw [show z.cells = ty.zero.toArray by rw [← hz2]]; exact avs_rep hz) ?_ h
  simp [execOp, ho, Instr.alloc, hz1, newVar, newRow, Value.cells]
theorem boxOp_sound (ok : TTOk P tt) {T : TypeId} {K : St → Prop} {o : Oper} {x : Operand} {X : AV} (ho : o.op = .box T x) (hX : Rep G w X (a.eval x)) (I : Inv E G σ pend a w) (h : boxA σ o.dst X K) :
    Goes P E G w σ pend K a o ((execOp a.eval o).run P w) := by
  refine box_sound' (T := T) (v := a.eval x) I hX ?_ h
  simp [execOp, ho, Instr.box, newVar, newRow]
end
end Go.Ax
