/- Ax, part H: all quiet operations: the machine does what part C says. No project text. -/
import Derived.Test.YtafbefpimhaopaaAxG
set_option linter.unusedVariables false
set_option linter.unusedSimpArgs false
set_option linter.unnecessarySimpa false
set_option linter.unusedSectionVars false
namespace Go.Ax

section
variable {P : Program} {tt : TT} {fb : Key → Option Box} {G : Gh} {w : World}

theorem bin_sound (ok : TTOk P tt) {op : BinOp} {T : TypeId} {X Y x : AV} {u v : Value} {xo yo : Operand} (hX : Rep G w X u) (hY : Rep G w Y v) (h : (binQ tt (isConst xo || isConst yo) op T X Y).holds fb (· = x)) :
    ∃ r, (do eqGuard op T xo yo u v; binOp op T u v : Sem Value).run P w = .ok r w ∧ Rep G w x r := by
  unfold binQ at h
  split at h
  · rename_i k a k' b
    obtain ⟨rfl, -⟩ := rep_lit hX
    obtain ⟨rfl, -⟩ := rep_lit hY
    have hg : (eqGuard op T xo yo (.int k a) (.int k' b)).run P w = .ok () w := guard_ok _ _ _ _ _ _ (by simp) (by simp)
    simp only [Sem.run_bind, hg, Result.andThen]
    split at h
    · obtain ⟨h0, h⟩ := h
      simp only [QRes.holds] at h; subst h
      exact ⟨_, (shift_sound (op := .shl) (of_decide_eq_true h0)).1, lit_rep rfl⟩
    · obtain ⟨h0, h⟩ := h
      simp only [QRes.holds] at h; subst h
      exact ⟨_, (shift_sound (op := .shl) (of_decide_eq_true h0)).2, lit_rep rfl⟩
    · obtain ⟨hk, h⟩ := h
      have hk := of_decide_eq_true hk
      subst hk
      exact int_sound h
  · rename_i a b
    obtain ⟨rfl, -⟩ := rep_lit hX
    obtain ⟨rfl, -⟩ := rep_lit hY
    have hg : (eqGuard op T xo yo (.string a) (.string b)).run P w = .ok () w := guard_ok _ _ _ _ _ _ (by simp) (by simp)
    simp only [Sem.run_bind, hg, Result.andThen]
    exact string_sound h
  · split at h
    · rename_i ty hty
      split at h
      · exact eq_sound (neq := false) (ok _ _ hty) hX hY h
      · exact eq_sound (neq := true) (ok _ _ hty) hX hY h
      · simp [QRes.holds] at h
    · simp [QRes.holds] at h

theorem un_sound {op : UnOp} {X x : AV} {u : Value} (hX : Rep G w X u) (h : (unQ op X).holds fb (· = x)) : ∃ r, (Op.unary op u).run P w = .ok r w ∧ Rep G w x r := by
  unfold unQ at h
  split at h
  · obtain ⟨rfl, -⟩ := rep_lit hX
    simp only [QRes.holds] at h; subst h
    refine ⟨_, ?_, lit_rep rfl⟩; simp [Op.unary, Op.intArith]
  · obtain ⟨rfl, -⟩ := rep_lit hX
    simp only [QRes.holds] at h; subst h
    rename_i k n
    refine ⟨_, ?_, lit_rep rfl⟩; cases hs : k.signed <;> simp [Op.unary, Op.intBits, hs]
  · obtain ⟨rfl, -⟩ := rep_lit hX
    simp only [QRes.holds] at h; subst h
    refine ⟨_, ?_, lit_rep rfl⟩; simp [Op.unary]
  · simp [QRes.holds] at h

theorem conv_sound (ok : TTOk P tt) {src dst : TypeId} {X x : AV} {u : Value} (hX : Rep G w X u) (h : (convQ tt src dst X).holds fb (· = x)) : ∃ r, (convert src dst u).run P w = .ok r w ∧ Rep G w x r := by
  unfold convQ at h
  split at h
  · rename_i ts td hts htd
    obtain ⟨ds, hs, -, -⟩ := (ok _ _ hts).under
    obtain ⟨d, hd, -, hsh⟩ := (ok _ _ htd).under
    split at h
    · rename_i k k' n hk
      rw [hk] at hsh; simp only [shapeOk] at hsh; subst hsh
      obtain ⟨rfl, -⟩ := rep_lit hX
      simp only [QRes.holds] at h; subst h
      refine ⟨_, ?_, lit_rep rfl⟩; simp [convert, run_underlying hs, run_underlying hd, Conv.intToInt]
    · rename_i s hk
      rw [hk] at hsh; simp only [shapeOk] at hsh; subst hsh
      obtain ⟨rfl, -⟩ := rep_lit hX
      simp only [QRes.holds] at h; subst h
      refine ⟨_, ?_, lit_rep rfl⟩; simp [convert, run_underlying hs, run_underlying hd]
    · simp [QRes.holds] at h
  · simp [QRes.holds] at h

/-- A bound of a cut. -/
def BndOk (G : Gh) (w : World) : Option AV → Option Value → Prop
  | none, none => True
  | some X, some v => Rep G w X v
  | _, _ => False
theorem bnd_sound {lo : Option AV} {v : Option Value} {d : Int} {l : Int} (hb : BndOk G w lo v) (h : bnd lo d = some l) : (v = none ∧ l = d) ∨ ∃ k, v = some (.int k l) := by
  unfold bnd at h
  split at h
  · cases v with
    | none => simp at h; exact .inl ⟨rfl, h.symm⟩
    | some v => exact hb.elim
  · cases v with
    | none => exact hb.elim
    | some v => rename_i k n; obtain ⟨rfl, -⟩ := rep_lit hb; simp at h; subst h; exact .inr ⟨k, rfl⟩
  · simp at h

theorem bounds_run {isS : Bool} {len cap : Nat} {lv hv : Option Value} {l h : Int} (hl : (lv = none ∧ l = 0) ∨ ∃ k, lv = some (.int k l)) (hh : (hv = none ∧ h = len) ∨ ∃ k, hv = some (.int k h)) (h0 : 0 ≤ l) (h1 : l ≤ h) (h2 : h ≤ len) (hc : len ≤ cap) :
    (Instr.sliceBounds isS len cap lv hv none).run P w = .ok (l.toNat, h.toNat, cap) w := by
  have a1 : h ≤ (cap : Int) := by omega
  have a2 : 0 ≤ h := by omega
  have a3 : ((h.toNat : Nat) : Int) = h := by omega
  rcases hl with ⟨rfl, rfl⟩ | ⟨k, rfl⟩ <;> rcases hh with ⟨rfl, rfl⟩ | ⟨k', rfl⟩ <;> simp [Instr.sliceBounds, Instr.sliceBound, asIntOf, h0, h1, a1, a2, a3] <;> omega

theorem flat_take {sz : Nat} : ∀ {items : List AV} (m : Nat), (∀ y, y ∈ items → y.cells.length = sz) → flat (items.take m) = (flat items).take (m * sz)
  | [], m, _ => by simp [flat]
  | y :: ys, 0, _ => by simp [flat]
  | y :: ys, m + 1, hs => by
    have ih := flat_take (items := ys) m (fun z hz => hs z (by simp [hz]))
    have hy := hs y (by simp)
    simp only [List.take_succ_cons, flat, List.flatMap_cons] at ih ⊢
    rw [ih, List.take_append, hy, Nat.succ_mul, List.take_of_length_le (l := y.cells) (by omega), Nat.add_sub_cancel]
theorem flat_drop {sz : Nat} : ∀ {items : List AV} (m : Nat), (∀ y, y ∈ items → y.cells.length = sz) → flat (items.drop m) = (flat items).drop (m * sz)
  | [], m, _ => by simp [flat]
  | y :: ys, 0, _ => by simp [flat]
  | y :: ys, m + 1, hs => by
    have ih := flat_drop (items := ys) m (fun z hz => hs z (by simp [hz]))
    have hy := hs y (by simp)
    simp only [List.drop_succ_cons, flat, List.flatMap_cons] at ih ⊢
    rw [ih, List.drop_append, hy, Nat.succ_mul, List.drop_of_length_le (l := y.cells) (by omega), List.nil_append, Nat.add_sub_cancel]
theorem flat_cut {sz : Nat} {items : List AV} {k m : Nat} (hs : ∀ y, y ∈ items → y.cells.length = sz) : flat ((items.take m).drop k) = ((flat items).take (m * sz)).drop (k * sz) := by
  rw [flat_drop k (fun y hy => hs y (List.mem_of_mem_take hy)), flat_take m hs]
theorem slice_sound (ok : TTOk P tt) {T : TypeId} {ty : TyI} (ht : TyOk P T ty) {X x : AV} {u : Value} {lo hi : Option AV} {lv hv : Option Value} (hX : Rep G w X u) (hlo : BndOk G w lo lv) (hhi : BndOk G w hi hv)
    (h : (sliceQ tt ty X lo hi).holds fb (· = x)) : ∃ r, (Instr.sliceAt T u lv hv none).run P w = .ok r w ∧ Rep G w x r := by
  obtain ⟨d, hd, -, hs⟩ := ht.under
  unfold sliceQ at h
  split at h
  · rename_i s
    obtain ⟨rfl, -⟩ := rep_lit hX
    split at h
    · rename_i l hh hsh hl hhh
      rw [hsh] at hs; simp only [shapeOk] at hs; subst hs
      obtain ⟨h0, h1, h2, rfl⟩ := h
      have hrun := bounds_run (P := P) (w := w) (isS := false) (bnd_sound hlo hl) (bnd_sound hhi hhh) (of_decide_eq_true h0) (of_decide_eq_true h1) (of_decide_eq_true h2) (Nat.le_refl _)
      refine ⟨_, ?_, lit_rep rfl⟩
      simp [Instr.sliceAt, run_underlying hd, Instr.slice, hrun]
    · simp [QRes.holds] at h
  · rename_i sz t items
    obtain ⟨A, n, c, rfl, hr⟩ := slice_rep hX
    split at h
    · rename_i e l hh hsh hl hhh
      rw [hsh] at hs; simp only [shapeOk] at hs; subst hs
      split at h
      · rename_i te hte
        obtain ⟨he, h0, h1, h2, rfl⟩ := h
        obtain rfl : sz = te.size := Nat.eq_of_beq_eq_true he
        have h0 := of_decide_eq_true h0
        have h1 := of_decide_eq_true h1
        have h2 := of_decide_eq_true h2
        cases hr with
        | slice hn hc hm hs1 h11 hr hA htk =>
          rename_i vs
          subst hn
          have hrun := bounds_run (P := P) (w := w) (isS := true) (bnd_sound hlo hl) (bnd_sound hhi hhh) h0 h1 h2 hc
          have hsz := (ok _ _ hte).sizeOf (P := P) w
          refine ⟨.slice (if c = l.toNat then A else A.map (·.add (l.toNat * te.size))) (hh.toNat - l.toNat) (c - l.toNat), by simp [Instr.sliceAt, run_underlying hd, Instr.slice, hrun, hsz], rep_ofD ?_⟩
          have hfl := flat_length hs1
          have hlen := hr.all2.length
          have hz := flat_cut (k := l.toNat) (m := hh.toNat) hs1
          have hall := (hr.all2.take (hh.toNat * te.size)).drop (l.toNat * te.size)
          rw [← hz] at hall
          refine .slice (vs := (vs.take (hh.toNat * te.size)).drop (l.toNat * te.size)) (by simp; omega) (by omega) (by omega) (fun z hz => hs1 z (List.mem_of_mem_take (List.mem_of_mem_drop hz))) ?_ (.of_all2 hall) ?_ trivial
          · intro z hz'; rw [hz] at hz'; exact h11 z (List.mem_of_mem_take (List.mem_of_mem_drop hz'))
          · intro hne
            have hcl : ¬ (c = l.toNat) := by clear hA; omega
            have hne' : items.length ≠ 0 := by clear hA; omega
            obtain ⟨b, o, rfl, hL, hcell⟩ := hA hne'
            rw [if_neg hcl]
            refine ⟨b, o + l.toNat * te.size, by simp [addr_add], ?_, (hcell.take _).drop _⟩
            have hb : hh.toNat * te.size ≤ items.length * te.size := Nat.mul_le_mul_right _ (by clear hA hcell; omega)
            have hb2 : l.toNat * te.size ≤ hh.toNat * te.size := Nat.mul_le_mul_right _ (by clear hA hcell; omega)
            have hv : vs.length = items.length * te.size := by rw [← hlen, hfl]
            simp only [List.length_drop, List.length_take]
            rw [hv] at hL ⊢
            clear hcell hall hz hr hlen hfl hv hrun hsz
            generalize hh.toNat * te.size = p at *
            generalize l.toNat * te.size = q at *
            generalize items.length * te.size = r at *
            omega
      · simp [QRes.holds] at h
    · simp [QRes.holds] at h
  · simp [QRes.holds] at h
theorem zero_val {lo : Option AV} {v : Option Value} (hb : BndOk G w lo v) (h : isZero lo = true) : (lo = none ∧ v = none) ∨ ∃ k, lo.isSome = true ∧ v = some (.int k 0) := by
  unfold isZero at h
  split at h
  · cases v with
    | none => exact .inl ⟨rfl, rfl⟩
    | some v => exact hb.elim
  · cases v with
    | none => exact hb.elim
    | some v =>
      obtain ⟨rfl, -⟩ := rep_lit hb
      have := of_decide_eq_true h
      subst this
      exact .inr ⟨_, rfl, rfl⟩
  · simp at h
theorem slice0_sound (ok : TTOk P tt) {T : TypeId} {ty : TyI} (ht : TyOk P T ty) {X x : AV} {u : Value} {lo hi mx : Option AV} {lv hv mv : Option Value} (hX : Rep G w X u) (hlo : BndOk G w lo lv) (hhi : BndOk G w hi hv) (hmx : BndOk G w mx mv)
    (h : (slice0Q tt ty X lo hi mx).holds fb (· = x)) : ∃ r, (Instr.sliceAt T u lv hv mv).run P w = .ok r w ∧ Rep G w x r := by
  obtain ⟨d, hd, -, hs⟩ := ht.under
  unfold slice0Q at h
  split at h
  · rename_i sz t items e hsh
    split at h
    · rename_i te hte
      rw [hsh] at hs; simp only [shapeOk] at hs; subst hs
      obtain ⟨hc, rfl⟩ := h
      simp only [Bool.and_eq_true] at hc
      obtain ⟨⟨⟨⟨c1, c2⟩, c3⟩, c4⟩, c5⟩ := hc
      obtain ⟨A, n, c, rfl, hr⟩ := slice_rep hX
      have hsz := (ok _ _ hte).sizeOf (P := P) w
      have e2 : ∃ k, hv = some (.int k 0) := by
        rcases zero_val hhi c2 with ⟨rfl, -⟩ | ⟨k, -, h⟩
        · simp at c3
        · exact ⟨k, h⟩
      have e3 : ∃ k, mv = some (.int k 0) := by
        rcases zero_val hmx c4 with ⟨rfl, -⟩ | ⟨k, -, h⟩
        · simp at c5
        · exact ⟨k, h⟩
      obtain ⟨k2, rfl⟩ := e2
      obtain ⟨k3, rfl⟩ := e3
      refine ⟨.slice A 0 0, ?_, rep_ofD (.slice (vs := []) rfl (Nat.le_refl _) (Nat.zero_le _) (by simp) (by simp [flat]) .nil (by simp) rfl)⟩
      rcases zero_val hlo c1 with ⟨-, rfl⟩ | ⟨k, -, rfl⟩
      · simp [Instr.sliceAt, run_underlying hd, Instr.slice, Instr.sliceBounds, Instr.sliceBound, asIntOf, hsz]
      · simp [Instr.sliceAt, run_underlying hd, Instr.slice, Instr.sliceBounds, Instr.sliceBound, asIntOf, hsz]
    · simp [QRes.holds] at h
  · simp [QRes.holds] at h
theorem oneOpd_ok {env : List (Nat × AV)} {a : Act} {lo : Option Operand} {l : Option AV} (h : oneOpd (opd env) lo = some l) (R : ∀ y X, lo = some y → opd env y = some X → Rep G w X (a.eval y)) : BndOk G w l (lo.map a.eval) := by
  unfold oneOpd at h
  split at h
  · simp at h; subst h; trivial
  · split at h
    · rename_i X hX; simp at h; subst h; exact R _ _ rfl hX
    · simp at h
def readsX (ρ : Operand → Option AV) : Op → List AV
  | .load _ x => (ρ x).toList
  | .indexAddr _ x _ => (ρ x).toList
  | _ => []

theorem vars_rep {env : List (Nat × AV)} {a : Act} : ∀ {l : List Operand} {is : List Nat}, (∀ y X, y ∈ l → opd env y = some X → Rep G w X (a.eval y)) → varsOf (opd env) l = some is →
    All2 (fun i u => ∃ b, G.κ i = some b ∧ u = .pointer (some ⟨b, 0, none⟩)) is (l.map a.eval)
  | [], is, _, h => by simp [varsOf] at h; subst h; exact .nil
  | y :: r, is, R, h => by
    simp only [varsOf] at h
    split at h
    · rename_i i R' hy hr
      simp at h; subst h
      obtain ⟨b, hk, hv⟩ := (show Rep1 G w (.ptr (.l i) 0) _ from R y _ (by simp) hy)
      exact .cons ⟨b, hk, hv⟩ (vars_rep (fun y X hy => R y X (by simp [hy])) hr)
    · simp at h
theorem qop_sound (ok : TTOk P tt) {env : List (Nat × AV)} {o : Oper} {x : AV} {a : Act} (h : (qop tt (opd env) fb o.op).holds fb (· = x))
    (he : ∀ t X, .tmp t ∈ o.op.operands → look t env = some X → Rep G w X (a.tmps.getD t undef)) (hb : ∀ X, X ∈ readsX (opd env) o.op → Boxed fb G w X) :
    ∃ v, (execOp a.eval o).run P w = .ok (.value v) w ∧ Rep G w x v := by
  have R : ∀ y X, y ∈ o.op.operands → opd env y = some X → Rep G w X (a.eval y) := fun y X hy hX => opd_rep (fun t X' e h' => by subst e; exact he t X' hy h') hX
  cases hop : o.op with
  | move y =>
    simp only [hop, qop] at h R
    split at h
    · rename_i X hX; simp only [QRes.holds] at h; subst h
      exact ⟨_, by simp [execOp, hop], R y _ (by simp [Op.operands]) hX⟩
    · simp [QRes.holds] at h
  | assign y =>
    simp only [hop, qop] at h R
    split at h
    · rename_i X hX; simp only [QRes.holds] at h; subst h
      exact ⟨_, by simp [execOp, hop], R y _ (by simp [Op.operands]) hX⟩
    · simp [QRes.holds] at h
  | pick c y z =>
    simp only [hop, qop] at h R
    split at h
    · rename_i t A B hc hA hB
      have h1 := R c _ (by simp [Op.operands]) hc
      obtain ⟨h1, -⟩ := rep_lit h1
      cases t
      · simp only [QRes.holds, Br] at h; subst h
        exact ⟨_, by simp [execOp, hop, h1, asBool], R z _ (by simp [Op.operands]) hB⟩
      · simp only [QRes.holds, Br] at h; subst h
        exact ⟨_, by simp [execOp, hop, h1, asBool], R y _ (by simp [Op.operands]) hA⟩
    · simp [QRes.holds] at h
  | load T y =>
    simp only [hop, qop] at h R hb
    split at h
    · rename_i ty X hty hX
      obtain ⟨u, hu, hx⟩ := load_sound (ok _ _ hty) (R y _ (by simp [Op.operands]) hX) (hb X (by simp [readsX, hX])) h
      exact ⟨u, by simp [execOp, hop, hu], hx⟩
    · simp [QRes.holds] at h
  | nilCheck y =>
    simp only [hop, qop] at h R
    split at h <;> first | (simp [QRes.holds] at h; done) | skip
    · rename_i k off hX; simp only [QRes.holds] at h; subst h
      have h1 := R y _ (by simp [Op.operands]) hX
      refine ⟨_, ?_, h1⟩
      cases k with
      | l i => obtain ⟨b, _, hv⟩ := (show Rep1 G w (.ptr (.l i) off) _ from h1); simp [execOp, hop, hv]
      | o b => generalize hv : a.eval y = v at h1; cases (show RepD G.L w (.ptr (.o b) off) v from h1); simp [execOp, hop, hv]
    · rename_i cs hX; simp only [QRes.holds] at h; subst h
      have h1 := R y _ (by simp [Op.operands]) hX
      refine ⟨_, ?_, h1⟩
      generalize hv : a.eval y = v at h1; cases (show RepD G.L w (.eptr cs) v from h1); simp [execOp, hop, hv]
    · rename_i k sz i off hX; simp only [QRes.holds] at h; subst h
      have h1 := R y _ (by simp [Op.operands]) hX
      refine ⟨_, ?_, h1⟩
      obtain ⟨b, _, hv⟩ := (show Rep1 G w (.rptr k sz i off) _ from h1); simp [execOp, hop, hv]
  | binOp op T y z T2 =>
    simp only [hop, qop] at h R
    split at h
    · rename_i X Y hX hY
      obtain ⟨r, hr, hx⟩ := bin_sound ok (xo := y) (yo := z) (R y _ (by simp [Op.operands]) hX) (R z _ (by simp [Op.operands]) hY) h
      exact ⟨r, by simp only [execOp, hop]; rw [Sem.run_bind, hr]; rfl, hx⟩
    · simp [QRes.holds] at h
  | unOp op T y =>
    simp only [hop, qop] at h R
    split at h
    · rename_i X hX
      obtain ⟨r, hr, hx⟩ := un_sound (P := P) (R y _ (by simp [Op.operands]) hX) h
      exact ⟨r, by simp [execOp, hop, hr], hx⟩
    · simp [QRes.holds] at h
  | convert src dst y =>
    simp only [hop, qop] at h R
    split at h
    · rename_i X hX
      obtain ⟨r, hr, hx⟩ := conv_sound ok (R y _ (by simp [Op.operands]) hX) h
      exact ⟨r, by simp [execOp, hop, hr], hx⟩
    · simp [QRes.holds] at h
  | fieldAddr T y f =>
    simp only [hop, qop] at h R
    split at h
    · rename_i ty X hty hX
      obtain ⟨r, hr, hx⟩ := fieldAddr_sound ok (ok _ _ hty) (R y _ (by simp [Op.operands]) hX) h
      exact ⟨r, by simp [execOp, hop, hr], hx⟩
    · simp [QRes.holds] at h
  | field T y f =>
    simp only [hop, qop] at h R
    split at h
    · rename_i ty X hty hX
      obtain ⟨r, hr, hx⟩ := field_sound ok (ok _ _ hty) (R y _ (by simp [Op.operands]) hX) h
      exact ⟨r, by simp [execOp, hop, hr], hx⟩
    · simp [QRes.holds] at h
  | indexAddr T y i =>
    simp only [hop, qop] at h R hb
    split at h
    · rename_i ty X k n hty hX hi
      have h1 := R i _ (by simp [Op.operands]) hi
      obtain ⟨h1, -⟩ := rep_lit h1
      obtain ⟨r, hr, hx⟩ := indexAddr_sound ok (ok _ _ hty) (k0 := k) (R y _ (by simp [Op.operands]) hX) (hb X (by simp [readsX, hX])) h
      exact ⟨r, by simp [execOp, hop, h1, hr], hx⟩
    · simp [QRes.holds] at h
  | index T y i =>
    simp only [hop, qop] at h R
    split at h
    · rename_i ty X k n hty hX hi
      have h1 := R i _ (by simp [Op.operands]) hi
      obtain ⟨h1, -⟩ := rep_lit h1
      obtain ⟨r, hr, hx⟩ := index_sound ok (ok _ _ hty) (k0 := k) (R y _ (by simp [Op.operands]) hX) h
      exact ⟨r, by simp [execOp, hop, h1, hr], hx⟩
    · simp [QRes.holds] at h
  | slice T y lo hi mx =>
    cases mx with
    | some m =>
      simp only [hop, qop] at h R
      split at h
      · rename_i ty X l hh mm hty hX hl hhh hm
        obtain ⟨r, hr, hx⟩ := slice0_sound ok (ok _ _ hty) (R y _ (by simp [Op.operands]) hX) (oneOpd_ok (a := a) hl (fun z Z e hz => R z Z (by subst e; simp [Op.operands]) hz)) (oneOpd_ok (a := a) hhh (fun z Z e hz => R z Z (by subst e; simp [Op.operands]) hz))
          (show BndOk G w (some mm) (some (a.eval m)) from R m _ (by simp [Op.operands]) hm) h
        exact ⟨r, by cases lo <;> cases hi <;> simp only [Option.map_none, Option.map_some] at hr <;> simp [execOp, hop, hr], hx⟩
      · simp [QRes.holds] at h
    | none =>
      cases lo with
      | none =>
        cases hi with
        | none =>
          simp only [hop, qop] at h R
          split at h
          · rename_i ty X hty hX
            obtain ⟨r, hr, hx⟩ := slice_sound ok (ok _ _ hty) (lo := none) (hi := none) (lv := none) (hv := none) (R y _ (by simp [Op.operands]) hX) trivial trivial h
            exact ⟨r, by simp [execOp, hop, hr], hx⟩
          · simp [QRes.holds] at h
        | some hi =>
          simp only [hop, qop] at h R
          split at h
          · rename_i ty X hty hX
            split at h
            · rename_i H hH
              obtain ⟨r, hr, hx⟩ := slice_sound ok (ok _ _ hty) (lo := none) (hi := some H) (lv := none) (hv := some (a.eval hi)) (R y _ (by simp [Op.operands]) hX) trivial (R hi _ (by simp [Op.operands]) hH) h
              exact ⟨r, by simp [execOp, hop, hr], hx⟩
            · simp [QRes.holds] at h
          · simp [QRes.holds] at h
      | some lo =>
        cases hi with
        | none =>
          simp only [hop, qop] at h R
          split at h
          · rename_i ty X hty hX
            split at h
            · rename_i H hH
              obtain ⟨r, hr, hx⟩ := slice_sound ok (ok _ _ hty) (lo := some H) (hi := none) (lv := some (a.eval lo)) (hv := none) (R y _ (by simp [Op.operands]) hX) (R lo _ (by simp [Op.operands]) hH) trivial h
              exact ⟨r, by simp [execOp, hop, hr], hx⟩
            · simp [QRes.holds] at h
          · simp [QRes.holds] at h
        | some hi =>
          simp only [hop, qop] at h R
          split at h
          · rename_i ty X hty hX
            split at h
            · rename_i Lo H hLo hH
              obtain ⟨r, hr, hx⟩ := slice_sound ok (ok _ _ hty) (lo := some Lo) (hi := some H) (lv := some (a.eval lo)) (hv := some (a.eval hi)) (R y _ (by simp [Op.operands]) hX) (R lo _ (by simp [Op.operands]) hLo) (R hi _ (by simp [Op.operands]) hH) h
              exact ⟨r, by simp [execOp, hop, hr], hx⟩
            · simp [QRes.holds] at h
          · simp [QRes.holds] at h
  | extract y i =>
    simp only [hop, qop] at h R
    split at h
    · rename_i cs hX
      split at h
      · rename_i z hz; simp only [QRes.holds] at h; subst h
        obtain ⟨vs, hv, hr⟩ := (show ∃ vs : List Value, a.eval y = .tuple vs.toArray ∧ All2 (Rep2 G w) cs vs from R y _ (by simp [Op.operands]) hX)
        obtain ⟨v, hv2, hx⟩ := hr.get hz
        have hnt : ∀ cs, z ≠ .tup cs ∨ True := fun _ => .inr trivial
        refine ⟨v, by simp [execOp, hop, hv, Instr.extract, hv2], ?_⟩
        cases z <;> first | exact hx | exact rep_ofD hx
      · simp [QRes.holds] at h
    · simp [QRes.holds] at h
  | call c =>
    obtain ⟨callee, args, ts⟩ := c
    cases callee with
    | builtin b =>
      cases b with
      | len =>
        simp only [hop, qop] at h R
        split at h
        · rename_i y T hy hT
          split at h
          · rename_i X ty hX hty
            obtain ⟨d, hd, -, hs⟩ := (ok _ _ hty).under
            have ea : args = #[y] := by cases args; simp_all
            have et : ts = #[T] := by cases ts; simp_all
            subst ea; subst et
            have h1 := R y _ (by simp [Op.operands, Call.operands]) hX
            split at h
            · rename_i hsh; rw [hsh] at hs; simp only [shapeOk] at hs; subst hs
              unfold lenS at h
              split at h
              · obtain ⟨hv, -⟩ := rep_lit h1
                simp only [QRes.holds] at h; subst h
                exact ⟨_, by simp [execOp, hop, resolve, invoke, builtin, Builtin.len_, run_underlying hd, hv, goInt], lit_rep rfl⟩
              · simp [QRes.holds] at h
            · rename_i e hsh; rw [hsh] at hs; simp only [shapeOk] at hs; subst hs
              unfold lenL at h
              split at h
              · rename_i sz t items
                obtain ⟨A, n, cp, hv, hr⟩ := slice_rep h1
                cases hr with
                | slice hn hc hm hs1 h11 hr hA htk =>
                  simp only [QRes.holds] at h; subst h
                  exact ⟨_, by simp [execOp, hop, resolve, invoke, builtin, Builtin.len_, run_underlying hd, hv, goInt, hn], lit_rep rfl⟩
              · rename_i k n
                obtain ⟨b, hk, hlc, hcm, hv⟩ := (show Rep1 G w (.row k n) _ from h1)
                simp only [QRes.holds] at h; subst h
                exact ⟨_, by simp [execOp, hop, resolve, invoke, builtin, Builtin.len_, run_underlying hd, hv, goInt], lit_rep rfl⟩
              · simp [QRes.holds] at h
            · simp [QRes.holds] at h
          · simp [QRes.holds] at h
        · simp [QRes.holds] at h
      | min =>
        simp only [hop, qop] at h R
        split at h
        · rename_i y z hy
          split at h
          · rename_i X Y hX hY
            have ea : args = #[y, z] := by cases args; simp_all
            subst ea
            have h1 := R y _ (by simp [Op.operands, Call.operands]) hX
            have h2 := R z _ (by simp [Op.operands, Call.operands]) hY
            unfold minQ at h
            split at h
            · obtain ⟨hv, -⟩ := rep_lit h1
              obtain ⟨hv2, -⟩ := rep_lit h2
              simp only [QRes.holds] at h; subst h
              refine ⟨_, ?_, lit_rep rfl⟩
              simp [execOp, hop, resolve, invoke, builtin, Builtin.min_, Builtin.min2, hv, hv2]
              rw [Int.min_def]; split <;> split <;> omega
            · simp [QRes.holds] at h
          · simp [QRes.holds] at h
        · simp [QRes.holds] at h
      | max =>
        simp only [hop, qop] at h R
        split at h
        · rename_i y z hy
          split at h
          · rename_i X Y hX hY
            have ea : args = #[y, z] := by cases args; simp_all
            subst ea
            have h1 := R y _ (by simp [Op.operands, Call.operands]) hX
            have h2 := R z _ (by simp [Op.operands, Call.operands]) hY
            unfold maxQ at h
            split at h
            · obtain ⟨hv, -⟩ := rep_lit h1
              obtain ⟨hv2, -⟩ := rep_lit h2
              simp only [QRes.holds] at h; subst h
              refine ⟨_, ?_, lit_rep rfl⟩
              simp [execOp, hop, resolve, invoke, builtin, Builtin.max_, Builtin.max2, hv, hv2]
              rw [Int.max_def]; split <;> split <;> omega
            · simp [QRes.holds] at h
          · simp [QRes.holds] at h
        · simp [QRes.holds] at h
      | _ => simp [hop, qop, QRes.holds] at h
    | _ => simp [hop, qop, QRes.holds] at h
  | makeFunc fn f c =>
    simp only [hop, qop] at h
    split at h
    · rename_i hf hc
      simp only [QRes.holds] at h; subst h
      have ef : f = #[] := by cases f; simp_all
      have ec : c = #[] := by cases c; simp_all
      subst ef; subst ec
      exact ⟨.func fn #[] #[], by simp [execOp, hop, Instr.makeFunc], rep_ofD (.func (fs := []) (cs := []) .nil .nil)⟩
    · rename_i hf hc
      have ef : f = #[] := by cases f; simp_all
      subst ef
      split at h
      · rename_i is his
        simp only [QRes.holds] at h; subst h
        refine ⟨.func fn #[] (c.toList.map a.eval).toArray, by simp [execOp, hop, Instr.makeFunc]; apply Array.ext'; simp, ?_⟩
        exact ⟨_, rfl, vars_rep (fun y X hy hX => R y X (by simp [hop, Op.operands]; simpa using hy) hX) his⟩
      · simp [QRes.holds] at h
    · simp [QRes.holds] at h
  | _ => simp [hop, qop, QRes.holds] at h
end
end Go.Ax
