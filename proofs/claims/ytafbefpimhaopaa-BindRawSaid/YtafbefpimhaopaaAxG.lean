/- Ax, part G: operators, conversions, cuts, and all quiet operations: the machine does what part C says. No project text. -/
import Derived.Test.YtafbefpimhaopaaAxF
set_option linter.unusedVariables false
set_option linter.unusedSimpArgs false
set_option linter.unnecessarySimpa false
set_option linter.unusedSectionVars false
namespace Go.Ax

section
variable {P : Program} {tt : TT} {fb : Key → Option Box} {G : Gh} {w : World}

theorem guard_ok (op : BinOp) (T : TypeId) (x y : Operand) (a b : Value) (h : ∀ cs, a ≠ .agg cs) (h' : a ≠ .nilIface) : (eqGuard op T x y a b).run P w = .ok () w := by
  cases op <;> first | rfl | skip
  all_goals
    cases a <;> first | rfl | exact absurd rfl (h _) | exact absurd rfl h' | (cases b <;> rfl)
theorem guard_op (op : BinOp) (T : TypeId) (x y : Operand) (a b : Value) (h : op ≠ .eql) (h' : op ≠ .neq) : (eqGuard op T x y a b).run P w = .ok () w := by
  cases op <;> first | rfl | exact absurd rfl h | exact absurd rfl h'

theorem int_sound {op : BinOp} {k : IntKind} {T : TypeId} {a b : Int} {x : AV} (h : (intQ op k a b).holds fb (· = x)) :
    ∃ u, (binOp op T (.int k a) (.int k b)).run P w = .ok u w ∧ Rep G w x u := by
  cases op <;> simp only [intQ, QRes.holds] at h <;> first
    | exact h.elim
    | (subst h; refine ⟨_, ?_, lit_rep rfl⟩; simp [binOp, Op.intArith, Op.intCmp, Op.intBits]; done)
    | (obtain ⟨hb, rfl⟩ := h; have hb : b ≠ 0 := (by simpa using hb); refine ⟨_, ?_, lit_rep rfl⟩; simp [binOp, Op.intDiv, hb]; done)
theorem string_sound {op : BinOp} {T : TypeId} {a b : ByteArray} {x : AV} (h : (stringQ op a b).holds fb (· = x)) :
    ∃ u, (binOp op T (.string a) (.string b)).run P w = .ok u w ∧ Rep G w x u := by
  cases op <;> simp only [stringQ, QRes.holds] at h <;> first
    | exact h.elim
    | (subst h; refine ⟨_, ?_, lit_rep rfl⟩; simp [binOp, Op.stringOp]; done)
    | (obtain ⟨hb, rfl⟩ := h
       have hb := Nat.le_of_ble_eq_true hb
       have hb' : ¬ ((9223372036854775807 : Int) < (a.size : Int) + (b.size : Int)) := by omega
       refine ⟨_, ?_, lit_rep rfl⟩; simp [binOp, Op.stringOp, IntKind.max, IntKind.signed, IntKind.bits, hb']; done)
theorem shift_sound {op : BinOp} {k k' : IntKind} {T : TypeId} {a b : Int} (h0 : 0 ≤ b) :
    (binOp .shl T (.int k a) (.int k' b)).run P w = .ok (.int k (k.wrap (a * 2 ^ (min b.toNat k.bits)))) w ∧
    (binOp .shr T (.int k a) (.int k' b)).run P w = .ok (.int k (a.fdiv (2 ^ (min b.toNat k.bits)))) w := by
  have h : ¬ b < 0 := by omega
  constructor <;> simp [binOp, Op.shift, h]
theorem bool_sound {neq : Bool} {b : Bool} {T : TypeId} {u v : Value} (hn : ∀ k n, u ≠ .int k n) (hs : ∀ s, u ≠ .string s) (hf : ∀ k n, u ≠ .float k n) (hc : ∀ k n m, u ≠ .complex k n m) (h : (Op.equal T u v).run P w = .ok b w) :
    (binOp (bif neq then .neq else .eql) T u v).run P w = .ok (.bool (neg? neq b)) w := by
  cases neq <;> cases u <;> first
    | exact absurd rfl (hn _ _) | exact absurd rfl (hs _) | exact absurd rfl (hf _ _) | exact absurd rfl (hc _ _ _)
    | (simp [binOp, h, neg?]; done)

theorem equal_of {T : TypeId} {u v : Value} {b : Bool} (h : ∀ d, (Op.equalIn (d + 1) T u v).run P w = .ok b w) : (Op.equal T u v).run P w = .ok b w := h 9999

theorem eq_sound {T : TypeId} {ty : TyI} (ht : TyOk P T ty) {neq : Bool} {X Y x : AV} {u v : Value} {xo yo : Operand} (hX : Rep G w X u) (hY : Rep G w Y v) (h : (eqQ ty neq (isConst xo || isConst yo) X Y).holds fb (· = x)) :
    ∃ r, (do eqGuard (bif neq then .neq else .eql) T xo yo u v; binOp (bif neq then .neq else .eql) T u v : Sem Value).run P w = .ok r w ∧ Rep G w x r := by
  obtain ⟨d, hd, -, hs⟩ := ht.under
  unfold eqQ at h
  split at h
  · rename_i hsh
    rw [hsh] at hs; simp only [shapeOk] at hs; subst hs
    split at h
    · rename_i a b
      obtain ⟨rfl, -⟩ := rep_lit hX
      obtain ⟨rfl, -⟩ := rep_lit hY
      simp only [QRes.holds] at h; subst h
      refine ⟨_, ?_, lit_rep rfl⟩
      rw [Sem.run_bind, guard_ok _ _ _ _ _ _ (by simp) (by simp)]
      exact bool_sound (by simp) (by simp) (by simp) (by simp) (equal_of fun d => by simp [Op.equalIn, run_underlying hd])
    · simp [QRes.holds] at h
  · rename_i e hsh
    rw [hsh] at hs; simp only [shapeOk] at hs; subst hs
    split at h
    · rename_i s1 t items s2 items2
      obtain ⟨A2, n2, c2, rfl, hr2⟩ := slice_rep hY
      obtain ⟨A, n, c, rfl, hr⟩ := slice_rep hX
      have hA2 : A2 = none := by
        cases (show RepD G.L w (.slice s2 .nil items2) (.slice A2 n2 c2) from hY) with | slice _ _ _ _ _ _ _ ht => exact ht.1
      subst hA2
      have key : ∀ b, nilQ (.slice 0 t items) = some b → A.isNone = b := by
        intro b hb
        have h1 : Rep1 G w (.slice s1 t items) (.slice A n c) := hX
        cases t with
        | nil =>
          simp [nilQ] at hb; subst hb
          cases (show RepD G.L w (.slice s1 .nil items) (.slice A n c) from h1) with | slice _ _ _ _ _ _ _ ht => simp [ht.1]
        | zero =>
          simp [nilQ] at hb; subst hb
          cases (show RepD G.L w (.slice s1 .zero items) (.slice A n c) from h1) with | slice _ _ _ _ _ _ _ ht => have := ht.1; cases A <;> simp_all
        | dead =>
          cases items with
          | nil => simp [nilQ] at hb
          | cons y ys =>
            simp [nilQ] at hb; subst hb
            cases hr with | slice hn _ _ _ _ _ hA _ => obtain ⟨b, o, ha, _⟩ := hA (by simp [hn]); simp [ha]
        | empty =>
          cases items with
          | nil => simp [nilQ] at hb
          | cons y ys =>
            simp [nilQ] at hb; subst hb
            cases hr with | slice hn _ _ _ _ _ hA _ => obtain ⟨b, o, ha, _⟩ := hA (by simp [hn]); simp [ha]
        | loc i =>
          cases items with
          | nil => simp [nilQ] at hb
          | cons y ys =>
            simp [nilQ] at hb; subst hb
            cases hr with | slice hn _ _ _ _ _ hA _ => obtain ⟨b, o, ha, _⟩ := hA (by simp [hn]); simp [ha]
      split at h
      · rename_i b hb
        have hk := key b hb
        simp only [QRes.holds] at h; subst h
        refine ⟨_, ?_, lit_rep rfl⟩
        rw [Sem.run_bind, guard_ok _ _ _ _ _ _ (by simp) (by simp)]
        refine bool_sound (by simp) (by simp) (by simp) (by simp) ?_
        rw [← hk]
        refine equal_of fun d => ?_
        cases A <;> simp [Op.equalIn, run_underlying hd]
      · simp [QRes.holds] at h
    · simp [QRes.holds] at h
  · rename_i e hsh
    rw [hsh] at hs; simp only [shapeOk] at hs; subst hs
    split at h
    · obtain ⟨rfl, -⟩ := rep_lit hX
      obtain ⟨rfl, -⟩ := rep_lit hY
      simp only [QRes.holds] at h; subst h
      refine ⟨_, ?_, lit_rep rfl⟩
      rw [Sem.run_bind, guard_ok _ _ _ _ _ _ (by simp) (by simp)]
      exact bool_sound (by simp) (by simp) (by simp) (by simp) (equal_of fun d => by simp [Op.equalIn, run_underlying hd])
    · rename_i k off
      obtain ⟨rfl, -⟩ := rep_lit hY
      simp only [QRes.holds] at h; subst h
      have hp : ∃ a, u = .pointer (some a) := by
        cases k with
        | l i => obtain ⟨b, _, rfl⟩ := (show Rep1 G w (.ptr (.l i) off) u from hX); exact ⟨_, rfl⟩
        | o b => cases (show RepD G.L w (.ptr (.o b) off) u from hX); exact ⟨_, rfl⟩
      obtain ⟨a, rfl⟩ := hp
      refine ⟨_, ?_, lit_rep rfl⟩
      rw [Sem.run_bind, guard_ok _ _ _ _ _ _ (by simp) (by simp)]
      exact bool_sound (by simp) (by simp) (by simp) (by simp) (equal_of fun d => by simp [Op.equalIn, run_underlying hd])
    · rename_i cs
      obtain ⟨rfl, -⟩ := rep_lit hY
      simp only [QRes.holds] at h; subst h
      cases (show RepD G.L w (.eptr cs) u from hX) with
      | eptr =>
        refine ⟨_, ?_, lit_rep rfl⟩
        rw [Sem.run_bind, guard_ok _ _ _ _ _ _ (by simp) (by simp)]
        exact bool_sound (by simp) (by simp) (by simp) (by simp) (equal_of fun d => by simp [Op.equalIn, run_underlying hd])
    · simp [QRes.holds] at h
  · rename_i hsh
    rw [hsh] at hs; obtain ⟨ms, rfl⟩ := hs
    split at h
    · obtain ⟨rfl, -⟩ := rep_lit hX
      obtain ⟨rfl, -⟩ := rep_lit hY
      obtain ⟨hc, rfl⟩ := h
      have hg : (eqGuard (bif neq then .neq else .eql) T xo yo .nilIface .nilIface).run P w = .ok () w := by
        have : (isConst xo || isConst yo) = true := hc
        cases neq <;> cases xo <;> cases yo <;> first | rfl | (simp [isConst] at this)
      refine ⟨_, ?_, lit_rep rfl⟩
      rw [Sem.run_bind, hg]
      exact bool_sound (by simp) (by simp) (by simp) (by simp) (equal_of fun d => by simp [Op.equalIn, run_underlying hd])
    · rename_i t y
      obtain ⟨rfl, -⟩ := rep_lit hY
      simp only [QRes.holds] at h; subst h
      cases (show RepD G.L w (.iface t y) u from hX) with
      | iface hy =>
        refine ⟨_, ?_, lit_rep rfl⟩
        rw [Sem.run_bind, guard_ok _ _ _ _ _ _ (by simp) (by simp)]
        exact bool_sound (by simp) (by simp) (by simp) (by simp) (equal_of fun d => by simp [Op.equalIn, run_underlying hd])
    · simp [QRes.holds] at h
  · split at h
    · rename_i xs ys
      rw [rep_eq (by simp)] at hX hY
      obtain ⟨h1, vs, rfl, hvs⟩ := hX
      obtain ⟨h2, us, rfl, hus⟩ := hY
      obtain ⟨he, hlen, hfit, h⟩ := h
      have hlen := Nat.eq_of_beq_eq_true hlen
      split at h
      · rename_i b hb
        simp only [QRes.holds] at h; subst h
        obtain ⟨hq, hg⟩ := ht.eq he vs us b w (by rw [← hvs.length, hlen]) (fitsA_vals hvs hfit) (cellsEq_vals hvs hus hb)
        have hgd : (eqGuard (bif neq then .neq else .eql) T xo yo (.agg vs.toArray) (.agg us.toArray)).run P w = .ok () w := by
          cases neq <;> simp [eqGuard, hg]
        refine ⟨_, ?_, lit_rep rfl⟩
        rw [Sem.run_bind, hgd]
        exact bool_sound (by simp) (by simp) (by simp) (by simp) hq
      · simp [QRes.holds] at h
    · simp [QRes.holds] at h
end
end Go.Ax
