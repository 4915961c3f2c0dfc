/- Ax, part P: slices that are made, append, and all operations. No project text. -/
import Derived.Test.YtafbefpimhaopaaAxO
set_option linter.unusedVariables false
set_option linter.unusedSimpArgs false
set_option linter.unnecessarySimpa false
set_option linter.unusedSectionVars false
namespace Go.Ax
section
variable {P : Program} {tt : TT} {E : Entry} {G : Gh} {σ : St} {pend : List Nat} {a : Act} {w : World}

/-- A row's number is given, the machine hasn't made it. -/
theorem HInv.moveTok {hp : Hp} (H : HInv E G hp w) (i : Nat) : HInv E G (hp.moveTok i) w := by
  have hn : ∀ j x, j ∈ (hp.moveTok i).alive → G.τ j = some x → j ∈ hp.alive := by
    intro j x hj hx
    rcases mem_move hj with rfl | ⟨hj, _⟩
    · rw [H.nt _ (Nat.le_refl _)] at hx; simp at hx
    · exact hj
  refine ⟨H.boxes, ⟨fun j hj x hx => H.tips.tip j (hn j x hj hx) x hx, fun j j' hj hj' hne x y hx hy => H.tips.sep j j' (hn j x hj hx) (hn j' y hj' hy) hne x y hx hy,
    fun j hj x hx => H.tips.box j (hn j x hj hx) x hx⟩, H.frame, H.kap, H.nb, fun j hj => H.nt j (by simp [Hp.moveTok] at hj; omega), fun j hj => ?_, H.bk⟩
  rcases mem_move hj with rfl | ⟨hj, _⟩
  · simp [Hp.moveTok]
  · have := H.al j hj; simp [Hp.moveTok]; omega
/-- The row's new number names what the old one named, or what has no room. -/
theorem HInv.sameTok {hp : Hp} (H : HInv E G hp w) {i : Nat} {x : TokI} (hx : x.n = x.c ∨ (i ∈ hp.alive ∧ G.τ i = some x)) :
    HInv E ⟨G.κ, upd G.τ hp.nt (some x), G.L, G.ν⟩ (hp.moveTok i) w ∧ GLater G w ⟨G.κ, upd G.τ hp.nt (some x), G.L, G.ν⟩ w := by
  have lt : GLater G w ⟨G.κ, upd G.τ hp.nt (some x), G.L, G.ν⟩ w := by
    refine ⟨fun _ _ h => h, fun j y hj => ?_, .refl _ _, fun _ _ _ => rfl⟩
    have : j ≠ hp.nt := by intro h; subst h; rw [H.nt _ (Nat.le_refl _)] at hj; simp at hj
    show upd G.τ hp.nt _ j = _
    rw [upd_ne _ _ this]; exact hj
  have src : ∀ j y, j ∈ (hp.moveTok i).alive → upd G.τ hp.nt (some x) j = some y → y.n ≠ y.c → ∃ j', j' ∈ hp.alive ∧ G.τ j' = some y ∧ (j = hp.nt ∧ j' = i ∨ j = j' ∧ j' ≠ i) := by
    intro j y hj hy hne
    rcases mem_move hj with rfl | ⟨hj, hji⟩
    · simp at hy; subst hy
      rcases hx with hx | ⟨h1, h2⟩
      · exact absurd hx hne
      · exact ⟨i, h1, h2, .inl ⟨rfl, rfl⟩⟩
    · have hjn : j ≠ hp.nt := by have := H.al j hj; omega
      rw [upd_ne _ _ hjn] at hy
      exact ⟨j, hj, hy, .inr ⟨rfl, hji⟩⟩
  have tipL : ∀ y, Tip G w y → Tip ⟨G.κ, upd G.τ hp.nt (some x), G.L, G.ν⟩ w y := fun y h => h
  refine ⟨⟨⟨fun k bx b hf hk => (H.boxes.rel k bx b hf hk).later lt rfl rfl, H.boxes.sep, H.boxes.mine⟩, ⟨?_, ?_, ?_⟩, ⟨H.frame.os, H.frame.tape, H.frame.output, H.frame.size, H.frame.old, H.frame.top⟩, H.kap, H.nb, ?_, (H.moveTok i).al, H.bk⟩, lt⟩
  · intro j hj y hy
    by_cases hne : y.n = y.c
    · exact .inl hne
    · obtain ⟨j', h1, h2, _⟩ := src j y hj hy hne
      exact tipL _ (H.tips.tip j' h1 y h2)
  · intro j j' hj hj' hne y z hy hz ny nz a a' ha ha'
    obtain ⟨k, h1, h2, h3⟩ := src j y hj hy ny
    obtain ⟨k', h1', h2', h3'⟩ := src j' z hj' hz nz
    refine H.tips.sep k k' h1 h1' ?_ y z h2 h2' ny nz a a' ha ha'
    rcases h3 with ⟨e1, e2⟩ | ⟨e1, e2⟩ <;> rcases h3' with ⟨e3, e4⟩ | ⟨e3, e4⟩ <;> omega
  · intro j hj y hy hne a ha
    obtain ⟨j', h1, h2, _⟩ := src j y hj hy hne
    exact H.tips.box j' h1 y h2 hne a ha
  · intro j hj
    simp only [Hp.moveTok] at hj
    have : j ≠ hp.nt := by omega
    show upd G.τ hp.nt _ j = none
    rw [upd_ne _ _ this]; exact H.nt j (by omega)
/-- A block that nobody names. -/
theorem HInv.junk {hp : Hp} (H : HInv E G hp w) (o : Obj) : HInv E G hp (w.alloc o) ∧ GLater G w G (w.alloc o) := by
  have lt : GLater G w G (w.alloc o) := ⟨fun _ _ h => h, fun _ _ h => h, later_alloc (fun _ _ => rfl) (fun b hb => H.frame.top b hb), fun _ _ _ => rfl⟩
  refine ⟨⟨⟨fun k bx b hf hk => ?_, H.boxes.sep, fun k bx b hf hk => ?_⟩, ⟨fun j hj x hx => (H.tips.tip j hj x hx).alloc (fun _ _ => rfl), H.tips.sep, H.tips.box⟩, H.frame.alloc (fun _ _ => rfl), fun i b hi => ?_, H.nb, H.nt, H.al, H.bk⟩, lt⟩
  · have hm := (H.boxes.mine k bx b hf hk).1
    exact (H.boxes.rel k bx b hf hk).later lt (by rw [alloc_block, if_neg (Nat.ne_of_lt hm)]) rfl
  · have := H.boxes.mine k bx b hf hk; simp; omega
  · have := H.kap i b hi; simp; omega

theorem dst_with {d : Option Tmp} (hp : Hp) (h : dstOk σ d = true) : dstOk (σ.withHp hp) d = true := by
  cases d with
  | none => rfl
  | some d => exact h

theorem buildSlice_sound (ok : TTOk P tt) {T : TypeId} {ty : TyI} (hty : tt T = some ty) {K : St → Prop} {o : Oper} {n : Nat} {parts : Array (Nat × Operand)} (ho : o.op = .buildSlice T n parts) {ps : List (Nat × AV)} (hps : avParts (opd σ.env) parts.toList = some ps)
    (hp : ∀ t, .tmp t ∈ o.op.operands → t ∉ pend) (I : Inv E G σ pend a w) (h : buildSliceA tt σ o.dst ty n ps K) : Goes P E G w σ pend K a o ((execOp a.eval o).run P w) := by
  have hR := parts_rep (ps := parts.toList) (fun t X hX ht => I.env t X hX ht) (fun i t ht => hp t (by simp only [ho, Op.operands]; simp; exact ⟨i, by simpa using ht⟩)) hps
  obtain ⟨d, hd, -, hs⟩ := (ok _ _ hty).under
  unfold buildSliceA at h
  split at h
  · rename_i e hsh
    rw [hsh] at hs; simp only [shapeOk] at hs; subst hs
    split at h
    · rename_i te hte
      cases hc : (Nat.beq ps.length n && Nat.ble (n * te.size) 16777216 && Nat.ble n 16777216 && dstOk σ o.dst) with
      | false => rw [hc] at h; exact h.elim
      | true =>
        rw [hc] at h
        simp only [Bool.and_eq_true] at hc
        obtain ⟨⟨⟨hlen, hfit⟩, hn24⟩, hdst⟩ := hc
        have hn24 := Nat.le_of_ble_eq_true hn24
        have hlen := Nat.eq_of_beq_eq_true hlen
        have hfit := Nat.le_of_ble_eq_true hfit
        have hsz := (ok _ _ hte).sizeOf (P := P) w
        obtain ⟨z, hz1, hz2⟩ := (ok _ _ hte).zero (P := P) w
        have hnot : ¬ (16777216 < n * te.size) := by omega
        have hplen : (parts.toList.map fun (i, x) => (i, a.eval x)).length = n := by rw [← hR.length, hlen]
        cases n with
        | zero =>
          have hp0 : parts = #[] := by
            have : parts.toList = [] := by simpa using hplen
            cases parts; simp_all
          subst hp0
          obtain ⟨H2, L2⟩ := I.h.junk (.cells #[] e)
          refine ⟨.slice (some ⟨w.heap.size, 0, none⟩) 0 0, _, _, G, .inl ?_, h, ?_, put_nb (Nat.le_refl _), fun _ _ => rfl, L2⟩
          · have er : Array.range 0 = #[] := Array.ext' (by simp)
            simp [execOp, ho, Instr.buildSlice, run_underlying hd, hsz, Instr.fill, newRow, er]
          · refine (I.world L2 H2).put hdst (rep_ofD (.slice (vs := []) rfl (Nat.le_refl _) (Nat.zero_le _) (by simp) (by simp [flat]) .nil (by simp) ⟨rfl, rfl⟩))
        | succ n =>
          obtain ⟨items, us, hK, hil, his, hi1, hir, hfill⟩ := all_sound hR h
          have hul : us.length = (n + 1) * te.size := by rw [← hir.all2.length, flat_length his, hil, hlen]
          have hC0 : ∀ (z0 : Array Value), ((Array.range ((n + 1) * te.size)).map (z0[· % z0.size]!)).toList.length = (0 + ps.length) * te.size := by intro z0; simp [hlen]
          have hrun : (execOp a.eval o).run P w = .ok (.value (.slice (some ⟨w.heap.size, 0, none⟩) (n + 1) (n + 1))) (w.alloc (.cells us.toArray e)) := by
            have key : ∀ z0 : Array Value, Instr.fill (fun i => some (i * te.size, te.size)) ((Array.range ((n + 1) * te.size)).map (z0[· % z0.size]!)) (parts.map fun (i, x) => (i, a.eval x)).toList = some us.toArray := by
              intro z0
              have := hfill _ (hC0 z0)
              rw [Array.toArray_toList] at this
              rw [Array.toList_map]
              rw [this]; simp
            by_cases h0 : (n + 1) * te.size = 0
            · have k0 := key #[]
              simp only [execOp, ho, Sem.run_bind, Instr.buildSlice, run_underlying hd, Result.andThen_ok, hsz]
              rw [if_neg (by omega), if_pos h0]
              simp only [Sem.run_bind, Sem.run_pure, Result.andThen_ok]
              rw [k0]
              simp [newRow]
            · have k0 := key z.cells
              simp only [execOp, ho, Sem.run_bind, Instr.buildSlice, run_underlying hd, Result.andThen_ok, hsz]
              rw [if_neg (by omega), if_neg h0]
              simp only [Sem.run_bind, Sem.run_pure, Result.andThen_ok, hz1]
              rw [k0]
              simp [newRow]
          obtain ⟨H2, L2⟩ := (I.h.moveTok σ.hp.nt).newRow (i := σ.hp.nt) (n := n + 1) (c := n + 1) (sz := te.size) (C := us.toArray) (e := e) (by simp [Hp.moveTok]) (I.h.nt _ (Nat.le_refl _)) (by simp [hul]) (by simp [hul])
          refine ⟨_, _, _, _, .inl hrun, hK, ?_, put_nb (σ := σ.withHp _) (Nat.le_refl _), (by intro _ _; rfl), L2⟩
          refine (I.world L2 H2).put (σ := σ.withHp _) (dst_with _ hdst) (show Rep1 _ _ (.slice te.size (.loc σ.hp.nt) items) _ from ⟨_, _, _, rfl, by simp, ?_⟩)
          refine .slice (vs := us) (by rw [hil, hlen]) (Nat.le_refl _) ?_ his hi1 (hir.later L2.L) (fun _ => ⟨w.heap.size, 0, rfl, by simp [hul], ?_⟩) trivial
          · unfold maxLen; omega
          · exact cellsAt_block0 (by rw [alloc_block, if_pos rfl])
    · exact h.elim
  · exact h.elim

theorem src_of {T2 : TypeId} {e2 : TypeId} (hd2 : P.underlying T2 = some (.slice e2)) {size : Nat} {sz2 : Nat} {ys : List AV} {A2 : Option Addr} {m c2 : Nat} (hr : RepD G.L w (.slice sz2 .dead ys) (.slice A2 m c2)) (hs : ys = [] ∨ sz2 = size) :
    ∃ us, Src P size T2 (.slice A2 m c2) m us w ∧ RepDL G.L w (flat ys) us ∧ m = ys.length ∧ us.length = m * size ∧ (∀ x, x ∈ ys → x.cells.length = size) ∧ (∀ y, y ∈ flat ys → y.one = true) := by
  cases hr with
  | slice hn hc hm hs1 h1 hr hA htk =>
    rename_i us
    have hul : us.length = m * size := by
      rcases hs with rfl | rfl
      · simp at hn; subst hn; cases hr; simp
      · rw [← hr.all2.length, flat_length hs1, hn]
    have hs1' : ∀ x, x ∈ ys → x.cells.length = size := by
      rcases hs with rfl | rfl
      · simp
      · exact hs1
    refine ⟨us, ?_, hr, hn, hul, hs1', h1⟩
    by_cases h0 : m = 0
    · subst h0
      have : us = [] := by simpa using hul
      subst this
      cases A2 with
      | none => exact Src.ofNil w hd2 c2
      | some ad => exact Src.ofSlice w hd2 ad 0 c2 [] (by simp) (by simp) (by simp)
    · obtain ⟨b, o, rfl, hL, hcell⟩ := hA h0
      refine Src.ofSlice w hd2 _ m c2 us hul (fun j u hj => by rw [addr_add]; exact hcell j u hj) (rep1_ones (G := G) (w := w) (hr.all2.imp fun _ _ => rep1_ofD) h1)

theorem flat_append (xs ys : List AV) : flat (xs ++ ys) = flat xs ++ flat ys := by simp [flat]
theorem grown_max (w : World) {need old : Nat} {e : TypeId} (h : need ≤ 140737488355328) : grownCap w need old e ≤ maxLen := by
  unfold grownCap Question.cut maxLen
  have : (w.tape w.drawn (.appendCap need old e)) % (2 ^ 63 - need) < 2 ^ 63 - need := Nat.mod_lt _ (by omega)
  simp only
  omega

/-- An append to nothing: a row of its own. -/
theorem appendR_sound (ok : TTOk P tt) {T T2 : TypeId} {e2 e : TypeId} {te : TyI} (hd : P.underlying T = some (.slice e)) (hte : tt e = some te) (hd2 : P.underlying T2 = some (.slice e2)) {K : St → Prop} {o : Oper} {c : Call} {s x : Operand} (ho : o.op = .call c)
    (hcal : c.callee = .builtin .append) (hargs : c.args = #[s, x]) (hts : c.argTypes = #[T, T2]) {sz sz2 : Nat} {t t2 : Tok} {items ys : List AV} (hS : Rep G w (.slice sz t items) (a.eval s)) (hX : Rep G w (.slice sz2 t2 ys) (a.eval x)) (I : Inv E G σ pend a w)
    (hnil : isNilT t = true) (hsome : someL ys = true) (h : appendR σ o.dst te sz2 t2 ys K) :
    Goes P E G w σ pend K a o ((execOp a.eval o).run P w) := by
  unfold appendR at h
  cases hc : ((isNilT t2 || Nat.beq sz2 te.size) && dstOk σ o.dst) with
  | false => rw [hc] at h; exact h.elim
  | true =>
    rw [hc] at h
    simp only [Bool.and_eq_true] at hc
    obtain ⟨hsz2, hdst⟩ := hc
    obtain ⟨hby, h⟩ := Chk.out h
    obtain ⟨hlenb, hK⟩ := h.out
    have hby := Nat.le_of_ble_eq_true hby
    have hlenb := Nat.le_of_ble_eq_true hlenb
    obtain ⟨info, de, hi, hde, hisz, hib, _, ⟨z, hz, hz'⟩, _⟩ := (ok _ _ hte).ex
    have hzl : z.cells.size = te.size := by rw [← Array.length_toList, hz']; exact (ok _ _ hte).zl
    obtain ⟨A, n, cp, hvs, hrS⟩ := slice_rep hS
    obtain ⟨A2, m, c2, hvx, hrX⟩ := slice_rep hX
    have nilE : ∀ {sz : Nat} {t : Tok} {its : List AV} {A : Option Addr} {n c : Nat}, Rep1 G w (.slice sz t its) (.slice A n c) → isNilT t = true → n = 0 ∧ c = 0 ∧ its = [] := by
      intro sz t its A n c hr ht
      cases t <;> simp [isNilT] at ht
      · cases (show RepD G.L w (.slice sz .nil its) _ from hr) with
        | slice hn hc _ _ _ _ _ htk => have := htk.2; exact ⟨by omega, this, List.length_eq_zero_iff.1 (by omega)⟩
      · cases (show RepD G.L w (.slice sz .zero its) _ from hr) with
        | slice hn hc _ _ _ _ _ htk => have := htk.2; exact ⟨by omega, this, List.length_eq_zero_iff.1 (by omega)⟩
      · cases (show RepD G.L w (.slice sz .empty its) _ from hr) with
        | slice hn hc _ _ _ _ _ htk => have : _ = 0 := htk; exact ⟨by omega, this, List.length_eq_zero_iff.1 (by omega)⟩
    obtain ⟨rfl, rfl, rfl⟩ := nilE (hvs ▸ hS : Rep1 G w (.slice sz t items) (.slice A n cp)) hnil
    have hsz2' : ys = [] ∨ sz2 = te.size := by
      simp only [Bool.or_eq_true] at hsz2
      rcases hsz2 with h | h
      · exact .inl (nilE (hvx ▸ hX : Rep1 G w (.slice sz2 t2 ys) (.slice A2 m c2)) h).2.2
      · exact .inr (Nat.eq_of_beq_eq_true h)
    obtain ⟨us2, hsrc, hrl2, hm, hul2, hs12, h12⟩ := src_of hd2 hrX hsz2'
    have hm0 : 0 < m := by rw [hm]; cases ys <;> simp [someL] at hsome ⊢
    have hi' : info.size = te.size := hisz
    have hsrc' : Src P info.size T2 (.slice A2 m c2) m us2 w := by rw [hi']; exact hsrc
    have hold : (Builtin.firstCells info.size 0 (.slice A 0 0)).run P w.drew = .ok ([] : List Value).toArray w.drew := by
      cases A with
      | none => exact run_firstCells_none w.drew _ 0 0 0
      | some ad => exact run_firstCells_some w.drew _ 0 ad 0 0 [] (by simp) (by simp)
    have hg : 0 < 0 + m := by omega
    have hby' : (0 + m) * info.bytes ≤ 140737488355328 := by rw [hib, hm, Nat.zero_add]; exact hby
    have hrun := run_append_grow_src w T T2 o.type e info z hd hi hz A 0 0 [] hold _ m us2 hsrc' hg (by omega) (growslice_fits hg hby')
    rw [← hvs, ← hvx] at hrun
    have hge := grownCap_ge w (0 + m) 0 e
    have hmx := grown_max w (need := 0 + m) (old := 0) (e := e) (by omega)
    generalize grownCap w (0 + m) 0 e = cap at hrun hge hmx
    have hex : ∀ {v : Value} {w' : World}, (Builtin.append_ #[T, T2] o.type #[a.eval s, a.eval x]).run P w = .ok v w' → (execOp a.eval o).run P w = .ok (.value v) w' := by
      intro v w' hv
      simp [execOp, ho, resolve, hcal, hargs, hts, invoke, builtin, hv]
    obtain ⟨H1, L1⟩ := I.h.heap (w' := w.drew) rfl rfl rfl rfl
    have hCsz : (us2 ++ (Builtin.zeroCells z.cells (cap - (0 + m))).toList).length = cap * te.size := by
      simp [Builtin.zeroCells, hul2, hzl, ← Nat.add_mul]
      congr 1; omega
    have hnbn : G.κ σ.hp.nb = none := I.h.nb _ (Nat.le_refl _)
    obtain ⟨H2, L2⟩ := (H1.addBox (.row te.size ys)).newBox (i := σ.hp.nb) (e := e) (C := us2 ++ (Builtin.zeroCells z.cells (cap - (0 + m))).toList) (cp := cap) (by simp [Hp.addBox]) hnbn (fun bx hbx G2 hG2 hmono => by
      simp [Hp.addBox, find_cons] at hbx; subst hbx
      refine ⟨us2, (Builtin.zeroCells z.cells (cap - (0 + m))).toList, e, by rw [alloc_block, if_pos rfl], by rw [hG2]; simp, hs12, h12, ?_, hCsz⟩
      exact (hrl2.later L1.L).all2.imp fun x v h => hmono x v (rep1_ofD h))
    have ew : w.drew.alloc (.cells (us2 ++ (Builtin.zeroCells z.cells (cap - (0 + m))).toList).toArray e) = w.drew.alloc (.cells (([] ++ us2).toArray ++ Builtin.zeroCells z.cells (cap - (0 + m))) e) := by
      congr 2; apply Array.ext'; simp
    rw [ew] at H2 L2
    have L3 := L1.trans L2
    refine ⟨_, _, _, _, .inl (hex hrun), hK, ?_, put_nb (σ := σ.withHp (σ.hp.addBox (.row te.size ys))) (Nat.le_succ _), fun i hi => upd_ne _ _ (by omega), L3⟩
    have hrep : Rep1 ⟨upd G.κ σ.hp.nb (some w.drew.heap.size), G.τ, upd G.L w.drew.heap.size 0, upd G.ν σ.hp.nb cap⟩ (w.drew.alloc (.cells (([] ++ us2).toArray ++ Builtin.zeroCells z.cells (cap - (0 + m))) e)) (.row σ.hp.nb ys.length) (.slice (some ⟨w.heap.size, 0, none⟩) (0 + m) cap) := by
      refine ⟨w.heap.size, by simp, ?_, ?_, ?_⟩
      · simp; omega
      · simpa using hmx
      · simp [hm]
    exact (I.world L3 H2).put (σ := σ.withHp (σ.hp.addBox (.row te.size ys))) (dst_with _ hdst) hrep
theorem append_sound (ok : TTOk P tt) {T T2 : TypeId} {ty ty2 : TyI} (hty : tt T = some ty) (hty2 : tt T2 = some ty2) {e2 : TypeId} (hs2 : ty2.shape = .slice e2) {K : St → Prop} {o : Oper} {c : Call} {s x : Operand} (ho : o.op = .call c)
    (hcal : c.callee = .builtin .append) (hargs : c.args = #[s, x]) (hts : c.argTypes = #[T, T2]) {S X : AV} (hS : Rep G w S (a.eval s)) (hX : Rep G w X (a.eval x)) (I : Inv E G σ pend a w) (h : appendA tt σ o.dst ty S X K) :
    Goes P E G w σ pend K a o ((execOp a.eval o).run P w) := by
  obtain ⟨d, hd, -, hs⟩ := (ok _ _ hty).under
  obtain ⟨d2, hd2, -, hsh2⟩ := (ok _ _ hty2).under
  rw [hs2] at hsh2; simp only [shapeOk] at hsh2; subst hsh2
  unfold appendA at h
  split at h
  · rename_i e hsh
    rw [hsh] at hs; simp only [shapeOk] at hs; subst hs
    split at h
    · rename_i te hte
      split at h
      · rename_i sz t items
        split at h
        · rename_i sz2 t2 ys
          cases hrw : (isNilT t && rowDst σ o.dst && someL ys) with
          | true =>
            rw [hrw] at h
            simp only [Bool.and_eq_true] at hrw
            exact appendR_sound ok hd hte hd2 ho hcal hargs hts hS hX I hrw.1.1 hrw.2 h
          | false =>
           rw [hrw] at h
           simp only [cond_false] at h
           cases hc : ((isNilT t || Nat.beq sz te.size) && (isNilT t2 || Nat.beq sz2 te.size) && dstOk σ o.dst) with
           | false => rw [hc] at h; exact h.elim
           | true =>
            rw [hc] at h
            simp only [Bool.and_eq_true] at hc
            obtain ⟨⟨hsz, hsz2⟩, hdst⟩ := hc
            obtain ⟨htok, h⟩ := Chk.out h
            obtain ⟨hby, h⟩ := h.out
            obtain ⟨hlenb, hK⟩ := h.out
            have hby := Nat.le_of_ble_eq_true hby
            have hlenb := Nat.le_of_ble_eq_true hlenb
            obtain ⟨info, de, hi, hde, hisz, hib, _, ⟨z, hz, hz'⟩, _⟩ := (ok _ _ hte).ex
            have hzl : z.cells.size = te.size := by rw [← Array.length_toList, hz']; exact (ok _ _ hte).zl
            obtain ⟨A, n, cp, hvs, hrS⟩ := slice_rep hS
            obtain ⟨A2, m, c2, hvx, hrX⟩ := slice_rep hX
            have nilE : ∀ {sz : Nat} {t : Tok} {its : List AV} {v : Value}, Rep G w (.slice sz t its) v → isNilT t = true → its = [] := by
              intro sz t its v hr ht
              have hr : Rep1 G w (.slice sz t its) v := hr
              cases t <;> simp [isNilT] at ht
              · cases (show RepD G.L w (.slice sz .nil its) v from hr) with
                | slice hn hc _ _ _ _ _ htk => have := htk.2; exact List.length_eq_zero_iff.1 (by omega)
              · cases (show RepD G.L w (.slice sz .zero its) v from hr) with
                | slice hn hc _ _ _ _ _ htk => have := htk.2; exact List.length_eq_zero_iff.1 (by omega)
              · cases (show RepD G.L w (.slice sz .empty its) v from hr) with
                | slice hn hc _ _ _ _ _ htk => have := htk; simp only [Tok.okD] at this; exact List.length_eq_zero_iff.1 (by omega)
            have hsz2' : ys = [] ∨ sz2 = te.size := by
              simp only [Bool.or_eq_true] at hsz2
              rcases hsz2 with h | h
              · exact .inl (nilE hX h)
              · exact .inr (Nat.eq_of_beq_eq_true h)
            have hsz' : items = [] ∨ sz = te.size := by
              simp only [Bool.or_eq_true] at hsz
              rcases hsz with h | h
              · exact .inl (nilE hS h)
              · exact .inr (Nat.eq_of_beq_eq_true h)
            obtain ⟨us2, hsrc, hrl2, hm, hul2, hs12, h12⟩ := src_of hd2 hrX hsz2'
            cases hrS with
            | slice hn hcn hcm hs1 h1 hr hA htk =>
              rename_i us
              have hs1' : ∀ x, x ∈ items → x.cells.length = te.size := by
                rcases hsz' with rfl | rfl
                · simp
                · exact hs1
              have hul : us.length = n * te.size := by rw [← hr.all2.length, flat_length hs1', hn]
              have hsall : ∀ x, x ∈ items ++ ys → x.cells.length = te.size := by
                intro x hx; rcases List.mem_append.1 hx with hx | hx
                · exact hs1' x hx
                · exact hs12 x hx
              have h1all : ∀ y, y ∈ flat (items ++ ys) → y.one = true := by
                intro y hy; rw [flat_append] at hy; rcases List.mem_append.1 hy with hy | hy
                · exact h1 y hy
                · exact h12 y hy
              have hcapnil : (∀ i, t ≠ .loc i) → cp = 0 := by
                intro hne
                have hr : Rep1 G w (.slice sz t items) (a.eval s) := hS
                rw [hvs] at hr
                cases t with
                | dead => simp [tokOk] at htok
                | loc i => exact absurd rfl (hne i)
                | nil => cases (show RepD G.L w (.slice sz .nil items) _ from hr) with | slice _ _ _ _ _ _ _ htk => exact htk.2
                | zero => cases (show RepD G.L w (.slice sz .zero items) _ from hr) with | slice _ _ _ _ _ _ _ htk => exact htk.2
                | empty => cases (show RepD G.L w (.slice sz .empty items) _ from hr) with | slice _ _ _ _ _ _ _ htk => exact htk
              have htokx : n = cp ∨ (tokNum σ.hp t ∈ σ.hp.alive ∧ G.τ (tokNum σ.hp t) = some ⟨A, n, cp, te.size⟩) := by
                by_cases hloc : ∃ i, t = .loc i
                · obtain ⟨i, rfl⟩ := hloc
                  obtain ⟨A', n', c', hv', ht', _⟩ := (show Rep1 G w (.slice sz (.loc i) items) (a.eval s) from hS)
                  rw [hvs] at hv'
                  simp only [Value.slice.injEq] at hv'
                  obtain ⟨rfl, rfl, rfl⟩ := hv'
                  have hszl : sz = te.size := by
                    simp only [isNilT, Bool.false_or] at hsz; exact Nat.eq_of_beq_eq_true hsz
                  subst hszl
                  exact .inr ⟨memN_mem htok, ht'⟩
                · have := hcapnil (fun i hi => hloc ⟨i, hi⟩)
                  exact .inl (by omega)
              have hex : ∀ {v : Value} {w' : World}, (Builtin.append_ #[T, T2] o.type #[a.eval s, a.eval x]).run P w = .ok v w' → (execOp a.eval o).run P w = .ok (.value v) w' := by
                intro v w' hv
                simp [execOp, ho, resolve, hcal, hargs, hts, invoke, builtin, hv]
              have hi' : info.size = te.size := hisz
              by_cases hroom : n + m ≤ cp
              · by_cases hm0 : m = 0
                · have hys : ys = [] := List.length_eq_zero_iff.1 (by omega)
                  subst hys
                  have hu0 : us2 = [] := by simpa [hm0] using hul2
                  subst hu0
                  subst hm0
                  have hsrc' : Src P info.size T2 (.slice A2 0 c2) 0 [] w := by rw [hi']; exact hsrc
                  have hrun := run_append_nothing w T T2 o.type e info hd hi A n cp hcn _ hsrc'
                  rw [← hvs, ← hvx] at hrun
                  obtain ⟨H2, L2⟩ := I.h.sameTok (i := tokNum σ.hp t) (x := ⟨A, n, cp, te.size⟩) htokx
                  refine ⟨_, _, _, _, .inl (hex hrun), hK, ?_, put_nb (σ := σ.withHp _) (Nat.le_refl _), (by intro _ _; rfl), L2⟩
                  refine (I.world L2 H2).put (σ := σ.withHp _) (dst_with _ hdst) ?_
                  rw [hvs]
                  refine (show Rep1 _ _ (.slice te.size (.loc σ.hp.nt) (items ++ [])) _ from ⟨_, _, _, rfl, by simp, ?_⟩)
                  rw [List.append_nil]
                  exact .slice hn hcn hcm hs1' h1 (hr.later L2.L) (fun h => let ⟨b, o, ha, hb, hx⟩ := hA h; ⟨b, o, ha, Nat.le_trans hb (L2.L.le b), hx.later L2.L hb⟩) trivial
                · have hncp : n ≠ cp := by omega
                  have hin : tokNum σ.hp t ∈ σ.hp.alive ∧ G.τ (tokNum σ.hp t) = some ⟨A, n, cp, te.size⟩ := by
                    rcases htokx with h | h
                    · exact absurd h hncp
                    · exact h
                  rcases I.h.tips.tip _ hin.1 _ hin.2 with h | ⟨b, off, C, et, hAe, hb, hLb, hcs⟩
                  · exact absurd h hncp
                  · simp only at hAe hLb hcs
                    subst hAe
                    obtain ⟨H2, L2, C', e', hb', hcs', hLb'⟩ := I.h.grow (m := m) (vs := us2) hin.1 hin.2 hncp hroom hul2
                    have hmul : (n + m) * te.size ≤ cp * te.size := Nat.mul_le_mul_right _ hroom
                    have hadd : (n + m) * te.size = n * te.size + m * te.size := Nat.add_mul _ _ _
                    have hsrc' : Src P info.size T2 (.slice A2 m c2) m us2 w := by rw [hi']; exact hsrc
                    have hrun := run_append_room_src w T T2 o.type e info hd hi b off n cp _ m us2 hsrc' hroom
                      (fun j hj => by rw [hi', cell_block hb', List.getElem?_eq_getElem (by omega)]; rfl) (fun j hj => by simp [World.frozen?, hb'])
                    rw [← hvs, ← hvx, hi'] at hrun
                    refine ⟨_, _, _, _, .inl (hex hrun), hK, ?_, put_nb (σ := σ.withHp _) (Nat.le_refl _), (by intro _ _; rfl), L2⟩
                    refine (I.world L2 H2).put (σ := σ.withHp _) (dst_with _ hdst) (show Rep1 _ _ (.slice te.size (.loc σ.hp.nt) (items ++ ys)) _ from ⟨_, _, _, rfl, by simp, ?_⟩)
                    have hblock := setCells_block us2 (off + n * te.size) hb' (by omega)
                    refine .slice (vs := us ++ us2) (by simp; omega) hroom hcm hsall h1all ?_ (fun _ => ⟨b, off, rfl, by simp [hul, hul2]; omega, ?_⟩) trivial
                    · rw [flat_append]; exact .of_all2 ((hr.later L2.L).all2.append (hrl2.later L2.L).all2)
                    · intro k v hk
                      rw [cell_block hblock]
                      simp only [splice]
                      by_cases hkn : k < us.length
                      · rw [List.getElem?_append_left hkn] at hk
                        obtain ⟨b2, o2, ha2, hb2, hcell2⟩ := hA (by intro h0; rw [hul, h0] at hkn; simp at hkn)
                        simp only [Option.some.injEq, Addr.mk.injEq, and_true] at ha2
                        obtain ⟨rfl, rfl⟩ := ha2
                        have := hcell2 k v hk
                        rw [cell_block hb'] at this
                        rw [List.append_assoc, List.getElem?_append_left (by simp; omega), List.getElem?_take, if_pos (by omega)]
                        exact this
                      · rw [List.getElem?_append_right (by omega)] at hk
                        have hk2 : k - us.length < us2.length := (List.getElem?_eq_some_iff.1 hk).1
                        rw [List.getElem?_append_left (by simp; omega), List.getElem?_append_right (by simp; omega)]
                        rw [← hk]; congr 1; simp; omega
              · have hg : cp < n + m := by omega
                have hsrc' : Src P info.size T2 (.slice A2 m c2) m us2 w := by rw [hi']; exact hsrc
                have hold : (Builtin.firstCells info.size n (.slice A n cp)).run P w.drew = .ok us.toArray w.drew := by
                  by_cases hn0 : n = 0
                  · subst hn0
                    have : us = [] := by simpa using hul
                    subst this
                    cases A with
                    | none => exact run_firstCells_none w.drew _ 0 0 cp
                    | some ad => exact run_firstCells_some w.drew _ 0 ad 0 cp [] (by simp) (by simp)
                  · obtain ⟨b, off, rfl, _, hcell⟩ := hA hn0
                    exact run_firstCells_some w.drew _ n _ n cp us (by rw [hi', hul]) (fun j v hj => by rw [addr_add]; simpa using hcell j v hj)
                have hby' : (n + m) * info.bytes ≤ 140737488355328 := by rw [hib, hn, hm]; exact hby
                have hrun := run_append_grow_src w T T2 o.type e info z hd hi hz A n cp us hold _ m us2 hsrc' hg (by omega) (growslice_fits hg hby')
                rw [← hvs, ← hvx] at hrun
                have hge := grownCap_ge w (n + m) cp e
                have hmx := grown_max w (need := n + m) (old := cp) (e := e) (by omega)
                generalize grownCap w (n + m) cp e = cap at hrun hge hmx
                obtain ⟨H1, L1⟩ := I.h.heap (w' := w.drew) rfl rfl rfl rfl
                have hCsz : ((us ++ us2).toArray ++ Builtin.zeroCells z.cells (cap - (n + m))).size = cap * te.size := by
                  simp [Builtin.zeroCells, hul, hul2, hzl, ← Nat.add_mul]
                  congr 1; omega
                obtain ⟨H2, L2⟩ := (H1.moveTok (tokNum σ.hp t)).newRow (i := σ.hp.nt) (n := n + m) (c := cap) (sz := te.size) (C := (us ++ us2).toArray ++ Builtin.zeroCells z.cells (cap - (n + m))) (e := e) (by simp [Hp.moveTok]) (I.h.nt _ (Nat.le_refl _)) (by rw [hCsz]; exact Nat.mul_le_mul_right _ hge) (by rw [hCsz]; exact Nat.le_refl _)
                have L3 := L1.trans L2
                refine ⟨_, _, _, _, .inl (hex hrun), hK, ?_, put_nb (σ := σ.withHp _) (Nat.le_refl _), (by intro _ _; rfl), L3⟩
                refine (I.world L3 H2).put (σ := σ.withHp _) (dst_with _ hdst) (show Rep1 _ _ (.slice te.size (.loc σ.hp.nt) (items ++ ys)) _ from ⟨_, _, _, rfl, by simp, ?_⟩)
                refine .slice (vs := us ++ us2) (by simp; omega) hge hmx hsall h1all ?_ (fun _ => ⟨w.heap.size, 0, rfl, ?_, ?_⟩) trivial
                · rw [flat_append]; exact .of_all2 ((hr.later L3.L).all2.append (hrl2.later L3.L).all2)
                · simp [hul, hul2, Nat.add_mul]
                · refine cellsAt_block (D := (Builtin.zeroCells z.cells (cap - (n + m))).toList) (e := e) (f := (0, 0)) ?_
                  rw [alloc_block, if_pos (by simp)]
                  congr 2
                  apply Array.ext'; simp
        · exact h.elim
      · exact h.elim
    · exact h.elim
  · exact h.elim
end
end Go.Ax
