/- Ax, part N: stores, structs that are built, calls: the machine does what part L says. No project text. -/
import Derived.Test.YtafbefpimhaopaaAxM
set_option linter.unusedVariables false
set_option linter.unusedSimpArgs false
set_option linter.unnecessarySimpa false
set_option linter.unusedSectionVars false
namespace Go.Ax
section
variable {P : Program} {tt : TT} {E : Entry} {G : Gh} {σ : St} {pend : List Nat} {a : Act} {w : World}

theorem storeVar_run {T : TypeId} {ty : TyI} (ht : TyOk P T ty) {b o : Nat} {C : List Value} {e : TypeId} {v : Value} (hb : w.heap[b]? = some (.cells C.toArray e (0, 0))) (hs : v.cells.size = ty.size) (hl : o + ty.size ≤ C.length)
    (h1 : ∀ u, u ∈ v.cells.toList → u.oneCell' = true) : (storeVar T ⟨b, o, none⟩ v).run P w = .ok () (w.setCells b o v.cells.toList) := by
  have hlen : v.cells.toList.length = ty.size := by simpa using hs
  have hrun := run_storeCells_cells (P := P) b o v.cells.toList 0 w
    (fun j hj => by simp only [Nat.add_zero]; rw [cell_block hb]; rw [List.getElem?_eq_getElem (by omega)]; rfl)
    (fun j hj => by simp [World.frozen?, hb]) h1
  simp only [Nat.add_zero] at hrun
  simp [storeVar, ht.sizeOf, hs, hrun]

theorem splice_left {α : Type} {C D vs : List α} {o : Nat} (h : o + vs.length ≤ C.length) : splice (C ++ D) o vs = splice C o vs ++ D := by
  simp only [splice]
  rw [List.take_append_of_le_length (by omega), List.drop_append_of_le_length (by omega)]
  simp
theorem splice_right {α : Type} {A C vs : List α} {o : Nat} : splice (A ++ C) (A.length + o) vs = A ++ splice C o vs := by
  simp only [splice]
  rw [List.take_append, List.drop_append]
  have e1 : List.take (A.length + o) A = A := List.take_of_length_le (by omega)
  have e2 : List.drop (A.length + o + vs.length) A = [] := List.drop_of_length_le (by omega)
  rw [e1, e2, show A.length + o - A.length = o by omega, show A.length + o + vs.length - A.length = o + vs.length by omega]
  simp
theorem putCells_cells {y : AV} {off : Nat} {xs : List AV} (h : off + xs.length ≤ y.cells.length) (h0 : 0 < xs.length) (h1 : ∀ z, z ∈ xs → z.one = true) (hy : ∀ z, z ∈ y.cells → z.one = true) : (putCells y off xs).cells = splice y.cells off xs := by
  have one : ∀ {y : AV}, y.cells = [y] → off + xs.length ≤ y.cells.length → (match xs with | [x] => x | _ => y).cells = splice y.cells off xs := by
    intro y e h
    rw [e] at h ⊢
    match xs, h, h0, h1 with
    | [x], h, _, h1 =>
      simp at h
      subst h
      have : x.cells = [x] := by
        have := h1 x (by simp)
        cases x <;> first | rfl | simp [AV.one] at this
      simp [splice, this]
    | x :: x' :: r, h, _, _ => simp at h; omega
  cases y with
  | agg cs => rfl
  | _ => exact one rfl h
theorem flat_set {sz off : Nat} {xs : List AV} {y y' : AV} : ∀ {items : List AV} {i : Nat}, (∀ x, x ∈ items → x.cells.length = sz) → items[i]? = some y → y'.cells = splice y.cells off xs → off + xs.length ≤ y.cells.length → flat (items.set i y') = splice (flat items) (i * sz + off) xs
  | [], i, _, h, _, _ => by simp at h
  | z :: r, 0, hs, h, he, hl => by
    simp at h; subst h
    simp only [List.set_cons_zero, flat, List.flatMap_cons, he, Nat.zero_mul, Nat.zero_add]
    rw [splice_left hl]
  | z :: r, i + 1, hs, h, he, hl => by
    have ih := flat_set (items := r) (i := i) (fun x hx => hs x (by simp [hx])) (by simpa using h) he hl
    simp only [List.set_cons_succ, flat, List.flatMap_cons] at ih ⊢
    have hz : z.cells.length = sz := hs z (by simp)
    rw [ih, show (i + 1) * sz + off = z.cells.length + (i * sz + off) by rw [hz, Nat.succ_mul]; omega, splice_right]
theorem store_sound (ok : TTOk P tt) {T : TypeId} {ty : TyI} (hty : tt T = some ty) {K : St → Prop} {o : Oper} {x y : Operand} (ho : o.op = .store T x y) (hdst : o.dst = none) {A X : AV} (hA : Rep G w A (a.eval x)) (hX : Rep G w X (a.eval y)) (I : Inv E G σ pend a w)
    (h : storeA σ ty A X K) : Goes P E G w σ pend K a o ((execOp a.eval o).run P w) := by
  have hnt : ∀ cs, X ≠ .tup cs := by intro cs e; subst e; exact h
  have h' : storeB σ ty A X.cells K := by cases X <;> first | exact h | exact h.elim
  clear h
  unfold storeB at h'
  cases A with
  | ptr k off =>
    simp only at h'
    cases hf : find k σ.hp.boxes with
    | none => rw [hf] at h'; exact h'.elim
    | some bx =>
      rw [hf] at h'
      cases bx with
      | cells cs =>
        obtain ⟨hlen, h'⟩ := h'.out
        obtain ⟨hfit, hK⟩ := h'.out
        have hlen := Nat.eq_of_beq_eq_true hlen
        have hfit := Nat.le_of_ble_eq_true hfit
        obtain ⟨hr, h1⟩ := rep_cells hX hnt
        have hrl := hr.length
        have hp : ∃ b, G.at k = some b ∧ a.eval x = .pointer (some ⟨b, off, none⟩) := by
          cases k with
          | l i => obtain ⟨b, hk, hv⟩ := (show Rep1 G w (.ptr (.l i) off) _ from hA); exact ⟨b, hk, hv⟩
          | o b => generalize hv : a.eval x = v at hA; cases (show RepD G.L w (.ptr (.o b) off) v from hA); exact ⟨b, rfl, rfl⟩
        obtain ⟨b, hk, hv⟩ := hp
        obtain ⟨C, e, hb, hL0, hc1, hcr⟩ := I.h.boxes.rel k _ b hf hk
        have hcl := hcr.length
        have hsz : (a.eval y).cells.size = ty.size := by rw [← Array.length_toList, ← hrl, hlen]
        have hrun := storeVar_run (P := P) (w := w) (ok _ _ hty) (o := off) (v := a.eval y) hb hsz (by omega) (rep1_ones hr h1)
        obtain ⟨H2, L2⟩ := I.h.store (bx' := .cells (splice cs off X.cells)) (o := off) (vs := (a.eval y).cells.toList) hf rfl hk hb hL0 (by simp; omega) (fun hm =>
          ⟨splice C off (a.eval y).cells.toList, e, setCells_block _ off hb (by simp; omega), hL0, splice_one hc1 h1, (splice_all2 hcr hr).imp hm⟩)
        refine ⟨undef, _, _, G, .inr ⟨?_, rfl⟩, hK, ?_, Nat.le_refl _, fun _ _ => rfl, L2⟩
        · simp [execOp, ho, Instr.storeAt, hv, Instr.sureAddr, hrun]
        · rw [hdst]; exact I.world L2 H2
      | _ => exact h'.elim
  | rptr k sz i off =>
    simp only at h'
    cases hf : find (.l k) σ.hp.boxes with
    | none => rw [hf] at h'; exact h'.elim
    | some bx =>
      rw [hf] at h'
      cases bx with
      | row sz' items =>
        obtain ⟨hsz, h'⟩ := h'.out
        obtain ⟨hlen, h'⟩ := h'.out
        obtain ⟨y0, ⟨hi0, hget⟩, h'⟩ := h'
        obtain ⟨hfit, hK⟩ := h'.out
        obtain rfl := Nat.eq_of_beq_eq_true hsz
        have hlen := Nat.eq_of_beq_eq_true hlen
        have hfit := Nat.le_of_ble_eq_true hfit
        have hget : items[i]? = some y0 := by simpa using hget
        obtain ⟨hr, h1⟩ := rep_cells hX hnt
        have hrl := hr.length
        obtain ⟨b, hk, hv⟩ := (show Rep1 G w (.rptr k sz i off) _ from hA)
        obtain ⟨C, D, e, hb, hL0, hs, hone, hcr, hcap⟩ := I.h.boxes.rel (.l k) _ b hf hk
        have hcl := hcr.length
        have hmem := List.mem_of_getElem? hget
        have hy0 := hs y0 hmem
        have hil : i < items.length := (List.getElem?_eq_some_iff.1 hget).1
        have hfl := flat_length hs
        have hmul : (i + 1) * sz ≤ items.length * sz := Nat.mul_le_mul_right _ hil
        have hmul2 : (i + 1) * sz = i * sz + sz := Nat.succ_mul _ _
        have hszv : (a.eval y).cells.size = ty.size := by rw [← Array.length_toList, ← hrl, hlen]
        have hbound : i * sz + off + (a.eval y).cells.toList.length ≤ C.length := by
          rw [← hrl, hlen, ← hcl, hfl]; omega
        have hvl : (a.eval y).cells.toList.length = ty.size := by rw [← hrl, hlen]
        have hbound2 : i * sz + off + ty.size ≤ (C ++ D).length := by rw [List.length_append]; omega
        have hrun := storeVar_run (P := P) (w := w) (ok _ _ hty) (o := i * sz + off) (v := a.eval y) hb hszv hbound2 (rep1_ones hr h1)
        have hpos : X.cells.length = 0 ∨ 0 < X.cells.length := by omega
        have hout : find (.l k) σ.hp.boxes = some (.row sz items) → All2 (Rep1 G w) (flat (items.set i (putCells y0 off X.cells))) (splice C (i * sz + off) (a.eval y).cells.toList) ∧ (∀ x, x ∈ items.set i (putCells y0 off X.cells) → x.cells.length = sz) ∧ (∀ z, z ∈ flat (items.set i (putCells y0 off X.cells)) → z.one = true) := by
          intro _
          have honey : ∀ z, z ∈ y0.cells → z.one = true := fun z hz => hone z (cells_mem_flat hmem hz)
          have hpc : (putCells y0 off X.cells).cells = splice y0.cells off X.cells := by
            rcases hpos with h0 | h0
            · have h0 : X.cells = [] := List.length_eq_zero_iff.1 h0
              rw [h0, splice_nil]
              cases y0 <;> first | rfl | (simp only [putCells, splice_nil]; done) | simp [putCells, splice_nil]
            · exact putCells_cells (by rw [hlen]; exact hfit) h0 h1 honey
          have hfs := flat_set (off := off) (xs := X.cells) hs hget hpc (by rw [hlen]; exact hfit)
          refine ⟨by rw [hfs]; exact splice_all2 hcr hr, fun x hx => ?_, fun z hz => ?_⟩
          · rcases List.mem_or_eq_of_mem_set hx with hx | rfl
            · exact hs x hx
            · rw [hpc, splice_length (by rw [hlen]; exact hfit)]; exact hy0
          · rw [hfs] at hz; exact splice_one hone h1 z hz
        obtain ⟨o1, o2, o3⟩ := hout hf
        obtain ⟨H2, L2⟩ := I.h.store (bx' := .row sz (items.set i (putCells y0 off X.cells))) (o := i * sz + off) (vs := (a.eval y).cells.toList) hf rfl hk hb hL0 (by rw [List.length_append]; omega) (fun hm =>
          ⟨splice C (i * sz + off) (a.eval y).cells.toList, D, e, by rw [← splice_left hbound]; exact setCells_block _ _ hb (by rw [List.length_append]; omega), hL0, o2, o3, o1.imp hm, by rw [List.length_append, splice_length hbound, ← List.length_append]; exact hcap⟩)
        refine ⟨undef, _, _, G, .inr ⟨?_, rfl⟩, hK, ?_, Nat.le_refl _, fun _ _ => rfl, L2⟩
        · simp [execOp, ho, Instr.storeAt, hv, Instr.sureAddr, hrun]
        · rw [hdst]; exact I.world L2 H2
      | _ => exact h'.elim
  | _ => exact h'.elim

/-- A part is laid over the cells. -/
theorem foldl_splice (vs : List Value) (off : Nat) : ∀ (C : List Value) (k : Nat), off + k + vs.length ≤ C.length →
    (vs.zipIdx k).foldl (fun cs (x : Value × Nat) => cs.setIfInBounds (off + x.2) x.1) C.toArray = (splice C (off + k) vs).toArray := by
  induction vs with
  | nil => intro C k h; simp [splice_nil]
  | cons v vs ih =>
    intro C k h
    have := ih (C.set (off + k) v) (k + 1) (by simp at h ⊢; omega)
    rw [splice_cons (by simpa using h)]
    simp only [List.zipIdx_cons, List.foldl_cons, List.setIfInBounds_toArray]
    rw [show off + (k + 1) = off + k + 1 by omega] at this
    exact this

theorem fill_sound {place : Nat → Option (Nat × Nat)} {K : List AV → Prop} : ∀ {ps : List (Nat × AV)} {vs : List (Nat × Value)} {cs : List AV} {C : List Value},
    All2 (fun p q => p.1 = q.1 ∧ Rep G w p.2 q.2) ps vs → All2 (Rep1 G w) cs C → (∀ y, y ∈ cs → y.one = true) → fillA place cs ps K →
    ∃ cs' C', Instr.fill place C.toArray vs = some (List.toArray C') ∧ All2 (Rep1 G w) cs' C' ∧ (∀ y, y ∈ cs' → y.one = true) ∧ K cs'
  | _, _, cs, C, .nil, hc, h1, h => ⟨cs, C, rfl, hc, h1, h⟩
  | _, _, cs, C, .cons (x := (i, X)) (y := (j, v)) hp ht, hc, h1, h => by
    obtain ⟨rfl, hX⟩ := hp
    simp only [fillA] at h
    split at h
    · exact h.elim
    · rename_i off size hpl
      have hnt : ∀ cs, X ≠ .tup cs := by intro cs e; subst e; exact h
      rename_i ps' vs' _
      have h' : Chk (Nat.beq X.cells.length size) (Chk (Nat.ble (off + size) cs.length) (fillA place (splice cs off X.cells) ps' K)) := by
        cases X <;> first | exact h | exact h.elim
      obtain ⟨hlen, h'⟩ := h'.out
      obtain ⟨hfit, h'⟩ := h'.out
      have hlen := Nat.eq_of_beq_eq_true hlen
      have hfit := Nat.le_of_ble_eq_true hfit
      obtain ⟨hr, hx1⟩ := rep_cells hX hnt
      have hrl := hr.length
      have hcl := hc.length
      obtain ⟨cs', C', hf, hr', h1', hK⟩ := fill_sound ht (splice_all2 (o := off) hc hr) (splice_one h1 hx1) h'
      refine ⟨cs', C', ?_, hr', h1', hK⟩
      have hsz : v.cells.size = size := by rw [← Array.length_toList, ← hrl, hlen]
      have hfold := foldl_splice v.cells.toList off C 0 (by simp; omega)
      simp only [Nat.add_zero] at hfold
      simp only [Instr.fill, hpl]
      rw [if_neg (by simp [hsz]; omega)]
      have hfold' : v.cells.zipIdx.foldl (fun cs (x : Value × Nat) => match x with | (c, j) => cs.setIfInBounds (off + j) c) C.toArray = (splice C off v.cells.toList).toArray := by
        rw [← Array.foldl_toList, Array.toList_zipIdx]; exact hfold
      rw [hfold']
      exact hf
theorem parts_rep {env : List (Nat × AV)} (he : ∀ t X, look t env = some X → t ∉ pend → Rep G w X (a.tmps.getD t undef)) : ∀ {ps : List (Nat × Operand)} {qs : List (Nat × AV)}, (∀ i t, (i, .tmp t) ∈ ps → t ∉ pend) → avParts (opd env) ps = some qs →
    All2 (fun p q => p.1 = q.1 ∧ Rep G w p.2 q.2) qs (ps.map fun (i, x) => (i, a.eval x))
  | [], qs, _, h => by simp [avParts] at h; subst h; exact .nil
  | (i, x) :: ps, qs, hp, h => by
    simp only [avParts] at h
    split at h
    · rename_i X R hX hR
      simp at h; subst h
      refine .cons ⟨rfl, opd_rep (fun t X e h' => ?_) hX⟩ (parts_rep he (fun j t ht => hp j t (List.mem_cons_of_mem _ ht)) hR)
      subst e; exact he t X h' (hp i t (by simp))
    · simp at h
theorem places_ok (ok : TTOk P tt) : ∀ {F : List Field} {pl : List (Nat × Nat)}, places tt (F.map fun f => (f.offset, f.type)) = some pl → F.mapM (fun f => (P.info? f.type).map fun i => (f.offset, i.size)) = some pl
  | [], pl, h => by simpa [places] using h
  | f :: F, pl, h => by
    simp only [List.map_cons, places] at h
    split at h
    · rename_i i R hi hR
      simp at h; subst h
      obtain ⟨info, d, h1, h2, h3, _⟩ := (ok _ _ hi).ex
      simp [List.mapM_cons, places_ok ok hR, h1, h3]
    · simp at h

theorem build_sound (ok : TTOk P tt) {T : TypeId} {ty : TyI} (hty : tt T = some ty) {K : St → Prop} {o : Oper} {parts : Array (Nat × Operand)} (ho : o.op = .build T parts) {ps : List (Nat × AV)} (hps : avParts (opd σ.env) parts.toList = some ps)
    (hp : ∀ t, .tmp t ∈ o.op.operands → t ∉ pend) (I : Inv E G σ pend a w) (h : buildA tt σ o.dst ty ps K) : Goes P E G w σ pend K a o ((execOp a.eval o).run P w) := by
  have hR := parts_rep (ps := parts.toList) (fun t X hX ht => I.env t X hX ht) (fun i t ht => hp t (by simp only [ho, Op.operands]; simp; exact ⟨i, by simpa using ht⟩)) hps
  obtain ⟨info, d, h1, h2, h3, h4, h5, ⟨z, hz, hz'⟩, h7⟩ := (ok _ _ hty).ex
  unfold buildA at h
  split at h
  · exact h.elim
  · rename_i zs hzs
    obtain ⟨hza, hz1⟩ := avsOf_rep (L := G.L) (w := w) hzs
    have hzr := hza.all2.imp (fun x v h => rep1_ofD (G := G) h)
    have fin : ∀ (place : Nat → Option (Nat × Nat)), fillA place zs ps (fun cs => bif dstOk σ o.dst then K (σ.put o.dst (.agg cs)) else False) →
        (∀ cells, Instr.fill place z.cells (parts.toList.map fun (i, x) => (i, a.eval x)) = some cells → P.built T (parts.map fun (i, x) => (i, a.eval x)).toList = some cells) →
        Goes P E G w σ pend K a o ((execOp a.eval o).run P w) := by
      intro place hfill hbuilt
      obtain ⟨cs', C', hf, hr', h1', hK⟩ := fill_sound hR hzr hz1 hfill
      rw [show ty.zero.toArray = z.cells by rw [← hz']] at hf
      have hb := run_build (P := P) w T _ _ (hbuilt _ hf)
      cases hd : dstOk σ o.dst with
      | false => rw [hd] at hK; exact hK.elim
      | true =>
        rw [hd] at hK
        exact ⟨.agg C'.toArray, w, _, G, .inl (by simp [execOp, ho, hb]), hK, I.put hd (rep_agg h1' hr'), put_nb (Nat.le_refl _), fun _ _ => rfl, .refl _ _⟩
    split at h
    · rename_i fs hsh
      rw [hsh] at h7
      obtain ⟨F, rfl, hF⟩ := h7
      split at h
      · exact h.elim
      · rename_i pl hpl
        rw [← hF] at hpl
        refine fin _ h (fun cells hc => ?_)
        simp only [Array.toList_map]
        simp [Program.built, h1, h2, hz, places_ok ok hpl, hc]
    · rename_i n e hsh
      rw [hsh] at h7; simp only [shapeOk] at h7; subst h7
      split at h
      · exact h.elim
      · rename_i te hte
        obtain ⟨ie, de, e1, e2, e3, _⟩ := (ok _ _ hte).ex
        refine fin _ h (fun cells hc => ?_)
        simp only [Array.toList_map]
        simp [Program.built, h1, h2, hz, e1, e3, hc]
    · exact h.elim

theorem args_rep {env : List (Nat × AV)} (he : ∀ t X, look t env = some X → t ∉ pend → Rep G w X (a.tmps.getD t undef)) : ∀ {ps : List Operand} {qs : List AV}, (∀ t, .tmp t ∈ ps → t ∉ pend) → avArgs (opd env) ps = some qs → All2 (Rep G w) qs (ps.map a.eval)
  | [], qs, _, h => by simp [avArgs] at h; subst h; exact .nil
  | x :: ps, qs, hp, h => by
    simp only [avArgs] at h
    split at h
    · rename_i X R hX hR
      simp at h; subst h
      refine .cons (opd_rep (fun t X e h' => ?_) hX) (args_rep he (fun t ht => hp t (List.mem_cons_of_mem _ ht)) hR)
      subst e; exact he t X h' (hp t (by simp))
    · simp at h

theorem ptrs_rep : ∀ {is : List Nat} {cs : List Value}, All2 (fun i u => ∃ b, G.κ i = some b ∧ u = .pointer (some ⟨b, 0, none⟩)) is cs → All2 (Rep G w) (varPtrs is) cs
  | [], _, .nil => .nil
  | i :: is, _, .cons h t => .cons (show Rep1 G w (.ptr (.l i) 0) _ from h) (ptrs_rep t)
theorem call_sound {K : St → Prop} {o : Oper} {c : Call} {f : Operand} (ho : o.op = .call c) (hcal : c.callee = .value f) {F : AV} {args : List AV} (hF : Rep G w F (a.eval f)) (hA : All2 (Rep G w) args (c.args.toList.map a.eval)) (I : Inv E G σ pend a w)
    (h : callA P σ o.dst F args K) {Q : Exit → Act → World → Prop} : o.wp P a w (fun a' w' => ∃ σ' G', K σ' ∧ Inv E G' σ' pend a' w' ∧ Step σ.hp.nb G w σ'.hp.nb G' w') Q := by
  unfold callA at h
  split at h
  · rename_i g first cap
    cases hd : dstOk σ o.dst with
    | false => rw [hd] at h; exact h.elim
    | true =>
      rw [hd] at h
      obtain ⟨⟨fn, hfn, hbody, hname⟩, hcall⟩ := h
      generalize hv : a.eval f = v at hF
      cases (show RepD G.L w (.func (.func g) first cap) v from hF) with
      | func hf hc =>
        rename_i fs cs
        have hall := ((hf.all2.imp (fun x v h => rep_ofD (G := G) h)).append hA).append (hc.all2.imp (fun x v h => rep_ofD (G := G) h))
        have hC := hcall E G w _ I.h hall
        have hbn : fn.body.isNone = false := by cases hb : fn.body <;> simp_all
        have hrun : (execOp a.eval o).run P w = .ok (.enter g ((fs ++ c.args.toList.map a.eval) ++ cs).toArray) w := by
          have e1 : fs.toArray ++ Array.map a.eval c.args = (fs ++ c.args.toList.map a.eval).toArray := by
            apply Array.ext'; simp
          simp only [execOp, ho, Sem.run_bind, resolve, hcal, hv, Deferred.ofValue, Sem.run_pure, Result.andThen_ok, invoke, callFunc, run_program, hfn, hname, hbn]
          simp [e1]
        unfold Oper.wp
        rw [hrun]
        refine hC.mono ?_
        rintro e w' ⟨r, v, hp', G', rfl, hK, H', L', hr⟩
        exact ⟨_, G', hK, (I.world L'.later H').put (σ := σ.withHp hp') (by cases hdst : o.dst <;> simpa [dstOk, hdst, St.withHp] using hd) hr, put_nb (σ := σ.withHp hp') L'.le, L'.low, L'.later⟩
  · rename_i g is
    cases hd : dstOk σ o.dst with
    | false => rw [hd] at h; exact h.elim
    | true =>
      rw [hd] at h
      obtain ⟨⟨fn, hfn, hbody, hname⟩, hcall⟩ := h
      obtain ⟨cs, hv, hcs⟩ := (show Rep1 G w (.clo (.func g) is) _ from hF)
      have hall := hA.append (ptrs_rep hcs)
      have hC := hcall E G w _ I.h hall
      have hbn : fn.body.isNone = false := by cases hb : fn.body <;> simp_all
      have hrun : (execOp a.eval o).run P w = .ok (.enter g (c.args.toList.map a.eval ++ cs).toArray) w := by
        simp only [execOp, ho, Sem.run_bind, resolve, hcal, hv, Deferred.ofValue, Sem.run_pure, Result.andThen_ok, invoke, callFunc, run_program, hfn, hname, hbn]
        simp
      unfold Oper.wp
      rw [hrun]
      refine hC.mono ?_
      rintro e w' ⟨r, v, hp', G', rfl, hK, H', L', hr⟩
      exact ⟨_, G', hK, (I.world L'.later H').put (σ := σ.withHp hp') (by cases hdst : o.dst <;> simpa [dstOk, hdst, St.withHp] using hd) hr, put_nb (σ := σ.withHp hp') L'.le, L'.low, L'.later⟩
  · exact h.elim
end
end Go.Ax
