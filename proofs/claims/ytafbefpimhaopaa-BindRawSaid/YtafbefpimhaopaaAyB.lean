/- Ay, part B: closed code is run, in each order that may be: regions, code, calls. No project text. -/
import Derived.Test.YtafbefpimhaopaaAyA
set_option linter.unusedVariables false
set_option linter.unusedSimpArgs false
set_option linter.unnecessarySimpa false
set_option linter.unusedSectionVars false
namespace Go.Ax

abbrev BCall := FuncId → List AV → Hp → (AV → Hp → Bool) → Bool
def bcallV (call : BCall) (σ : St) (d : Option Tmp) (F : AV) (args : List AV) (k : St → Bool) : Bool :=
  match F with
  | .func (.func g) first cap => bif dstOk σ d then call g (first ++ args ++ cap) σ.hp (fun r hp => k ((σ.withHp hp).put d r)) else false
  | .clo (.func g) is => bif dstOk σ d then call g (args ++ varPtrs is) σ.hp (fun r hp => k ((σ.withHp hp).put d r)) else false
  | _ => false
def noCall : XCall := fun _ _ _ => none
def bthen (k : St → Bool) : Option St → Bool
  | some σ => k σ
  | none => false
def bop (tt : TT) (call : BCall) (o : Oper) (σ : St) (k : St → Bool) : Bool :=
  match o.op with
  | .call c => match c.callee with
    | .value f => match opd σ.env f, avArgs (opd σ.env) c.args.toList with
      | some F, some args => bcallV call σ o.dst F args k
      | _, _ => false
    | _ => bthen k (xop tt noCall o σ)
  | _ => bthen k (xop tt noCall o σ)
def bops (tt : TT) (call : BCall) (ops : Array Oper) : List Oper → St → (St → Bool) → Bool
  | [], σ, k => k σ
  | o :: rest, σ, k => match o.guard with
    | none => bop tt call o σ (fun σ' => bops tt call ops rest σ' k)
    | some (j, want) => match ops[j]? with
      | none => false
      | some oj => match oj.dst with
        | none => false
        | some t => match look t σ.env with
          | some (.lit (.bool b)) =>
            bif (bif want then b else !b) then bop tt call o (σ.put (some t) (.lit (.bool want))) (fun σ' => bops tt call ops rest σ' k)
            else bif dstOk σ o.dst then bops tt call ops rest ((σ.put (some t) (.lit (.bool (!want)))).put o.dst (.tup [])) k else false
          | some (.tup _) => bif dstOk σ o.dst then bops tt call ops rest (σ.put o.dst (.tup [])) k else false
          | _ => false
def untouched (l : List (Nat × Key)) (hp hp' : Hp) : Bool :=
  l.all fun y => (hp'.boxes.take (hp'.boxes.length - hp.boxes.length)).all fun e => !(y.2.eq e.1)
def bloud (tt : TT) (call : BCall) (o : Oper) (σ : St) (rd : List (Nat × Key)) (k : St → Bool) : Bool :=
  match openReads o rd with
  | [] => bop tt call o σ k
  | l => match o.op with
    | .store _ _ _ => match storeKey (opd σ.env) o.op with
      | some y => bif keyB y l then false else bop tt call o σ k
      | none => false
    | .call c => match c.callee with
      | .value f => match opd σ.env f, avArgs (opd σ.env) c.args.toList with
        | some F, some args => bcallV call σ o.dst F args (fun σ' => untouched l σ.hp σ'.hp && k σ')
        | _, _ => false
      | .builtin .append => bop tt call o σ k
      | _ => false
    | .alloc _ => bop tt call o σ k
    | .box _ _ => bop tt call o σ k
    | .build _ _ => bop tt call o σ k
    | .buildSlice _ _ _ => bop tt call o σ k
    | .assign _ => bop tt call o σ k
    | _ => false
def bguard (ops : Array Oper) (o : Oper) (σ : St) (run skip : St → Bool) : Bool :=
  match o.guard with
  | none => run σ
  | some (j, want) => match ops[j]? with
    | none => false
    | some oj => match oj.dst with
      | none => false
      | some t => match look t σ.env with
        | some (.lit (.bool b)) => bif (bif want then b else !b) then run (σ.put (some t) (.lit (.bool want)))
            else (bif dstOk σ o.dst then skip ((σ.put (some t) (.lit (.bool (!want)))).put o.dst (.tup [])) else false)
        | some (.tup _) => bif dstOk σ o.dst then skip (σ.put o.dst (.tup [])) else false
        | _ => false
def bquiet (tt : TT) (i : Nat) (o : Oper) (rd : List (Nat × Key)) (σ : St) (k : List (Nat × Key) → St → Bool) : Bool :=
  match o.op with
  | .alloc T => match tt T, o.dst with
    | some ty, some d => match avsOf ty.zero with
      | some zs => bif dstOk σ o.dst then k ((i, .l σ.hp.nb) :: rd) ((σ.withHp (σ.hp.addBox (.cells zs))).put (some d) (.ptr (.l σ.hp.nb) 0)) else false
      | none => false
    | _, _ => false
  | _ => bif dstOk σ o.dst then match xq (fun k => find k σ.hp.boxes) (qop tt (opd σ.env) (fun k => find k σ.hp.boxes) o.op) with
    | some x => k (tagKeys i (keysX (fun k => find k σ.hp.boxes) (readsX (opd σ.env) o.op)) ++ rd) (σ.put o.dst x)
    | none => false else false
def bdraw (tt : TT) (call : BCall) (ops : Array Oper) (k : St → Bool) : Nat → List Nat → List (Nat × Key) → St → Bool
  | 0, _, _, _ => false
  | n + 1, done, rd, σ => match firstQuiet ops.toList done 0 ops.toList with
    | some (i, o) => bguard ops o σ (fun σ => bquiet tt i o rd σ (fun rd' σ' => bdraw tt call ops k n (i :: done) rd' σ')) (fun σ => bdraw tt call ops k n (i :: done) rd σ)
    | none => match readyLouds done 0 ops.toList with
      | [] => bif Nat.beq done.length ops.size then k σ else false
      | l => l.all fun x => bguard ops x.2 σ (fun σ => bloud tt call x.2 σ rd (fun σ' => bdraw tt call ops k n (x.1 :: done) rd σ')) (fun σ => bdraw tt call ops k n (x.1 :: done) rd σ)
def xresL (tt : TT) (σ : St) : List ResultVar → Option (List AV)
  | [] => some []
  | .tmp t :: r => match look t σ.env, xresL tt σ r with
    | some x, some l => some (x :: l)
    | _, _ => none
  | .cell t T :: r => match tt T, look t σ.env with
    | some ty, some A => match xq (fun k => find k σ.hp.boxes) (loadQ ty (fun k => find k σ.hp.boxes) A), xresL tt σ r with
      | some x, some l => some (x :: l)
      | _, _ => none
    | _, _ => none
def xend (hp : Hp) : List AV → Option (AV × Hp)
  | [x] => some (x, hp)
  | l => bif l.all notTup then some (.tup l, hp) else none
def xret (tt : TT) (fn : Func) : AExit × St → Option (AV × Hp)
  | (.exit _, _) => none
  | (_, σ) => match xresL tt σ fn.results.toList with
    | some l => xend σ.hp l
    | none => none
abbrev Fns := FuncId → Option Func
/-- Of each function the slots whose first append makes a row that may be written. -/
abbrev Pol := FuncId → List Nat
def bres (tt : TT) (fn : Func) (k : AV → Hp → Bool) (e : AExit) (σ : St) : Bool :=
  match xret tt fn (e, σ) with
  | some (r, hp) => k r hp
  | none => false
def bcallBy (tt : TT) (fns : Fns) (pol : Pol) (run : Code → St → (AExit → St → Bool) → Bool) : BCall := fun g args hp k =>
  match fns g with
  | none => false
  | some fn => match fn.body with
    | none => false
    | some c => bif !(fn.name == "runtime.NumGoroutine") && Nat.ble args.length fn.ntmps then run c ⟨envOf 0 args, fn.ntmps, hp, pol g⟩ (bres tt fn k) else false
def bseq (b : St → (AExit → St → Bool) → Bool) (k : AExit → St → Bool) : AExit → St → Bool
  | .normal, σ => b σ k
  | e, σ => k e σ
def bblock (id : Nat) (k : AExit → St → Bool) : AExit → St → Bool
  | .exit id', σ => bif Nat.beq id' id then k .normal σ else k (.exit id') σ
  | e, σ => k e σ
def bcode (tt : TT) (fns : Fns) (pol : Pol) : Nat → Code → St → (AExit → St → Bool) → Bool
  | 0, _, _, _ => false
  | n + 1, c, σ, k => match c with
    | .skip => k .normal σ
    | .region _ ops false => bops tt (bcallBy tt fns pol (bcode tt fns pol n)) ops ops.toList σ (k .normal)
    | .region _ ops true => bif apartB ops then bdraw tt (bcallBy tt fns pol (bcode tt fns pol n)) ops (k .normal) (ops.size + 1) [] [] σ else false
    | .seq a b => bcode tt fns pol n a σ (bseq (bcode tt fns pol n b) k)
    | .cond c x y => match opd σ.env c with
      | some (.lit (.bool b)) => bif b then bcode tt fns pol n x (σ.known c true) k else bcode tt fns pol n y (σ.known c false) k
      | _ => false
    | .block id c => bcode tt fns pol n c σ (bblock id k)
    | .exit id => k (.exit id) σ
    | .loop c => bcode tt fns pol n c σ (bseq (bcode tt fns pol n (.loop c)) k)
    | .ret => k .ret σ
    | .label _ => k .normal σ
    | _ => false

/-- Variables are added, or written, in front alone. -/
def Pre (hp hp' : Hp) : Prop := ∃ l, hp'.boxes = l ++ hp.boxes
theorem Pre.refl (hp : Hp) : Pre hp hp := ⟨[], rfl⟩
theorem Pre.trans {a b c : Hp} (h : Pre a b) (k : Pre b c) : Pre a c := by
  obtain ⟨l, hl⟩ := h
  obtain ⟨m, hm⟩ := k
  exact ⟨m ++ l, by rw [hm, hl, List.append_assoc]⟩
theorem find_pre {k : Key} : ∀ {l bs : List (Key × Box)}, (l.all fun e => !(k.eq e.1)) = true → find k (l ++ bs) = find k bs
  | [], bs, _ => rfl
  | (k', b) :: l, bs, h => by
    simp only [List.all_cons, Bool.and_eq_true, Bool.not_eq_true'] at h
    simp only [List.cons_append, find, h.1, cond_false]
    exact find_pre h.2
theorem untouched_same {l : List (Nat × Key)} {hp hp' : Hp} (h : untouched l hp hp' = true) (p : Pre hp hp') : SameAt l hp hp' := by
  intro y hy
  obtain ⟨m, hm⟩ := p
  have := List.all_eq_true.1 h y hy
  rw [hm] at this ⊢
  simp only [List.length_append, Nat.add_sub_cancel, List.take_left] at this
  exact find_pre this
section
variable {P : Program} {B : Base} {tt : TT} {σ σ' : St} {K : St → Prop} {fns : Fns} {pol : Pol}
theorem pre_put {hp : Hp} {d : Option Tmp} {x : AV} (h : Pre hp σ.hp) : Pre hp (σ.put d x).hp := by rw [put_hp]; exact h
theorem xbox_pre {d : Option Tmp} {X : AV} (h : xbox σ d X = some σ') : Pre σ.hp σ'.hp := by
  unfold xbox at h
  split at h
  · simp at h
  · cases hd : dstOk σ d with
    | false => rw [hd] at h; simp at h
    | true => rw [hd] at h; simp only [cond_true, Option.some.injEq] at h; subst h; exact pre_put ⟨[(.l σ.hp.nb, .cells X.cells)], rfl⟩
theorem xstoreB_pre {ty : TyI} {A : AV} {xs : List AV} (h : xstoreB σ ty A xs = some σ') : Pre σ.hp σ'.hp := by
  unfold xstoreB at h
  split at h
  · rename_i k off
    split at h
    · rename_i cs hf
      cases hc : (Nat.beq xs.length ty.size && Nat.ble (off + ty.size) cs.length) with
      | false => rw [hc] at h; simp at h
      | true =>
        rw [hc] at h
        simp only [cond_true, Option.some.injEq] at h
        subst h
        exact ⟨[(k, .cells (splice cs off xs))], rfl⟩
    · simp at h
  · rename_i kk sz i off
    split at h
    · rename_i sz' items hf
      split at h
      · rename_i x hx
        cases hc : (Nat.beq sz sz' && Nat.beq xs.length ty.size && Nat.ble (off + ty.size) x.cells.length) with
        | false => rw [hc] at h; simp at h
        | true =>
          rw [hc] at h
          simp only [cond_true, Option.some.injEq] at h
          subst h
          exact ⟨[(.l kk, .row sz (items.set i (putCells x off xs)))], rfl⟩
      · simp at h
    · simp at h
  · simp at h
theorem xstore_pre {ty : TyI} {A X : AV} (h : xstore σ ty A X = some σ') : Pre σ.hp σ'.hp := by
  unfold xstore at h
  split at h
  · simp at h
  · exact xstoreB_pre h
theorem xput_pre {d : Option Tmp} {l : Option (List AV)} (h : xput σ d l = some σ') : Pre σ.hp σ'.hp := by
  unfold xput at h
  split at h
  · cases hd : dstOk σ d with
    | false => rw [hd] at h; simp at h
    | true => rw [hd] at h; simp only [cond_true, Option.some.injEq] at h; subst h; exact pre_put (.refl _)
  · simp at h
theorem xbuild_pre {d : Option Tmp} {ty : TyI} {ps : List (Nat × AV)} (h : xbuild tt σ d ty ps = some σ') : Pre σ.hp σ'.hp := by
  unfold xbuild at h
  split at h
  · simp at h
  · split at h
    · split at h
      · simp at h
      · exact xput_pre h
    · split at h
      · simp at h
      · exact xput_pre h
    · simp at h
theorem xbuildSlice_pre {d : Option Tmp} {ty : TyI} {n : Nat} {ps : List (Nat × AV)} (h : xbuildSlice tt σ d ty n ps = some σ') : Pre σ.hp σ'.hp := by
  unfold xbuildSlice at h
  split at h
  · split at h
    · rename_i te hte
      cases hc : (Nat.beq ps.length n && Nat.ble (n * te.size) 16777216 && Nat.ble n 16777216 && dstOk σ d) with
      | false => rw [hc] at h; simp at h
      | true =>
        rw [hc] at h
        simp only [cond_true] at h
        split at h
        · simp only [Option.some.injEq] at h; subst h; exact pre_put (.refl _)
        · split at h
          · simp only [Option.some.injEq] at h; subst h; exact pre_put ⟨[], rfl⟩
          · simp at h
    · simp at h
  · simp at h
theorem xappend_pre {d : Option Tmp} {ty : TyI} {S X : AV} (h : xappend tt σ d ty S X = some σ') : Pre σ.hp σ'.hp := by
  unfold xappend at h
  split at h
  · split at h
    · rename_i te hte
      split at h
      · rename_i sz t items
        split at h
        · rename_i sz2 t2 ys
          cases hrw : (isNilT t && rowDst σ d && someL ys) with
          | true =>
            rw [hrw] at h
            simp only [cond_true] at h
            cases hc : ((isNilT t2 || Nat.beq sz2 te.size) && dstOk σ d && Nat.ble (ys.length * te.bytes) 140737488355328 && Nat.ble ys.length 140737488355328) with
            | false => rw [hc] at h; simp at h
            | true =>
              rw [hc] at h
              simp only [cond_true, Option.some.injEq] at h
              subst h
              exact pre_put ⟨[(.l σ.hp.nb, .row te.size ys)], rfl⟩
          | false =>
            rw [hrw] at h
            simp only [cond_false] at h
            cases hc : ((isNilT t || Nat.beq sz te.size) && (isNilT t2 || Nat.beq sz2 te.size) && dstOk σ d) with
            | false => rw [hc] at h; simp at h
            | true =>
              rw [hc] at h
              simp only [cond_true] at h
              cases hc2 : (tokOk σ.hp t && Nat.ble ((items.length + ys.length) * te.bytes) 140737488355328 && Nat.ble (items.length + ys.length) 140737488355328) with
              | false => rw [hc2] at h; simp at h
              | true =>
                rw [hc2] at h
                simp only [cond_true, Option.some.injEq] at h
                subst h
                exact pre_put ⟨[], rfl⟩
        · simp at h
      · simp at h
    · simp at h
  · simp at h
theorem xquiet_pre {o : Oper} (h : xquiet tt o σ = some σ') : Pre σ.hp σ'.hp := by
  unfold xquiet at h
  cases hd : dstOk σ o.dst with
  | false => rw [hd] at h; simp at h
  | true =>
    rw [hd] at h
    simp only [cond_true] at h
    split at h
    · simp only [Option.some.injEq] at h; subst h; exact pre_put (.refl _)
    · simp at h

theorem xop_pre {o : Oper} (h : xop tt noCall o σ = some σ') : Pre σ.hp σ'.hp := by
  unfold xop at h
  split at h
  · split at h
    · split at h
      · exact xbox_pre h
      · simp at h
    · simp at h
  · split at h
    · exact xbox_pre h
    · simp at h
  · split at h
    · exact xstore_pre h
    · simp at h
  · split at h
    · exact xbuild_pre h
    · simp at h
  · split at h
    · exact xbuildSlice_pre h
    · simp at h
  · split at h
    · split at h
      · split at h
        · split at h
          · exact xappend_pre h
          · simp at h
        · simp at h
      · simp at h
    · exact xquiet_pre h
    · split at h
      · unfold xcallV at h
        split at h
        · cases hd : dstOk σ _ with
          | false => rw [hd] at h; simp at h
          | true => rw [hd] at h; simp [noCall, xres] at h
        · cases hd : dstOk σ _ with
          | false => rw [hd] at h; simp at h
          | true => rw [hd] at h; simp [noCall, xres] at h
        · simp at h
      · simp at h
    · simp at h
  · exact xquiet_pre h
theorem noCall_ok : XOk P noCall := fun _ _ _ _ _ h => by simp [noCall] at h
/-- What a run of calls is worth. -/
def BOk (P : Program) (call : BCall) : Prop := ∀ g args hp k, call g args hp k = true → ∀ Q : AV → Hp → Prop, (∀ r hp', Pre hp hp' → k r hp' = true → Q r hp') → ICalls P g args hp Q
variable {call : BCall}
theorem bcallV_ok (ok : BOk P call) {d : Option Tmp} {F : AV} {args : List AV} {k : St → Bool} (h : bcallV call σ d F args k = true) (hk : ∀ σ', Pre σ.hp σ'.hp → k σ' = true → K σ') : callA P σ d F args K := by
  have key : ∀ g l, call g l σ.hp (fun r hp => k ((σ.withHp hp).put d r)) = true → ICalls P g l σ.hp (fun r hp' => K ((σ.withHp hp').put d r)) :=
    fun g l h => ok g l σ.hp _ h _ fun r hp' hp hr => hk _ (by rw [put_hp]; exact hp) hr
  unfold bcallV at h
  unfold callA
  split at h
  · cases hd : dstOk σ d with
    | false => rw [hd] at h; simp at h
    | true => rw [hd] at h; exact key _ _ h
  · cases hd : dstOk σ d with
    | false => rw [hd] at h; simp at h
    | true => rw [hd] at h; exact key _ _ h
  · simp at h
theorem bcallV_same (ok : BOk P call) {l : List (Nat × Key)} {d : Option Tmp} {F : AV} {args : List AV} {k : St → Bool} (h : bcallV call σ d F args (fun σ' => untouched l σ.hp σ'.hp && k σ') = true) (hk : ∀ σ', Pre σ.hp σ'.hp → k σ' = true → K σ') : callS P σ l d F args K := by
  have key : ∀ g a, call g a σ.hp (fun r hp => untouched l σ.hp ((σ.withHp hp).put d r).hp && k ((σ.withHp hp).put d r)) = true → ICalls P g a σ.hp (fun r hp' => SameAt l σ.hp hp' ∧ K ((σ.withHp hp').put d r)) :=
    fun g a h => ok g a σ.hp _ h _ fun r hp' hp hr => by
      simp only [Bool.and_eq_true, put_hp] at hr
      exact ⟨untouched_same hr.1 hp, hk _ (by rw [put_hp]; exact hp) hr.2⟩
  unfold bcallV at h
  unfold callS
  split at h
  · cases hd : dstOk σ d with
    | false => rw [hd] at h; simp at h
    | true => rw [hd] at h; exact key _ _ h
  · cases hd : dstOk σ d with
    | false => rw [hd] at h; simp at h
    | true => rw [hd] at h; exact key _ _ h
  · simp at h
theorem bthen_ok {o : Oper} {k : St → Bool} (h : bthen k (xop tt noCall o σ) = true) (hk : ∀ σ', Pre σ.hp σ'.hp → k σ' = true → K σ') : aop P tt o σ K := by
  cases hx : xop tt noCall o σ with
  | none => rw [hx] at h; simp [bthen] at h
  | some σ2 => rw [hx] at h; exact xop_ok noCall_ok hx (hk _ (xop_pre hx) h)
theorem bop_ok (ok : BOk P call) {o : Oper} {k : St → Bool} (h : bop tt call o σ k = true) (hk : ∀ σ', Pre σ.hp σ'.hp → k σ' = true → K σ') : aop P tt o σ K := by
  unfold bop at h
  split at h
  · rename_i c ho
    split at h
    · rename_i f hcal
      unfold aop
      simp only [ho, hcal]
      split at h
      · rename_i F args hF hA; simp only [hF, hA]; exact bcallV_ok ok h hk
      · simp at h
    · exact bthen_ok h hk
  · exact bthen_ok h hk
theorem bops_ok (ok : BOk P call) {ops : Array Oper} {k : St → Bool} : ∀ {l : List Oper} {σ : St}, bops tt call ops l σ k = true → (∀ σ', Pre σ.hp σ'.hp → k σ' = true → K σ') → arunOps P tt ops l σ K
  | [], σ, h, hk => hk _ (.refl _) h
  | o :: rest, σ, h, hk => by
    have go : ∀ {σ1 : St}, σ1.hp = σ.hp → bop tt call o σ1 (fun σ' => bops tt call ops rest σ' k) = true → aop P tt o σ1 (fun σ' => arunOps P tt ops rest σ' K) := by
      intro σ1 e h
      exact bop_ok (K := fun σ' => arunOps P tt ops rest σ' K) ok h fun σ2 hp h2 => bops_ok ok h2 fun σ3 hp3 h3 => hk _ (by rw [e] at hp; exact hp.trans hp3) h3
    unfold bops at h
    unfold arunOps
    split at h
    · rename_i hg; simp only [hg]; exact go rfl h
    · rename_i j want hg
      simp only [hg]
      split at h
      · simp at h
      · rename_i oj hj
        simp only [hj]
        split at h
        · simp at h
        · rename_i t ht
          simp only [ht]
          split at h
          · rename_i b hb
            simp only [hb]
            cases hw : (bif want then b else !b) with
            | true => rw [hw] at h; exact go (by rw [put_hp]) h
            | false =>
              rw [hw] at h
              simp only [cond_false] at h
              cases hd : dstOk σ o.dst with
              | false => rw [hd] at h; simp at h
              | true => rw [hd] at h; exact bops_ok ok h fun σ3 hp3 h3 => hk _ (by rw [put_hp, put_hp] at hp3; exact hp3) h3
          · rename_i cs hb
            simp only [hb]
            cases hd : dstOk σ o.dst with
            | false => rw [hd] at h; simp at h
            | true => rw [hd] at h; exact bops_ok ok h fun σ3 hp3 h3 => hk _ (by rw [put_hp] at hp3; exact hp3) h3
          · simp at h
theorem bloud_ok (ok : BOk P call) {o : Oper} {rd : List (Nat × Key)} {k : St → Bool} (h : bloud tt call o σ rd k = true) (hk : ∀ σ', Pre σ.hp σ'.hp → k σ' = true → K σ') : loudD P tt o σ rd K := by
  unfold bloud at h
  unfold loudD
  split at h
  · rename_i hl; simp only [hl]; exact bop_ok ok h hk
  · rename_i l hl
    split at h
    · rename_i T x y ho
      split at h
      · rename_i y hy
        cases hb : keyB y (openReads o rd) with
        | true => rw [hb] at h; simp at h
        | false =>
          rw [hb] at h
          simp only [ho]
          rw [ho] at hy
          simp only [hy, hb, cond_false]
          exact bop_ok ok h hk
      · simp at h
    · rename_i c ho
      simp only [ho]
      split at h
      · rename_i f hcal
        simp only [hcal]
        split at h
        · rename_i F args hF hA
          simp only [hF, hA]
          exact bcallV_same ok h hk
        · simp at h
      · rename_i hcal
        simp only [hcal]
        exact bop_ok ok h hk
      · simp at h
    all_goals first
      | (simp at h; done)
      | (rename_i ho; simp only [ho]; exact bop_ok ok h hk)
theorem bguard_ok {ops : Array Oper} {o : Oper} {run skip : St → Bool} {runP skipP : St → Prop} (h : bguard ops o σ run skip = true)
    (h1 : ∀ σ1, σ1.hp = σ.hp → run σ1 = true → runP σ1) (h2 : ∀ σ1, σ1.hp = σ.hp → skip σ1 = true → skipP σ1) : guardD ops o σ runP skipP := by
  unfold bguard at h
  unfold guardD
  split at h
  · rename_i hg; simp only [hg]; exact h1 _ rfl h
  · rename_i j want hg
    simp only [hg]
    split at h
    · simp at h
    · rename_i oj hj
      simp only [hj]
      split at h
      · simp at h
      · rename_i t ht
        simp only [ht]
        split at h
        · rename_i b hb
          simp only [hb]
          cases hw : (bif want then b else !b) with
          | true => rw [hw] at h; exact h1 _ (by rw [put_hp]) h
          | false =>
            rw [hw] at h
            simp only [cond_false] at h
            cases hd : dstOk σ o.dst with
            | false => rw [hd] at h; simp at h
            | true => rw [hd] at h; exact h2 _ (by rw [put_hp, put_hp]) h
        · rename_i cs hb
          simp only [hb]
          cases hd : dstOk σ o.dst with
          | false => rw [hd] at h; simp at h
          | true => rw [hd] at h; exact h2 _ (by rw [put_hp]) h
        · simp at h
theorem bquiet_ok {i : Nat} {o : Oper} {rd : List (Nat × Key)} {k : List (Nat × Key) → St → Bool} {K : List (Nat × Key) → St → Prop} (h : bquiet tt i o rd σ k = true) (hk : ∀ rd' σ', Pre σ.hp σ'.hp → k rd' σ' = true → K rd' σ') : quietD tt i o rd σ K := by
  unfold bquiet at h
  unfold quietD
  split at h
  · rename_i T ho
    simp only [ho]
    split at h
    · rename_i ty d hty hdd
      simp only [hty, hdd]
      split at h
      · rename_i zs hz
        simp only [hz]
        rw [← hdd]
        cases hd : dstOk σ o.dst with
        | false => rw [hd] at h; simp at h
        | true =>
          rw [hd] at h
          simp only [cond_true] at h ⊢
          rw [hdd]
          exact hk _ _ (by rw [put_hp]; exact ⟨[(.l σ.hp.nb, .cells zs)], rfl⟩) h
      · simp at h
    · simp at h
  · rename_i hno
    cases hd : dstOk σ o.dst with
    | false => rw [hd] at h; simp at h
    | true =>
      rw [hd] at h
      simp only [cond_true] at h
      split at h
      · rename_i x hx
        have := xq_run (K := fun x => K (tagKeys i (keysX (fun k => find k σ.hp.boxes) (readsX (opd σ.env) o.op)) ++ rd) (σ.put o.dst x)) _ hx (hk _ _ (by rw [put_hp]; exact .refl _) h)
        split
        · rename_i T ho; exact absurd ho (hno T)
        · exact this
      · simp at h
theorem eachD_of {f : Nat × Oper → Prop} : ∀ {l : List (Nat × Oper)}, (∀ x, x ∈ l → f x) → eachD f l
  | [], _ => trivial
  | [x], h => h x (by simp)
  | x :: y :: r, h => ⟨h x (by simp), eachD_of (l := y :: r) fun z hz => h z (List.mem_cons_of_mem _ hz)⟩
theorem bdraw_ok (ok : BOk P call) {ops : Array Oper} {k : St → Bool} : ∀ (n : Nat) {done : List Nat} {rd : List (Nat × Key)} {σ : St}, bdraw tt call ops k n done rd σ = true → (∀ σ', Pre σ.hp σ'.hp → k σ' = true → K σ') → arunD P tt ops K n done rd σ
  | 0, done, rd, σ, h, _ => by simp [bdraw] at h
  | n + 1, done, rd, σ, h, hk => by
    unfold bdraw at h
    unfold arunD
    split at h
    · rename_i i o hf
      simp only [hf]
      refine bguard_ok h (fun σ1 e h1 => ?_) (fun σ1 e h1 => ?_)
      · exact bquiet_ok (K := fun rd' σ' => arunD P tt ops K n (i :: done) rd' σ') h1 fun rd' σ2 hp2 h2 => bdraw_ok ok n h2 fun σ3 hp3 h3 => hk _ (by rw [e] at hp2; exact hp2.trans hp3) h3
      · exact bdraw_ok ok n h1 fun σ3 hp3 h3 => hk _ (by rw [e] at hp3; exact hp3) h3
    · rename_i hf
      simp only [hf]
      split at h
      · rename_i hl
        simp only [hl]
        cases hb : Nat.beq done.length ops.size with
        | false => rw [hb] at h; simp at h
        | true => rw [hb] at h; exact hk _ (.refl _) h
      · rename_i l hl
        have := eachD_of (f := fun x => guardD ops x.2 σ (fun σ => loudD P tt x.2 σ rd (fun σ' => arunD P tt ops K n (x.1 :: done) rd σ')) (fun σ => arunD P tt ops K n (x.1 :: done) rd σ)) (l := readyLouds done 0 ops.toList) fun x hx => by
          refine bguard_ok (List.all_eq_true.1 h x hx) (fun σ1 e h1 => ?_) (fun σ1 e h1 => ?_)
          · exact bloud_ok ok h1 fun σ2 hp2 h2 => bdraw_ok ok n h2 fun σ3 hp3 h3 => hk _ (by rw [e] at hp2; exact hp2.trans hp3) h3
          · exact bdraw_ok ok n h1 fun σ3 hp3 h3 => hk _ (by rw [e] at hp3; exact hp3) h3
        split
        · rename_i hn; exact absurd hn hl
        · exact this
theorem xresL_ok {rs : List ResultVar} : ∀ {l : List AV} {K : List AV → Prop}, xresL tt σ rs = some l → K l → resQ tt σ rs K := by
  induction rs with
  | nil => intro l K h k; simp only [xresL, Option.some.injEq] at h; subst h; exact k
  | cons x r ih =>
    intro l K h k
    cases x with
    | tmp t =>
      unfold xresL at h
      unfold resQ
      split at h
      · rename_i x l' hx hl
        simp only [Option.some.injEq] at h; subst h
        simp only [hx]
        exact ih (K := fun l => K (x :: l)) hl k
      · simp at h
    | cell t T =>
      unfold xresL at h
      unfold resQ
      split at h
      · rename_i ty A hty hA
        simp only [hty, hA]
        split at h
        · rename_i x l' hx hl
          simp only [Option.some.injEq] at h; subst h
          exact xq_run _ hx (ih (K := fun l => K (x :: l)) hl k)
        · simp at h
      · simp at h
theorem xret_ok {fn : Func} {e : AExit} {r : AV} {hp' : Hp} (h : xret tt fn (e, σ) = some (r, hp')) {Q : AV → Hp → Prop} (k : Q r hp') : retQ tt fn.results.toList Q e σ ∧ hp' = σ.hp := by
  have go : (match xresL tt σ fn.results.toList with
    | some l => xend σ.hp l
    | none => none) = some (r, hp') → resQ tt σ fn.results.toList (endQ Q σ.hp) ∧ hp' = σ.hp := by
    intro h
    split at h
    · rename_i l hl
      unfold xend at h
      split at h
      · simp only [Option.some.injEq, Prod.mk.injEq] at h
        obtain ⟨rfl, rfl⟩ := h
        exact ⟨xresL_ok (K := endQ Q σ.hp) hl k, rfl⟩
      · rename_i hne
        cases ha : l.all notTup with
        | false => rw [ha] at h; simp at h
        | true =>
          rw [ha] at h
          simp only [cond_true, Option.some.injEq, Prod.mk.injEq] at h
          obtain ⟨rfl, rfl⟩ := h
          refine ⟨xresL_ok (K := endQ Q σ.hp) hl ?_, rfl⟩
          unfold endQ
          split
          · exact absurd rfl (hne _)
          · exact .intro ha k
    · simp at h
  cases e with
  | exit id => simp [xret] at h
  | normal => exact go h
  | ret => exact go h

theorem bres_ok {fn : Func} {k : AV → Hp → Bool} {e : AExit} (h : bres tt fn k e σ = true) {Q : AV → Hp → Prop} (hk : ∀ r, k r σ.hp = true → Q r σ.hp) : retQ tt fn.results.toList Q e σ := by
  unfold bres at h
  split at h
  · rename_i r hp hx
    have e1 := (xret_ok (Q := fun _ _ => True) hx trivial).2
    subst e1
    exact (xret_ok hx (hk _ h)).1
  · simp at h
theorem bcode_ok (ok : TTOk P tt) (hm : P.follows .mixedOrders = true) (hf : ∀ g fn, fns g = some fn → P.funcs[g]? = some fn) :
    ∀ (n : Nat) {c : Code} {σ : St} {k : AExit → St → Bool}, bcode tt fns pol n c σ k = true → ∀ (B : Base), B.cuts = [] → ∀ (Q : AExit → St → Prop), (∀ e σ', Pre σ.hp σ'.hp → k e σ' = true → Q e σ') → arun P B tt c σ Q
  | 0, c, σ, k, h, _, _, _, _ => by simp [bcode] at h
  | n + 1, c, σ, k, h, B, hB, Q, hk => by
    have cok : BOk P (bcallBy tt fns pol (bcode tt fns pol n)) := by
      intro g args hp k h Q hk
      unfold bcallBy at h
      split at h
      · simp at h
      · rename_i fn hfn
        split at h
        · simp at h
        · rename_i c hc
          cases hb : (!(fn.name == "runtime.NumGoroutine") && Nat.ble args.length fn.ntmps) with
          | false => rw [hb] at h; simp at h
          | true =>
            rw [hb] at h
            simp only [Bool.and_eq_true, Bool.not_eq_true'] at hb
            simp only [cond_true] at h
            exact icalls_rows ok (pol g) [] (hf _ _ hfn) hc hb.1 hb.2 (bcode_ok ok hm hf n h _ rfl _ fun e σ' hp' hr => bres_ok hr fun r hr => hk r _ hp' hr)
    have hseq : ∀ (b : St → (AExit → St → Bool) → Bool) (bP : St → (AExit → St → Prop) → Prop), (∀ σ', b σ' k = true → (∀ e σ'', Pre σ'.hp σ''.hp → k e σ'' = true → Q e σ'') → bP σ' Q) →
        ∀ e σ', Pre σ.hp σ'.hp → bseq b k e σ' = true → seqK bP Q e σ' := by
      intro b bP hb e σ' hp h
      cases e with
      | normal => exact hb σ' h fun e σ'' hp' hr => hk _ _ (hp.trans hp') hr
      | exit id => exact hk _ _ hp h
      | ret => exact hk _ _ hp h
    cases c with
    | skip => exact hk _ _ (.refl _) h
    | exit id => exact hk _ _ (.refl _) h
    | ret => exact hk _ _ (.refl _) h
    | label l => exact hk _ _ (.refl _) h
    | region id ops draw =>
      cases draw with
      | false => exact bops_ok cok h fun σ' hp hr => hk _ _ hp hr
      | true =>
        simp only [bcode] at h
        cases hap : apartB ops with
        | false => rw [hap] at h; simp at h
        | true =>
          rw [hap] at h
          simp only [cond_true] at h
          exact arunDraw_of ok hm hap (bdraw_ok cok _ h fun σ' hp hr => hk _ _ hp hr)
    | seq a b =>
      have e : cutAt B.cuts b = false := by rw [hB]; rfl
      unfold arun
      rw [e]
      exact bcode_ok ok hm hf n (show bcode tt fns pol n a σ _ = true from h) B hB _ (hseq _ _ fun σ' h1 hk1 => bcode_ok ok hm hf n h1 B hB Q hk1)
    | cond c x y =>
      simp only [bcode] at h
      split at h
      · rename_i b hb
        simp only [arun, hb]
        cases b with
        | true => exact bcode_ok ok hm hf n (show bcode tt fns pol n x (σ.known c true) k = true from h) B hB Q (by rw [known_hp]; exact hk)
        | false => exact bcode_ok ok hm hf n (show bcode tt fns pol n y (σ.known c false) k = true from h) B hB Q (by rw [known_hp]; exact hk)
      · simp at h
    | block id c =>
      refine bcode_ok ok hm hf n (show bcode tt fns pol n c σ _ = true from h) B hB _ fun e σ' hp hr => ?_
      cases e with
      | normal => exact hk _ _ hp hr
      | ret => exact hk _ _ hp hr
      | exit id' =>
        simp only [bblock] at hr
        simp only [blockK]
        cases hb : Nat.beq id' id with
        | true => rw [hb] at hr; exact hk _ _ hp hr
        | false => rw [hb] at hr; exact hk _ _ hp hr
    | loop c => exact aloop_round ok (bcode_ok ok hm hf n (show bcode tt fns pol n c σ _ = true from h) B hB _ (hseq _ _ fun σ' h1 hk1 => bcode_ok ok hm hf n h1 B hB Q hk1))
    | rangeFunc f ps x y => simp [bcode] at h
    | scope c => simp [bcode] at h
    | goto l => simp [bcode] at h
    | refuse s => simp [bcode] at h
def isTrue : AV → Hp → Bool
  | .lit (.bool true), _ => true
  | _, _ => false
/-- A closed call comes to true. -/
theorem btrue (ok : TTOk P tt) (hm : P.follows .mixedOrders = true) (hf : ∀ g fn, fns g = some fn → P.funcs[g]? = some fn) {g : FuncId} (n : Nat) (h : bcallBy tt fns pol (bcode tt fns pol n) g [] Hp.none isTrue = true) :
    Pure P g [] (fun r => r = .lit (.bool true)) := by
  unfold bcallBy at h
  split at h
  · simp at h
  · rename_i fn hfn
    split at h
    · simp at h
    · rename_i c hc
      cases hb : (!(fn.name == "runtime.NumGoroutine") && Nat.ble ([] : List AV).length fn.ntmps) with
      | false => rw [hb] at h; simp at h
      | true =>
        rw [hb] at h
        simp only [Bool.and_eq_true, Bool.not_eq_true'] at hb
        simp only [cond_true] at h
        refine pure_of rfl (icalls_rows ok (pol g) [] (hf _ _ hfn) hc hb.1 hb.2 (bcode_ok ok hm hf n h _ rfl _ fun e σ' hp' hr => bres_ok hr fun r hr => ?_))
        unfold isTrue at hr
        split at hr
        · exact ⟨_, ⟨rfl, rfl⟩, rfl⟩
        · simp at hr
def lookP (g : FuncId) : List (FuncId × List Nat) → List Nat
  | [] => []
  | (g', l) :: r => bif Nat.beq g g' then l else lookP g r
def lookF (g : FuncId) : List (FuncId × Func) → Option Func
  | [] => none
  | (g', f) :: r => bif Nat.beq g g' then some f else lookF g r
theorem lookF_ok : ∀ {l : List (FuncId × Func)}, All2 (fun x (_ : Unit) => P.funcs[x.1]? = some x.2) l (l.map fun _ => ()) → ∀ g fn, lookF g l = some fn → P.funcs[g]? = some fn
  | [], _, g, fn, h => by simp [lookF] at h
  | (g', f) :: r, .cons h1 h2, g, fn, h => by
    simp only [lookF] at h
    cases hb : Nat.beq g g' with
    | true => rw [hb] at h; simp at h; rw [Nat.eq_of_beq_eq_true hb, ← h]; exact h1
    | false => rw [hb] at h; exact lookF_ok h2 g fn h
end
end Go.Ax

