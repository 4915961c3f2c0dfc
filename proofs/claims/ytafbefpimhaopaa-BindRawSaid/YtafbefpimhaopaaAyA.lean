/- Ay, part A: closed code is run. No project text. -/
import Derived.Test.YtafbefpimhaopaaAxZ
import Derived.Test.YtafbefpimhaopaaAxV
set_option linter.unusedVariables false
set_option linter.unusedSimpArgs false
set_option linter.unnecessarySimpa false
set_option linter.unusedSectionVars false
namespace Go.Ax

def xq (fb : Key → Option Box) : QRes → Option AV
  | .fail => none
  | .val x => some x
  | .br true t _ => xq fb t
  | .br false _ f => xq fb f
  | .must true r => xq fb r
  | .must false _ => none
  | .get items i k => bif decide (0 ≤ i) then match items[i.toNat]? with
    | some x => xq fb (k x)
    | none => none else none
  | .outer b k => match fb (.o b) with
    | some bx => xq fb (k bx)
    | none => none
  | .bytes _ _ => none
theorem xq_run {fb : Key → Option Box} {K : AV → Prop} {x : AV} : ∀ (r : QRes), xq fb r = some x → K x → r.run fb K
  | .fail, h, _ => by simp [xq] at h
  | .val y, h, k => by simp [xq] at h; subst h; exact k
  | .br true t f, h, k => xq_run t h k
  | .br false t f, h, k => xq_run f h k
  | .must true r, h, k => xq_run r h k
  | .must false r, h, _ => by simp [xq] at h
  | .get items i c, h, k => by
    simp only [xq] at h
    cases hd : decide (0 ≤ i) with
    | false => rw [hd] at h; simp at h
    | true =>
      rw [hd] at h
      simp only [cond_true] at h
      split at h
      · rename_i y hy
        exact ⟨y, ⟨of_decide_eq_true hd, hy⟩, xq_run (c y) h k⟩
      · simp at h
  | .outer b c, h, k => by
    simp only [xq] at h
    split at h
    · rename_i bx hb; exact ⟨bx, hb, xq_run (c bx) h k⟩
    · simp at h
  | .bytes _ _, h, _ => by simp [xq] at h

def xbox (σ : St) (d : Option Tmp) (X : AV) : Option St :=
  match X with
  | .tup _ => none
  | X => bif dstOk σ d then some ((σ.withHp (σ.hp.addBox (.cells X.cells))).put d (.ptr (.l σ.hp.nb) 0)) else none
def xstoreB (σ : St) (ty : TyI) (A : AV) (xs : List AV) : Option St :=
  match A with
  | .ptr k off => match find k σ.hp.boxes with
    | some (.cells cs) => bif Nat.beq xs.length ty.size && Nat.ble (off + ty.size) cs.length then some (σ.withHp (σ.hp.setBox k (.cells (splice cs off xs)))) else none
    | _ => none
  | .rptr k sz i off => match find (.l k) σ.hp.boxes with
    | some (.row sz' items) => match items[i]? with
      | some x => bif Nat.beq sz sz' && Nat.beq xs.length ty.size && Nat.ble (off + ty.size) x.cells.length then some (σ.withHp (σ.hp.setBox (.l k) (.row sz (items.set i (putCells x off xs))))) else none
      | none => none
    | _ => none
  | _ => none
def xstore (σ : St) (ty : TyI) (A X : AV) : Option St :=
  match X with
  | .tup _ => none
  | X => xstoreB σ ty A X.cells
def xfill (place : Nat → Option (Nat × Nat)) (cells : List AV) : List (Nat × AV) → Option (List AV)
  | [] => some cells
  | (i, X) :: r => match place i with
    | none => none
    | some (off, size) => match X with
      | .tup _ => none
      | X => bif Nat.beq X.cells.length size && Nat.ble (off + size) cells.length then xfill place (splice cells off X.cells) r else none
def xput (σ : St) (d : Option Tmp) : Option (List AV) → Option St
  | some cs => bif dstOk σ d then some (σ.put d (.agg cs)) else none
  | none => none
def xbuild (tt : TT) (σ : St) (d : Option Tmp) (ty : TyI) (ps : List (Nat × AV)) : Option St :=
  match avsOf ty.zero with
  | none => none
  | some zs => match ty.shape with
    | .struct fs => match places tt fs with
      | none => none
      | some pl => xput σ d (xfill (fun i => pl[i]?) zs ps)
    | .array n e => match tt e with
      | none => none
      | some te => xput σ d (xfill (fun i => some (i * te.size, te.size)) zs ps)
    | _ => none
def xall (size : Nat) : Nat → List (Nat × AV) → Option (List AV)
  | _, [] => some []
  | i, (j, X) :: r => bif Nat.beq i j && (dn X).data2 && Nat.beq (dn X).cells.length size then match xall size (i + 1) r with
    | some l => some (dn X :: l)
    | none => none else none
def xbuildSlice (tt : TT) (σ : St) (d : Option Tmp) (ty : TyI) (n : Nat) (ps : List (Nat × AV)) : Option St :=
  match ty.shape with
  | .slice e => match tt e with
    | some te => bif Nat.beq ps.length n && Nat.ble (n * te.size) 16777216 && Nat.ble n 16777216 && dstOk σ d then
        match n with
        | 0 => some (σ.put d (.slice te.size .zero []))
        | _ => match xall te.size 0 ps with
          | some items => some ((σ.withHp (σ.hp.moveTok σ.hp.nt)).put d (.slice te.size (.loc σ.hp.nt) items))
          | none => none
      else none
    | none => none
  | _ => none
def xappend (tt : TT) (σ : St) (d : Option Tmp) (ty : TyI) (S X : AV) : Option St :=
  match ty.shape with
  | .slice e => match tt e with
    | some te => match S with
      | .slice sz t items => match X with
        | .slice sz2 t2 ys => bif isNilT t && rowDst σ d && someL ys then
            (bif (isNilT t2 || Nat.beq sz2 te.size) && dstOk σ d && Nat.ble (ys.length * te.bytes) 140737488355328 && Nat.ble ys.length 140737488355328 then
              some ((σ.withHp (σ.hp.addBox (.row te.size ys))).put d (.row σ.hp.nb ys.length)) else none) else
          bif (isNilT t || Nat.beq sz te.size) && (isNilT t2 || Nat.beq sz2 te.size) && dstOk σ d then
            bif tokOk σ.hp t && Nat.ble ((items.length + ys.length) * te.bytes) 140737488355328 && Nat.ble (items.length + ys.length) 140737488355328 then
              some ((σ.withHp (σ.hp.moveTok (tokNum σ.hp t))).put d (.slice te.size (.loc σ.hp.nt) (items ++ ys))) else none
          else none
        | _ => none
      | _ => none
    | none => none
  | _ => none
abbrev XCall := FuncId → List AV → Hp → Option (AV × Hp)
def xres (σ : St) (d : Option Tmp) : Option (AV × Hp) → Option St
  | some (r, hp) => some ((σ.withHp hp).put d r)
  | none => none
def xcallV (call : XCall) (σ : St) (d : Option Tmp) (F : AV) (args : List AV) : Option St :=
  match F with
  | .func (.func g) first cap => bif dstOk σ d then xres σ d (call g (first ++ args ++ cap) σ.hp) else none
  | .clo (.func g) is => bif dstOk σ d then xres σ d (call g (args ++ varPtrs is) σ.hp) else none
  | _ => none
def xquiet (tt : TT) (o : Oper) (σ : St) : Option St :=
  bif dstOk σ o.dst then match xq (fun k => find k σ.hp.boxes) (qop tt (opd σ.env) (fun k => find k σ.hp.boxes) o.op) with
    | some x => some (σ.put o.dst x)
    | none => none else none
def xop (tt : TT) (call : XCall) (o : Oper) (σ : St) : Option St :=
  match o.op with
  | .alloc T => match tt T with
    | some ty => match avsOf ty.zero with
      | some zs => xbox σ o.dst (.agg zs)
      | none => none
    | none => none
  | .box T x => match opd σ.env x with
    | some X => xbox σ o.dst X
    | none => none
  | .store T x y => match o.dst, tt T, opd σ.env x, opd σ.env y with
    | none, some ty, some A, some X => xstore σ ty A X
    | _, _, _, _ => none
  | .build T parts => match tt T, avParts (opd σ.env) parts.toList with
    | some ty, some ps => xbuild tt σ o.dst ty ps
    | _, _ => none
  | .buildSlice T n parts => match tt T, avParts (opd σ.env) parts.toList with
    | some ty, some ps => xbuildSlice tt σ o.dst ty n ps
    | _, _ => none
  | .call c => match c.callee with
    | .builtin .append => match c.args.toList, c.argTypes.toList with
      | [s, x], [T, T2] => match tt T, tt T2, opd σ.env s, opd σ.env x with
        | some ty, some ty2, some S, some X => match ty2.shape with
          | .slice _ => xappend tt σ o.dst ty S X
          | _ => none
        | _, _, _, _ => none
      | _, _ => none
    | .builtin _ => xquiet tt o σ
    | .value f => match opd σ.env f, avArgs (opd σ.env) c.args.toList with
      | some F, some args => xcallV call σ o.dst F args
      | _, _ => none
    | .invoke _ _ => none
  | _ => xquiet tt o σ

section
variable {P : Program} {tt : TT} {σ σ' : St} {K : St → Prop} {call : XCall}
theorem xbox_ok {d : Option Tmp} {X : AV} (h : xbox σ d X = some σ') (k : K σ') : boxA σ d X K := by
  unfold xbox at h
  unfold boxA
  split at h
  · simp at h
  · cases hd : dstOk σ d with
    | false => rw [hd] at h; simp at h
    | true => rw [hd] at h; simp only [cond_true, Option.some.injEq] at h ⊢; subst h; exact k
theorem xstoreB_ok {ty : TyI} {A : AV} {xs : List AV} (h : xstoreB σ ty A xs = some σ') (k : K σ') : storeB σ ty A xs K := by
  unfold xstoreB at h
  unfold storeB
  split at h
  · split at h
    · rename_i cs hf
      cases hc : (Nat.beq xs.length ty.size && Nat.ble (_ + ty.size) cs.length) with
      | false => rw [hc] at h; simp at h
      | true =>
        rw [hc] at h
        simp only [cond_true, Option.some.injEq] at h
        subst h
        simp only [Bool.and_eq_true] at hc
        simp only [hf]
        exact .intro hc.1 (.intro hc.2 k)
    · simp at h
  · rename_i kk sz i off
    split at h
    · rename_i sz' items hf
      split at h
      · rename_i x hx
        cases hc : (Nat.beq sz sz' && Nat.beq xs.length ty.size && Nat.ble (off + ty.size) x.cells.length) with
        | false => rw [hc] at h; simp at h
        | true =>
          rw [hc] at h
          simp only [cond_true, Option.some.injEq] at h
          subst h
          simp only [Bool.and_eq_true] at hc
          simp only [hf]
          exact .intro hc.1.1 (.intro hc.1.2 ⟨x, ⟨by omega, by simpa using hx⟩, .intro hc.2 k⟩)
      · simp at h
    · simp at h
  · simp at h
theorem xstore_ok {ty : TyI} {A X : AV} (h : xstore σ ty A X = some σ') (k : K σ') : storeA σ ty A X K := by
  unfold xstore at h
  unfold storeA
  cases X <;> first | exact xstoreB_ok h k | simp at h
theorem xfill_ok {place : Nat → Option (Nat × Nat)} {K : List AV → Prop} {l : List AV} : ∀ {ps : List (Nat × AV)} {cells : List AV}, xfill place cells ps = some l → K l → fillA place cells ps K
  | [], cells, h, k => by simp only [xfill, Option.some.injEq] at h; subst h; exact k
  | (i, X) :: r, cells, h, k => by
    unfold xfill at h
    unfold fillA
    split at h
    · simp at h
    · rename_i off size hp
      simp only [hp]
      have key : (bif Nat.beq X.cells.length size && Nat.ble (off + size) cells.length then xfill place (splice cells off X.cells) r else none) = some l →
          Chk (Nat.beq X.cells.length size) (Chk (Nat.ble (off + size) cells.length) (fillA place (splice cells off X.cells) r K)) := by
        intro h
        cases hc : (Nat.beq X.cells.length size && Nat.ble (off + size) cells.length) with
        | false => rw [hc] at h; simp at h
        | true =>
          rw [hc] at h
          simp only [cond_true] at h
          simp only [Bool.and_eq_true] at hc
          exact .intro hc.1 (.intro hc.2 (xfill_ok h k))
      cases X <;> first | exact key h | simp at h
theorem xput_ok {d : Option Tmp} {place : Nat → Option (Nat × Nat)} {zs : List AV} {ps : List (Nat × AV)} (h : xput σ d (xfill place zs ps) = some σ') (k : K σ') :
    fillA place zs ps fun cs => bif dstOk σ d then K (σ.put d (.agg cs)) else False := by
  cases hx : xfill place zs ps with
  | none => rw [hx] at h; simp [xput] at h
  | some cs =>
    rw [hx] at h
    refine xfill_ok hx ?_
    simp only [xput] at h
    cases hd : dstOk σ d with
    | false => rw [hd] at h; simp at h
    | true => rw [hd] at h; simp only [cond_true, Option.some.injEq] at h ⊢; subst h; exact k
theorem xbuild_ok {d : Option Tmp} {ty : TyI} {ps : List (Nat × AV)} (h : xbuild tt σ d ty ps = some σ') (k : K σ') : buildA tt σ d ty ps K := by
  unfold xbuild at h
  unfold buildA
  split at h
  · simp at h
  · rename_i zs hz
    split at h
    · rename_i fs hs
      split at h
      · simp at h
      · rename_i pl hp
        simp only [hz, hs, hp]
        exact xput_ok h k
    · rename_i n e hs
      split at h
      · simp at h
      · rename_i te hte
        simp only [hz, hs, hte]
        exact xput_ok h k
    · simp at h
theorem xall_ok {size : Nat} : ∀ {ps : List (Nat × AV)} {i : Nat} {l : List AV} {K : List AV → Prop}, xall size i ps = some l → K l → allA size i ps K
  | [], i, l, K, h, k => by simp only [xall, Option.some.injEq] at h; subst h; exact k
  | (j, X) :: r, i, l, K, h, k => by
    unfold xall at h
    unfold allA
    cases hc : (Nat.beq i j && (dn X).data2 && Nat.beq (dn X).cells.length size) with
    | false => rw [hc] at h; simp at h
    | true =>
      rw [hc] at h
      simp only [Bool.and_eq_true] at hc
      simp only [cond_true] at h
      split at h
      · rename_i l' hl
        simp only [Option.some.injEq] at h
        subst h
        exact .intro hc.1.1 (.intro hc.1.2 (.intro hc.2 (xall_ok (K := fun l => K (dn X :: l)) hl k)))
      · simp at h
theorem xbuildSlice_ok {d : Option Tmp} {ty : TyI} {n : Nat} {ps : List (Nat × AV)} (h : xbuildSlice tt σ d ty n ps = some σ') (k : K σ') : buildSliceA tt σ d ty n ps K := by
  unfold xbuildSlice at h
  unfold buildSliceA
  split at h
  · rename_i e hs
    split at h
    · rename_i te hte
      simp only [hs, hte]
      cases hc : (Nat.beq ps.length n && Nat.ble (n * te.size) 16777216 && Nat.ble n 16777216 && dstOk σ d) with
      | false => rw [hc] at h; simp at h
      | true =>
        rw [hc] at h
        simp only [cond_true] at h ⊢
        split at h
        · simp only [Option.some.injEq] at h; subst h; exact k
        · split at h
          · rename_i items hi
            simp only [Option.some.injEq] at h; subst h
            cases n with
            | zero => have hn : (0 : Nat) = 0 → False := by assumption
                      exact (hn rfl).elim
            | succ n => exact xall_ok (K := fun items => K ((σ.withHp (σ.hp.moveTok σ.hp.nt)).put d (.slice te.size (.loc σ.hp.nt) items))) hi k
          · simp at h
    · simp at h
  · simp at h
theorem xappend_ok {d : Option Tmp} {ty : TyI} {S X : AV} (h : xappend tt σ d ty S X = some σ') (k : K σ') : appendA tt σ d ty S X K := by
  unfold xappend at h
  unfold appendA
  split at h
  · rename_i e hs
    split at h
    · rename_i te hte
      split at h
      · rename_i sz t items
        split at h
        · rename_i sz2 t2 ys
          simp only [hs, hte]
          cases hrw : (isNilT t && rowDst σ d && someL ys) with
          | true =>
           rw [hrw] at h
           simp only [cond_true] at h ⊢
           cases hc : ((isNilT t2 || Nat.beq sz2 te.size) && dstOk σ d && Nat.ble (ys.length * te.bytes) 140737488355328 && Nat.ble ys.length 140737488355328) with
           | false => rw [hc] at h; simp at h
           | true =>
            rw [hc] at h
            simp only [cond_true, Option.some.injEq] at h
            subst h
            simp only [Bool.and_eq_true] at hc
            unfold appendR
            have e : ((isNilT t2 || Nat.beq sz2 te.size) && dstOk σ d) = true := by simp only [Bool.and_eq_true]; exact ⟨hc.1.1.1, hc.1.1.2⟩
            rw [e]
            exact .intro hc.1.2 (.intro hc.2 k)
          | false =>
           rw [hrw] at h
           simp only [cond_false] at h ⊢
           cases hc : ((isNilT t || Nat.beq sz te.size) && (isNilT t2 || Nat.beq sz2 te.size) && dstOk σ d) with
           | false => rw [hc] at h; simp at h
           | true =>
             rw [hc] at h
             simp only [cond_true] at h ⊢
             cases hc2 : (tokOk σ.hp t && Nat.ble ((items.length + ys.length) * te.bytes) 140737488355328 && Nat.ble (items.length + ys.length) 140737488355328) with
             | false => rw [hc2] at h; simp at h
             | true =>
               rw [hc2] at h
               simp only [Bool.and_eq_true] at hc2
               simp only [cond_true, Option.some.injEq] at h
               subst h
               exact .intro hc2.1.1 (.intro hc2.1.2 (.intro hc2.2 k))
        · simp at h
      · simp at h
    · simp at h
  · simp at h
/-- What a run of calls is worth. -/
def XOk (P : Program) (call : XCall) : Prop := ∀ g args hp r hp', call g args hp = some (r, hp') → ∀ Q : AV → Hp → Prop, Q r hp' → ICalls P g args hp Q
theorem xcallV_ok (ok : XOk P call) {d : Option Tmp} {F : AV} {args : List AV} (h : xcallV call σ d F args = some σ') (k : K σ') : callA P σ d F args K := by
  have key : ∀ g l, xres σ d (call g l σ.hp) = some σ' → ICalls P g l σ.hp (fun r hp' => K ((σ.withHp hp').put d r)) := by
    intro g l h
    cases hc : call g l σ.hp with
    | none => rw [hc] at h; simp [xres] at h
    | some x =>
      obtain ⟨r, hp'⟩ := x
      rw [hc] at h
      simp only [xres, Option.some.injEq] at h
      exact ok _ _ _ _ _ hc _ (by rw [h]; exact k)
  unfold xcallV at h
  unfold callA
  split at h
  · cases hd : dstOk σ d with
    | false => rw [hd] at h; simp at h
    | true => rw [hd] at h; exact key _ _ h
  · cases hd : dstOk σ d with
    | false => rw [hd] at h; simp at h
    | true => rw [hd] at h; exact key _ _ h
  · simp at h
theorem xquiet_ok {o : Oper} (h : xquiet tt o σ = some σ') (k : K σ') : quietA tt o σ K := by
  unfold xquiet at h
  unfold quietA
  cases hd : dstOk σ o.dst with
  | false => rw [hd] at h; simp at h
  | true =>
    rw [hd] at h
    simp only [cond_true] at h ⊢
    split at h
    · rename_i x hx
      simp only [Option.some.injEq] at h; subst h
      exact xq_run _ hx k
    · simp at h
theorem xop_ok (ok : XOk P call) {o : Oper} (h : xop tt call o σ = some σ') (k : K σ') : aop P tt o σ K := by
  unfold xop at h
  unfold aop
  split at h
  · rename_i T ho
    simp only [ho]
    split at h
    · rename_i ty hty
      simp only [hty]
      split at h
      · rename_i zs hz; simp only [hz]; exact xbox_ok h k
      · simp at h
    · simp at h
  · rename_i T x ho
    simp only [ho]
    split at h
    · rename_i X hX; simp only [hX]; exact xbox_ok h k
    · simp at h
  · rename_i T x y ho
    simp only [ho]
    split at h
    · rename_i ty A X hd hty hA hX
      simp only [hd, hty, hA, hX]
      exact xstore_ok h k
    · simp at h
  · rename_i T parts ho
    simp only [ho]
    split at h
    · rename_i ty ps hty hps; simp only [hty, hps]; exact xbuild_ok h k
    · simp at h
  · rename_i T n parts ho
    simp only [ho]
    split at h
    · rename_i ty ps hty hps; simp only [hty, hps]; exact xbuildSlice_ok h k
    · simp at h
  · rename_i c ho
    simp only [ho]
    split at h
    · rename_i hcal
      simp only [hcal]
      split at h
      · rename_i s x T T2 hargs hts
        simp only [hargs, hts]
        split at h
        · rename_i ty ty2 S X hty hty2 hS hX
          simp only [hty, hty2, hS, hX]
          split at h
          · rename_i e2 hs2; simp only [hs2]; exact xappend_ok h k
          · simp at h
        · simp at h
      · simp at h
    · rename_i b hb hcal
      rw [hcal]
      cases b <;> first | exact xquiet_ok h k | exact absurd rfl hb
    · rename_i f hcal
      simp only [hcal]
      split at h
      · rename_i F args hF hA; simp only [hF, hA]; exact xcallV_ok ok h k
      · simp at h
    · simp at h
  · rename_i h1 h2 h3 h4 h5 h6
    have : quietA tt o σ K := xquiet_ok h k
    split <;> first | exact this | (exfalso; rename_i ho; first | exact h1 _ ho | exact h2 _ _ ho | exact h3 _ _ _ ho | exact h4 _ _ ho | exact h5 _ _ _ ho | exact h6 _ ho)
end
end Go.Ax
