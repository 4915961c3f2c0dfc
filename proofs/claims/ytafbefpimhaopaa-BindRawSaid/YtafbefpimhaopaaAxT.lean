/- Ax, part T: regions whose order is drawn. Quiet operations are told as soon as they can be; the others one by one, in each order that may be. No project text. -/
import Derived.Test.YtafbefpimhaopaaAxR
set_option linter.unusedVariables false
set_option linter.unusedSimpArgs false
set_option linter.unnecessarySimpa false
set_option linter.unusedSectionVars false
namespace Go.Ax

/-- Operations that leave everything but their own slot. -/
def isQuiet : Op → Bool
  | .alloc _ => true
  | .move _ => true
  | .pick _ _ _ => true
  | .load _ _ => true
  | .nilCheck _ => true
  | .binOp _ _ _ _ _ => true
  | .unOp _ _ _ => true
  | .convert _ _ _ => true
  | .fieldAddr _ _ _ => true
  | .field _ _ _ => true
  | .indexAddr _ _ _ => true
  | .index _ _ _ => true
  | .slice _ _ _ _ none => true
  | .extract _ _ => true
  | .slice _ _ _ _ (some _) => true
  | .call { callee := .builtin .len, .. } => true
  | .call { callee := .builtin .min, .. } => true
  | .call { callee := .builtin .max, .. } => true
  | _ => false
/-- Is operation i ready behind these? -/
def readyB (done : List Nat) (o : Oper) : Bool := o.after.toList.all fun e => !Region.binds .any e || memN e.on done
def firstQuiet (ops : List Oper) (done : List Nat) : Nat → List Oper → Option (Nat × Oper)
  | _, [] => none
  | i, o :: r => bif isQuiet o.op && !memN i done && readyB done o then some (i, o) else firstQuiet ops done (i + 1) r
def readyLouds (done : List Nat) : Nat → List Oper → List (Nat × Oper)
  | _, [] => []
  | i, o :: r => bif !memN i done && readyB done o then (i, o) :: readyLouds done (i + 1) r else readyLouds done (i + 1) r
def keyB (k : Key) : List (Nat × Key) → Bool
  | [] => false
  | (_, k') :: r => k.eq k' || keyB k r
def keysX (fb : Key → Option Box) : List AV → List Key
  | [] => []
  | X :: r => keysOf fb X ++ keysX fb r
def tagKeys (i : Nat) : List Key → List (Nat × Key)
  | [] => []
  | k :: r => (i, k) :: tagKeys i r
/-- The reads that may come behind operation o yet. -/
def openReads (o : Oper) (rd : List (Nat × Key)) : List (Nat × Key) := rd.filter fun x => !(o.after.toList.any fun e => Region.binds .any e && Nat.beq e.on x.1)
def storeKey (ρ : Operand → Option AV) : Op → Option Key
  | .store _ x _ => match ρ x with
    | some (.ptr k _) => some k
    | some (.rptr k _ _ _) => some (.l k)
    | _ => none
  | _ => none
/-- These variables stand as they stood. -/
def SameAt (l : List (Nat × Key)) (hp hp' : Hp) : Prop := ∀ y, y ∈ l → find y.2 hp'.boxes = find y.2 hp.boxes
def callS (P : Program) (σ : St) (l : List (Nat × Key)) (d : Option Tmp) (F : AV) (args : List AV) (K : St → Prop) : Prop :=
  match F with
  | .func (.func g) first cap => bif dstOk σ d then ICalls P g (first ++ args ++ cap) σ.hp (fun r hp' => SameAt l σ.hp hp' ∧ K ((σ.withHp hp').put d r)) else False
  | .clo (.func g) is => bif dstOk σ d then ICalls P g (args ++ varPtrs is) σ.hp (fun r hp' => SameAt l σ.hp hp' ∧ K ((σ.withHp hp').put d r)) else False
  | _ => False
def loudD (P : Program) (tt : TT) (o : Oper) (σ : St) (rd : List (Nat × Key)) (K : St → Prop) : Prop :=
  match openReads o rd with
  | [] => aop P tt o σ K
  | l => match o.op with
    | .store _ _ _ => match storeKey (opd σ.env) o.op with
      | some k => bif keyB k l then False else aop P tt o σ K
      | none => False
    | .call c => match c.callee with
      | .value f => match opd σ.env f, avArgs (opd σ.env) c.args.toList with
        | some F, some args => callS P σ l o.dst F args K
        | _, _ => False
      | .builtin .append => aop P tt o σ K
      | _ => False
    | .alloc _ => aop P tt o σ K
    | .box _ _ => aop P tt o σ K
    | .build _ _ => aop P tt o σ K
    | .buildSlice _ _ _ => aop P tt o σ K
    | .assign _ => aop P tt o σ K
    | _ => False
/-- A guarded operation: done, or passed by. -/
def guardD (ops : Array Oper) (o : Oper) (σ : St) (run : St → Prop) (skip : St → Prop) : Prop :=
  match o.guard with
  | none => run σ
  | some (j, want) => match ops[j]? with
    | none => False
    | some oj => match oj.dst with
      | none => False
      | some t => match look t σ.env with
        | some (.lit (.bool b)) => Br (bif want then b else !b) (run (σ.put (some t) (.lit (.bool want))))
            (bif dstOk σ o.dst then skip ((σ.put (some t) (.lit (.bool (!want)))).put o.dst (.tup [])) else False)
        | some (.tup _) => bif dstOk σ o.dst then skip (σ.put o.dst (.tup [])) else False
        | _ => False
/-- A quiet operation, told as soon as it can be; a variable's making is told so, too. -/
def quietD (tt : TT) (i : Nat) (o : Oper) (rd : List (Nat × Key)) (σ : St) (K : List (Nat × Key) → St → Prop) : Prop :=
  match o.op with
  | .alloc T => match tt T, o.dst with
    | some ty, some d => match avsOf ty.zero with
      | some zs => bif dstOk σ o.dst then K ((i, .l σ.hp.nb) :: rd) ((σ.withHp (σ.hp.addBox (.cells zs))).put (some d) (.ptr (.l σ.hp.nb) 0)) else False
      | none => False
    | _, _ => False
  | _ => bif dstOk σ o.dst then (qop tt (opd σ.env) (fun k => find k σ.hp.boxes) o.op).run (fun k => find k σ.hp.boxes)
          (fun x => K (tagKeys i (keysX (fun k => find k σ.hp.boxes) (readsX (opd σ.env) o.op)) ++ rd) (σ.put o.dst x)) else False
def eachD (f : Nat × Oper → Prop) : List (Nat × Oper) → Prop
  | [] => True
  | [x] => f x
  | x :: r => f x ∧ eachD f r
def arunD (P : Program) (tt : TT) (ops : Array Oper) (K : St → Prop) : Nat → List Nat → List (Nat × Key) → St → Prop
  | 0, _, _, _ => False
  | n + 1, done, rd, σ => match firstQuiet ops.toList done 0 ops.toList with
    | some (i, o) => guardD ops o σ
        (fun σ => quietD tt i o rd σ (fun rd' σ' => arunD P tt ops K n (i :: done) rd' σ'))
        (fun σ => arunD P tt ops K n (i :: done) rd σ)
    | none => match readyLouds done 0 ops.toList with
      | [] => bif Nat.beq done.length ops.size then K σ else False
      | l => eachD (fun x => guardD ops x.2 σ (fun σ => loudD P tt x.2 σ rd (fun σ' => arunD P tt ops K n (x.1 :: done) rd σ')) (fun σ => arunD P tt ops K n (x.1 :: done) rd σ)) l
/-- Slots of a region's operations stand apart. -/
def tmpsOf (ops : Array Oper) (o : Oper) : List Tmp :=
  (o.op.operands.toList.filterMap fun | .tmp t => some t | _ => none) ++ (match o.guard with
    | some (j, _) => ((ops[j]?).bind (·.dst)).toList
    | none => [])
def edgeB (p : Oper) (i : Nat) : Bool := p.after.toList.any fun e => Region.binds .any e && Nat.beq e.on i
def apartB (ops : Array Oper) : Bool :=
  ops.toList.zipIdx.all fun (o, i) => match o.dst with
    | none => true
    | some d => ops.toList.zipIdx.all fun (p, j) => bif Nat.beq i j then !(tmpsOf ops p).contains d else
        ((!(tmpsOf ops p).contains d || edgeB p i || (!isQuiet o.op && edgeB o j)) && (p.dst != some d))
end Go.Ax
