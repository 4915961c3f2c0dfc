/- Ax, part C: what a quiet operation comes to, on abstract values. No project text. -/
import Derived.Test.YtafbefpimhaopaaAxB
set_option linter.unusedVariables false
set_option linter.unusedSimpArgs false
set_option linter.unnecessarySimpa false
set_option linter.unusedSectionVars false
namespace Go.Ax

inductive Shape where
  | other | slice (e : TypeId) | array (n : Nat) (e : TypeId) | struct (fs : List (Nat × TypeId)) | ptr (e : TypeId) | string | int (k : IntKind) | bool | iface
structure TyI where
  size : Nat
  bytes : Nat
  isAgg : Bool
  zero : List Value
  shape : Shape
  eq : Bool
abbrev TT := TypeId → Option TyI

def aggD : TypeDesc → Bool
  | .struct _ => true
  | .array _ _ => true
  | _ => false
def shapeOk : Shape → TypeDesc → Prop
  | .other, _ => True
  | .slice e, d => d = .slice e
  | .array n e, d => d = .array n e
  | .struct fs, d => ∃ F : Array Field, d = .struct F ∧ F.toList.map (fun f => (f.offset, f.type)) = fs
  | .ptr e, d => d = .pointer e
  | .string, d => d = .string
  | .int k, d => d = .int k
  | .bool, d => d = .bool
  | .iface, d => ∃ ms, d = .interface ms

def scalarEq : Value → Value → Option Bool
  | .int k a, .int k' b => bif decide (k = k') then some (a == b) else none
  | .bool a, .bool b => some (a == b)
  | .string a, .string b => some (a == b)
  | _, _ => none
/-- Equality of two structs whose cells are numbers, bools and strings. -/
def cellsEq : List AV → List AV → Option Bool
  | [], [] => some true
  | .lit x :: xs, .lit y :: ys => match scalarEq x y, cellsEq xs ys with
    | some a, some b => some (a && b)
    | _, _ => none
  | _, _ => none
def valsEq : List Value → List Value → Option Bool
  | [], [] => some true
  | x :: xs, y :: ys => match scalarEq x y, valsEq xs ys with
    | some a, some b => some (a && b)
    | _, _ => none
  | _, _ => none

def sameKind : Value → Value → Bool
  | .int k _, .int k' _ => decide (k = k')
  | .bool _, .bool _ => true
  | .string _, .string _ => true
  | _, _ => false
def fitsV : List Value → List Value → Bool
  | [], [] => true
  | z :: zs, x :: xs => sameKind z x && fitsV zs xs
  | _, _ => false
/-- Cells of the kinds of these zeros. -/
def fitsA : List Value → List AV → Bool
  | [], [] => true
  | z :: zs, .lit x :: xs => sameKind z x && fitsA zs xs
  | _, _ => false
structure TyOk (P : Program) (T : TypeId) (i : TyI) : Prop where
  zl : i.zero.length = i.size
  ex : ∃ info d, P.info? T = some info ∧ P.underlying T = some d ∧ info.size = i.size ∧ info.bytes = i.bytes ∧ aggD d = i.isAgg ∧
    (∃ z, info.zero = some z ∧ z.cells.toList = i.zero) ∧ shapeOk i.shape d
  eq : i.eq = true → ∀ (xs ys : List Value) (r : Bool) (w : World), xs.length = i.size → fitsV i.zero xs = true → valsEq xs ys = some r →
    (Op.equal T (.agg xs.toArray) (.agg ys.toArray)).run P w = .ok r w ∧ P.eqGuardType P.depth T = false
def TTOk (P : Program) (tt : TT) : Prop := ∀ T i, tt T = some i → TyOk P T i

def Br : Bool → Prop → Prop → Prop
  | true, p, _ => p
  | false, _, q => q
theorem Br.intro {b : Bool} {p q : Prop} (hp : b = true → p) (hq : b = false → q) : Br b p q := by
  cases b <;> simp_all [Br]
def bytesAV (s : ByteArray) : List AV := s.data.toList.map fun b => .lit (.int .u8 b.toNat)

inductive QRes where
  | fail
  | val (x : AV)
  | br (b : Bool) (t f : QRes)
  | must (b : Bool) (r : QRes)
  | get (items : List AV) (i : Int) (k : AV → QRes)
  | outer (b : Nat) (k : Box → QRes)
  | bytes (items : List AV) (k : ByteArray → QRes)

def QRes.holds (fb : Key → Option Box) : QRes → (AV → Prop) → Prop
  | .fail, _ => False
  | .val x, K => K x
  | .br b t f, K => Br b (t.holds fb K) (f.holds fb K)
  | .must b r, K => b = true ∧ r.holds fb K
  | .get items i k, K => ∃ x, (0 ≤ i ∧ items[i.toNat]? = some x) ∧ (k x).holds fb K
  | .outer b k, K => ∃ bx, fb (.o b) = some bx ∧ (k bx).holds fb K
  | .bytes items k, K => ∃ s, items = bytesAV s ∧ (k s).holds fb K
/-- A check: known, it falls away. -/
def Chk : Bool → Prop → Prop
  | true, p => p
  | false, _ => False
theorem Chk.intro {b : Bool} {p : Prop} (h : b = true) (hp : p) : Chk b p := by subst h; exact hp
theorem Chk.out {b : Bool} {p : Prop} (h : Chk b p) : b = true ∧ p := by
  cases b with
  | true => exact ⟨rfl, h⟩
  | false => exact h.elim
def Got (items : List AV) (i : Int) (k : AV → Prop) : Prop := ∃ x, (0 ≤ i ∧ items[i.toNat]? = some x) ∧ k x
/-- The same, as it is run. -/
def QRes.run (fb : Key → Option Box) : QRes → (AV → Prop) → Prop
  | .fail, _ => False
  | .val x, K => K x
  | .br b t f, K => Br b (t.run fb K) (f.run fb K)
  | .must b r, K => Chk b (r.run fb K)
  | .get items i k, K => Got items i (fun x => (k x).run fb K)
  | .outer b k, K => ∃ bx, fb (.o b) = some bx ∧ (k bx).run fb K
  | .bytes items k, K => ∃ s, items = bytesAV s ∧ (k s).run fb K
theorem QRes.run_holds {fb : Key → Option Box} {K : AV → Prop} : ∀ (r : QRes), r.run fb K → r.holds fb K
  | .fail, h => h
  | .val x, h => h
  | .br true t f, h => QRes.run_holds t h
  | .br false t f, h => QRes.run_holds f h
  | .must b r, h => ⟨h.out.1, QRes.run_holds r h.out.2⟩
  | .get items i k, h => by obtain ⟨x, hx, h⟩ := h; exact ⟨x, hx, QRes.run_holds (k x) h⟩
  | .outer b k, h => by obtain ⟨x, hx, h⟩ := h; exact ⟨x, hx, QRes.run_holds (k x) h⟩
  | .bytes items k, h => by obtain ⟨x, hx, h⟩ := h; exact ⟨x, hx, QRes.run_holds (k x) h⟩
theorem QRes.split {fb : Key → Option Box} {K : AV → Prop} : ∀ (r : QRes), r.holds fb K → ∃ x, r.holds fb (· = x) ∧ K x
  | .fail, h => h.elim
  | .val x, h => ⟨x, rfl, h⟩
  | .br b t f, h => by
    cases b
    · exact QRes.split f h
    · exact QRes.split t h
  | .must b r, h => by obtain ⟨x, h1, h2⟩ := QRes.split r h.2; exact ⟨x, ⟨h.1, h1⟩, h2⟩
  | .get items i k, h => by obtain ⟨y, hy, h⟩ := h; obtain ⟨x, h1, h2⟩ := QRes.split (k y) h; exact ⟨x, ⟨y, hy, h1⟩, h2⟩
  | .outer b k, h => by obtain ⟨y, hy, h⟩ := h; obtain ⟨x, h1, h2⟩ := QRes.split (k y) h; exact ⟨x, ⟨y, hy, h1⟩, h2⟩
  | .bytes items k, h => by obtain ⟨y, hy, h⟩ := h; obtain ⟨x, h1, h2⟩ := QRes.split (k y) h; exact ⟨x, ⟨y, hy, h1⟩, h2⟩

def avOf1 : Value → Option AV
  | .slice none 0 0 => some (.slice 0 .nil [])
  | v => bif scalar v then some (.lit v) else none
def avsOf : List Value → Option (List AV)
  | [] => some []
  | v :: vs => match avOf1 v, avsOf vs with
    | some x, some xs => some (x :: xs)
    | _, _ => none
def avOf : Value → Option AV
  | .agg cs => match avsOf cs.toList with
    | some xs => some (.agg xs)
    | none => none
  | v => avOf1 v

def opd (env : List (Nat × AV)) : Operand → Option AV
  | .tmp t => look t env
  | .const v => avOf v
  | .global g => some (.ptr (.o g) 0)
  | .func f => some (.func (.func f) [] [])

def takeQ (ty : TyI) (cs : List AV) : QRes :=
  bif ty.isAgg then .must (Nat.ble ty.size cs.length) (.val (.agg (cs.take ty.size)))
  else match cs with
    | x :: _ => .val x
    | [] => .fail
def boxQ (ty : TyI) (off : Nat) : Box → QRes
  | .cells cs => takeQ ty (cs.drop off)
  | _ => .fail
def loadQ (ty : TyI) (fb : Key → Option Box) : AV → QRes
  | .eptr cs => takeQ ty cs
  | .ptr (.l i) off => match fb (.l i) with
    | some (.cells cs) => takeQ ty (cs.drop off)
    | some (.alias b) => .outer b (boxQ ty off)
    | _ => .fail
  | .ptr (.o b) off => .outer b (boxQ ty off)
  | .rptr k sz i off => match fb (.l k) with
    | some (.row sz' items) => .must (Nat.beq sz sz') (.get items i fun x => takeQ ty (x.cells.drop off))
    | _ => .fail
  | _ => .fail
def fieldAddrQ (tt : TT) (ty : TyI) (f : Nat) (X : AV) : QRes :=
  match ty.shape with
  | .struct fs => match fs[f]? with
    | some (o, u) => match tt u with
      | some tu => .must (Nat.blt 0 tu.size) (match X with
        | .eptr cs => .must (Nat.ble (o + 1) cs.length) (.val (.eptr (cs.drop o)))
        | .ptr k off => .val (.ptr k (off + o))
        | .rptr k sz i off => .val (.rptr k sz i (off + o))
        | _ => .fail)
      | none => .fail
    | none => .fail
  | _ => .fail
def partQ (tu : TyI) (cs : List AV) (o : Nat) : QRes :=
  bif tu.isAgg then .must (Nat.ble (o + tu.size) cs.length) (.val (.agg ((cs.drop o).take tu.size)))
  else match cs[o]? with
    | some x => .val x
    | none => .fail
def fieldQ (tt : TT) (ty : TyI) (f : Nat) : AV → QRes
  | .agg cs => match ty.shape with
    | .struct fs => match fs[f]? with
      | some (o, u) => match tt u with
        | some tu => partQ tu cs o
        | none => .fail
      | none => .fail
    | _ => .fail
  | _ => .fail
def indexAddrQ (tt : TT) (ty : TyI) (fb : Key → Option Box) (n : Int) (X : AV) : QRes :=
  match ty.shape with
  | .slice e => match tt e with
    | some te => match X with
      | .slice sz t items => .must (Nat.beq sz te.size) (.must (Nat.blt 0 sz) (.get items n fun x => .val (.eptr x.cells)))
      | .row k len => match fb (.l k) with
        | some (.row sz items) => .must (Nat.beq sz te.size) (.must (decide (0 ≤ n)) (.must (decide (n < len)) (.val (.rptr k sz n.toNat 0))))
        | some (.frow sz items) => .must (Nat.beq sz te.size) (.must (Nat.blt 0 sz) (.must (Nat.ble items.length len) (.get items n fun x => .val (.eptr x.cells))))
        | _ => .fail
      | _ => .fail
    | none => .fail
  | .array len e => match tt e with
    | some te => match X with
      | .ptr k off => .must (decide (0 ≤ n)) (.must (decide (n < len)) (.val (.ptr k (off + n.toNat * te.size))))
      | _ => .fail
    | none => .fail
  | _ => .fail
def byteAt (s : ByteArray) (i : Nat) : Int := ((s.data.toList.getD i 0).toNat : Int)
def indexQ (tt : TT) (ty : TyI) (n : Int) : AV → QRes
  | .lit (.string s) => match ty.shape with
    | .string => .must (decide (0 ≤ n)) (.must (decide (n < s.size)) (.val (.lit (.int .u8 (byteAt s n.toNat)))))
    | _ => .fail
  | .agg cs => match ty.shape with
    | .array len e => match tt e with
      | some te => .must (decide (0 ≤ n)) (.must (decide (n < len)) (partQ te cs (n.toNat * te.size)))
      | none => .fail
    | _ => .fail
  | _ => .fail
def intQ (op : BinOp) (k : IntKind) (a b : Int) : QRes :=
  match op with
  | .add => .val (.lit (.int k (k.wrap (a + b))))
  | .sub => .val (.lit (.int k (k.wrap (a - b))))
  | .mul => .val (.lit (.int k (k.wrap (a * b))))
  | .quo => .must (!(b == 0)) (.val (.lit (.int k (k.wrap (a.tdiv b)))))
  | .rem => .must (!(b == 0)) (.val (.lit (.int k (a.tmod b))))
  | .eql => .val (.lit (.bool (a == b)))
  | .neq => .val (.lit (.bool (a != b)))
  | .lss => .val (.lit (.bool (decide (a < b))))
  | .leq => .val (.lit (.bool (decide (a ≤ b))))
  | .gtr => .val (.lit (.bool (decide (a > b))))
  | .geq => .val (.lit (.bool (decide (a ≥ b))))
  | .and => .val (.lit (.int k (k.wrap (BitVec.ofInt k.bits a &&& BitVec.ofInt k.bits b).toNat)))
  | .or => .val (.lit (.int k (k.wrap (BitVec.ofInt k.bits a ||| BitVec.ofInt k.bits b).toNat)))
  | .xor => .val (.lit (.int k (k.wrap (BitVec.ofInt k.bits a ^^^ BitVec.ofInt k.bits b).toNat)))
  | .andNot => .val (.lit (.int k (k.wrap (BitVec.ofInt k.bits a &&& ~~~(BitVec.ofInt k.bits b)).toNat)))
  | _ => .fail
def stringQ (op : BinOp) (a b : ByteArray) : QRes :=
  match op with
  | .add => .must (Nat.ble (a.size + b.size) 9223372036854775807) (.val (.lit (.string (a ++ b))))
  | .eql => .val (.lit (.bool (a.toList == b.toList)))
  | .neq => .val (.lit (.bool (!(a.toList == b.toList))))
  | .lss => .val (.lit (.bool (Op.bytesLess a.toList b.toList)))
  | .leq => .val (.lit (.bool (Op.bytesLess a.toList b.toList || a.toList == b.toList)))
  | .gtr => .val (.lit (.bool (!(Op.bytesLess a.toList b.toList || a.toList == b.toList))))
  | .geq => .val (.lit (.bool (!(Op.bytesLess a.toList b.toList))))
  | _ => .fail
/-- Is a value that may be nil nil? -/
def nilQ : AV → Option Bool
  | .lit (.pointer none) => some true
  | .lit .nilIface => some true
  | .lit .nilFunc => some true
  | .slice _ .nil _ => some true
  | .slice _ .zero _ => some false
  | .slice _ _ (_ :: _) => some false
  | .ptr _ _ => some false
  | .func _ _ _ => some false
  | .iface _ _ => some false
  | _ => none
def neg? (neq : Bool) (b : Bool) : Bool := bif neq then !b else b
def eqQ (ty : TyI) (neq cst : Bool) (X Y : AV) : QRes :=
  match ty.shape with
  | .bool => match X, Y with
    | .lit (.bool a), .lit (.bool b) => .val (.lit (.bool (neg? neq (a == b))))
    | _, _ => .fail
  | .slice _ => match X, Y with
    | .slice _ t items, .slice _ .nil _ => match nilQ (.slice 0 t items) with
      | some b => .val (.lit (.bool (neg? neq b)))
      | none => .fail
    | _, _ => .fail
  | .ptr _ => match X, Y with
    | .lit (.pointer none), .lit (.pointer none) => .val (.lit (.bool (neg? neq true)))
    | .ptr _ _, .lit (.pointer none) => .val (.lit (.bool (neg? neq false)))
    | .eptr _, .lit (.pointer none) => .val (.lit (.bool (neg? neq false)))
    | _, _ => .fail
  | .iface => match X, Y with
    | .lit .nilIface, .lit .nilIface => .must cst (.val (.lit (.bool (neg? neq true))))
    | .iface _ _, .lit .nilIface => .val (.lit (.bool (neg? neq false)))
    | _, _ => .fail
  | _ => match X, Y with
    | .agg xs, .agg ys => .must ty.eq (.must (Nat.beq xs.length ty.size) (.must (fitsA ty.zero xs) (match cellsEq xs ys with
      | some b => .val (.lit (.bool (neg? neq b)))
      | none => .fail)))
    | _, _ => .fail
def isConst : Operand → Bool
  | .const _ => true
  | _ => false
def binQ (tt : TT) (cst : Bool) (op : BinOp) (T : TypeId) (X Y : AV) : QRes :=
  match X, Y with
  | .lit (.int k a), .lit (.int k' b) => match op with
    | .shl => .must (decide (0 ≤ b)) (.val (.lit (.int k (k.wrap (a * 2 ^ (min b.toNat k.bits))))))
    | .shr => .must (decide (0 ≤ b)) (.val (.lit (.int k (a.fdiv (2 ^ (min b.toNat k.bits))))))
    | op => .must (decide (k = k')) (intQ op k a b)
  | .lit (.string a), .lit (.string b) => stringQ op a b
  | X, Y => match tt T with
    | some ty => match op with
      | .eql => eqQ ty false cst X Y
      | .neq => eqQ ty true cst X Y
      | _ => .fail
    | none => .fail
def unQ : UnOp → AV → QRes
  | .neg, .lit (.int k n) => .val (.lit (.int k (k.wrap (0 - n))))
  | .xor, .lit (.int k n) => .val (.lit (.int k (k.wrap (BitVec.ofInt k.bits (bif k.signed then -1 else k.max) ^^^ BitVec.ofInt k.bits n).toNat)))
  | .not, .lit (.bool b) => .val (.lit (.bool (!b)))
  | _, _ => .fail
def convQ (tt : TT) (src dst : TypeId) (X : AV) : QRes :=
  match tt src, tt dst with
  | some _, some td => match td.shape, X with
    | .int k, .lit (.int _ n) => .val (.lit (.int k (k.wrap n)))
    | .string, .lit (.string s) => .val (.lit (.string s))
    | _, _ => .fail
  | _, _ => .fail
def bnd (low : Option AV) (d : Int) : Option Int :=
  match low with
  | none => some d
  | some (.lit (.int _ n)) => some n
  | _ => none
def sliceQ (tt : TT) (ty : TyI) (X : AV) (lo hi : Option AV) : QRes :=
  match X with
  | .lit (.string s) => match ty.shape, bnd lo 0, bnd hi s.size with
    | .string, some l, some h => .must (decide (0 ≤ l)) (.must (decide (l ≤ h)) (.must (decide (h ≤ s.size)) (.val (.lit (.string (s.extract l.toNat h.toNat))))))
    | _, _, _ => .fail
  | .slice sz t items => match ty.shape, bnd lo 0, bnd hi items.length with
    | .slice e, some l, some h => match tt e with
      | some te => .must (Nat.beq sz te.size) (.must (decide (0 ≤ l)) (.must (decide (l ≤ h)) (.must (decide (h ≤ items.length))
          (.val (.slice sz .dead ((items.take h.toNat).drop l.toNat))))))
      | none => .fail
    | _, _, _ => .fail
  | _ => .fail
def isZero : Option AV → Bool
  | none => true
  | some (.lit (.int _ n)) => decide (n = 0)
  | _ => false
/-- s[:0:0]. -/
def slice0Q (tt : TT) (ty : TyI) (X : AV) (lo hi mx : Option AV) : QRes :=
  match X, ty.shape with
  | .slice sz t items, .slice e => match tt e with
    | some te => .must (isZero lo && isZero hi && hi.isSome && isZero mx && mx.isSome) (.val (.slice te.size .empty []))
    | none => .fail
  | _, _ => .fail
def minQ : AV → AV → QRes
  | .lit (.int k a), .lit (.int _ b) => .val (.lit (.int k (min a b)))
  | _, _ => .fail
def maxQ : AV → AV → QRes
  | .lit (.int k a), .lit (.int _ b) => .val (.lit (.int k (max a b)))
  | _, _ => .fail
def oneOpd (ρ : Operand → Option AV) : Option Operand → Option (Option AV)
  | none => some none
  | some x => match ρ x with
    | some X => some (some X)
    | none => none
def lenS : AV → QRes
  | .lit (.string s) => .val (.lit (.int .i64 s.size))
  | _ => .fail
def lenL : AV → QRes
  | .slice _ _ items => .val (.lit (.int .i64 items.length))
  | .row _ n => .val (.lit (.int .i64 n))
  | _ => .fail

/-- The variables that a function value captures. -/
def varsOf (ρ : Operand → Option AV) : List Operand → Option (List Nat)
  | [] => some []
  | x :: r => match ρ x, varsOf ρ r with
    | some (.ptr (.l i) 0), some R => some (i :: R)
    | _, _ => none
/-- What a quiet operation comes to. -/
def qop (tt : TT) (ρ : Operand → Option AV) (fb : Key → Option Box) : Op → QRes
  | .move x => match ρ x with
    | some X => .val X
    | none => .fail
  | .assign x => match ρ x with
    | some X => .val X
    | none => .fail
  | .pick c a b => match ρ c, ρ a, ρ b with
    | some (.lit (.bool t)), some A, some B => .br t (.val A) (.val B)
    | _, _, _ => .fail
  | .load T x => match tt T, ρ x with
    | some ty, some X => loadQ ty fb X
    | _, _ => .fail
  | .nilCheck x => match ρ x with
    | some (.ptr k off) => .val (.ptr k off)
    | some (.eptr cs) => .val (.eptr cs)
    | some (.rptr k sz i off) => .val (.rptr k sz i off)
    | _ => .fail
  | .binOp op T x y _ => match ρ x, ρ y with
    | some X, some Y => binQ tt (isConst x || isConst y) op T X Y
    | _, _ => .fail
  | .unOp op _ x => match ρ x with
    | some X => unQ op X
    | _ => .fail
  | .convert src dst x => match ρ x with
    | some X => convQ tt src dst X
    | _ => .fail
  | .fieldAddr T x f => match tt T, ρ x with
    | some ty, some X => fieldAddrQ tt ty f X
    | _, _ => .fail
  | .field T x f => match tt T, ρ x with
    | some ty, some X => fieldQ tt ty f X
    | _, _ => .fail
  | .indexAddr T x i => match tt T, ρ x, ρ i with
    | some ty, some X, some (.lit (.int _ n)) => indexAddrQ tt ty fb n X
    | _, _, _ => .fail
  | .index T x i => match tt T, ρ x, ρ i with
    | some ty, some X, some (.lit (.int _ n)) => indexQ tt ty n X
    | _, _, _ => .fail
  | .slice T x lo hi none => match tt T, ρ x with
    | some ty, some X => match lo, hi with
      | none, none => sliceQ tt ty X none none
      | some l, none => match ρ l with
        | some l => sliceQ tt ty X (some l) none
        | none => .fail
      | none, some h => match ρ h with
        | some h => sliceQ tt ty X none (some h)
        | none => .fail
      | some l, some h => match ρ l, ρ h with
        | some l, some h => sliceQ tt ty X (some l) (some h)
        | _, _ => .fail
    | _, _ => .fail
  | .slice T x lo hi (some m) => match tt T, ρ x, oneOpd ρ lo, oneOpd ρ hi, ρ m with
    | some ty, some X, some l, some h, some m => slice0Q tt ty X l h (some m)
    | _, _, _, _, _ => .fail
  | .extract x i => match ρ x with
    | some (.tup cs) => match cs[i]? with
      | some y => .val y
      | none => .fail
    | _ => .fail
  | .call { callee := .builtin .len, args := args, argTypes := ts } => match args.toList, ts.toList with
    | [x], [T] => match ρ x, tt T with
      | some X, some ty => match ty.shape with
        | .string => lenS X
        | .slice _ => lenL X
        | _ => .fail
      | _, _ => .fail
    | _, _ => .fail
  | .call { callee := .builtin .min, args := args, argTypes := ts } => match args.toList with
    | [x, y] => match ρ x, ρ y with
      | some X, some Y => minQ X Y
      | _, _ => .fail
    | _ => .fail
  | .call { callee := .builtin .max, args := args, argTypes := ts } => match args.toList with
    | [x, y] => match ρ x, ρ y with
      | some X, some Y => maxQ X Y
      | _, _ => .fail
    | _ => .fail
  | .makeFunc fn first cap => match first.toList, cap.toList with
    | [], [] => .val (.func fn [] [])
    | [], l => match varsOf ρ l with
      | some is => .val (.clo fn is)
      | none => .fail
    | _, _ => .fail
  | _ => .fail
end Go.Ax
