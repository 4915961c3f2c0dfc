/- Rw, part A: the program's plain data as Lean's, and how they stand as abstract values. -/
import Derived.Test.YtafbefpimhaopaaAyC
set_option linter.unusedVariables false
set_option linter.unusedSimpArgs false
set_option linter.unnecessarySimpa false
set_option linter.unusedSectionVars false
namespace Go.Rw
open Go.Ax

structure Val where
  kind : Int
  int : Int
  text : ByteArray
inductive Term where
  | mk (kind : Int) (op : ByteArray) (nt : Bool) (val : Val) (of_ name : ByteArray) (table column : Int) (args : List Term)
namespace Term
def kind : Term → Int | mk a _ _ _ _ _ _ _ _ => a
def op : Term → ByteArray | mk _ a _ _ _ _ _ _ _ => a
def nt : Term → Bool | mk _ _ a _ _ _ _ _ _ => a
def val : Term → Val | mk _ _ _ a _ _ _ _ _ => a
def of_ : Term → ByteArray | mk _ _ _ _ a _ _ _ _ => a
def name : Term → ByteArray | mk _ _ _ _ _ a _ _ _ => a
def table : Term → Int | mk _ _ _ _ _ _ a _ _ => a
def column : Term → Int | mk _ _ _ _ _ _ _ a _ => a
def args : Term → List Term | mk _ _ _ _ _ _ _ _ a => a
theorem lt {t u : Term} (h : u ∈ t.args) : SizeOf.sizeOf u < SizeOf.sizeOf t := by
  cases t with
  | mk a b c d e f g i l =>
    have := List.sizeOf_lt_of_mem (show u ∈ l from h)
    simp; omega
/-- Induction over a term: what holds of its arguments is at hand. -/
theorem ind {p : Term → Prop} (h : ∀ t, (∀ u, u ∈ t.args → p u) → p t) : ∀ t, p t := by
  intro t
  generalize hn : SizeOf.sizeOf t = n
  induction n using Nat.strongRecOn generalizing t with
  | _ n ih => exact h t fun u hu => ih (SizeOf.sizeOf u) (hn ▸ lt hu) u rfl
end Term
structure Column where
  name : ByteArray
  kind : Int
  distinct : Int
  nulls : Int
structure Table where
  name : ByteArray
  columns : List Column
  first : Int
  rows : Int
  pages : Int
structure Index where
  name : ByteArray
  table : Int
  columns : List Int
  root : Int
  leaves : Int
  high : Int
  distinct : List Int
structure Book where
  tables : List Table
  indexes : List Index

def eI (k : IntKind) (n : Int) : AV := .lit (.int k n)
def eS (s : ByteArray) : AV := .lit (.string s)
def eB (b : Bool) : AV := .lit (.bool b)
def encVal (v : Val) : AV := .agg [.lit (.int .u8 v.kind), .lit (.int .i64 v.int), .lit (.string v.text)]
mutual
def encT : Term → AV
  | .mk kind op nt val of_ name table column args => .agg [.lit (.int .u8 kind), .lit (.string op), .lit (.bool nt), .lit (.int .u8 val.kind), .lit (.int .i64 val.int), .lit (.string val.text), .lit (.string of_), .lit (.string name), .lit (.int .i64 table), .lit (.int .i64 column), .slice 11 .dead (encTs args)]
def encTs : List Term → List AV
  | [] => []
  | t :: ts => encT t :: encTs ts
end
def encTerm (t : Term) : AV := .agg [.lit (.int .u8 t.kind), .lit (.string t.op), .lit (.bool t.nt), .lit (.int .u8 t.val.kind), .lit (.int .i64 t.val.int), .lit (.string t.val.text), .lit (.string t.of_), .lit (.string t.name), .lit (.int .i64 t.table), .lit (.int .i64 t.column), .slice 11 .dead (encTs t.args)]
def encTerms (l : List Term) : AV := .slice 11 .dead (encTs l)
theorem encT_eq (t : Term) : encT t = encTerm t := by cases t; rfl
theorem encTs_map (l : List Term) : encTs l = l.map encTerm := by
  induction l with
  | nil => rfl
  | cons x r ih => show encT x :: encTs r = _; rw [ih, encT_eq]; rfl
theorem encTs_append (a b : List Term) : encTs (a ++ b) = encTs a ++ encTs b := by simp [encTs_map]
theorem encTs_length (l : List Term) : (encTs l).length = l.length := by simp [encTs_map]
theorem encTs_get (l : List Term) (i : Nat) (h : i < l.length) : (encTs l)[i]? = some (encTerm l[i]) := by simp [encTs_map, h]
def encCol (c : Column) : AV := .agg [.lit (.string c.name), .lit (.int .u8 c.kind), .lit (.int .i64 c.distinct), .lit (.int .i64 c.nulls)]
def encTable (t : Table) : AV := .agg [.lit (.string t.name), .slice 4 .dead (t.columns.map encCol), .lit (.int .u32 t.first), .lit (.int .i64 t.rows), .lit (.int .i64 t.pages)]
def ints (l : List Int) : AV := .slice 1 .dead (l.map (eI .i64))
def encIndex (x : Index) : AV := .agg [.lit (.string x.name), .lit (.int .i64 x.table), ints x.columns, .lit (.int .u32 x.root), .lit (.int .i64 x.leaves), .lit (.int .i64 x.high), ints x.distinct]
def encBook (b : Book) : AV := .agg [.slice 5 .dead (b.tables.map encTable), .slice 7 .dead (b.indexes.map encIndex)]

/-- An element's read: in bounds. -/
theorem got {α : Type} {f : α → AV} {l : List α} {i : Nat} {k : AV → Prop} (h : i < l.length) (hk : k (f l[i])) : Got (l.map f) (i : Int) k :=
  ⟨f l[i], ⟨by omega, by simp [h]⟩, hk⟩
theorem gotT {l : List Term} {i : Nat} {k : AV → Prop} (h : i < l.length) (hk : k (encTerm l[i])) : Got (encTs l) (i : Int) k :=
  ⟨_, ⟨by omega, by simpa using encTs_get l i h⟩, hk⟩
theorem wrap_i64 {n : Int} (h0 : -9223372036854775808 ≤ n) (h1 : n ≤ 9223372036854775807) : IntKind.i64.wrap n = n := by
  unfold IntKind.wrap IntKind.signed IntKind.bits
  simp
  omega
theorem kwrap {k : Nat} (h : k < 9223372036854775807) : IntKind.i64.wrap ((k : Int) + 1) = ((k + 1 : Nat) : Int) := by
  rw [wrap_i64 (by omega) (by omega)]; simp
end Go.Rw
