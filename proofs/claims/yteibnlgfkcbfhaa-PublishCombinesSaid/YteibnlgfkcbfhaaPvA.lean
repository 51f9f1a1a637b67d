/-
  AE, part A: an abstract machine over the loaded program's code: values whose blocks are abstract numbers, a heap of rows and maps, no draws of order, append copies (and kills the old row where its capacity is not known). A predicate transformer: 'callW d f args Q s' says that the call returns, with Q of what is returned and of the abstract memory.
-/
import Derived.Calls
import Derived.Orders
namespace Go.Proofs.Yteibnlgfkcbfhaa.AE
set_option linter.unusedVariables false
set_option linter.unusedSimpArgs false
open Go

/-- A constant that has the same meaning in every memory. -/
def okS : Value → Bool
  | .bool _ | .int _ _ | .string _ | .pointer none | .slice none 0 0 | .map none | .nilFunc => true
  | _ => false
def okC : Value → Bool
  | .agg cs => cs.toList.all okS
  | .tuple vs => vs.toList.isEmpty
  | v => okS v

/-- The same statement, as one that the kernel does not unfold. -/
structure Wr (p : Prop) : Prop where
  h : p
theorem Wr_eq (p : Prop) : Wr p = p := propext ⟨fun h => h.h, fun h => ⟨h⟩⟩

/-- A value of which nothing is known. -/
def U : Value := .float .f32 0
/-- The capacity of a slice whose row may have spare room. -/
def OPEN : Nat := 18446744073709551616
/-- The same, of elements of 'k' cells. (Of none: an empty slice whose place is not known.) -/
def OPN (k : Nat) : Nat := 18446744073709551616 + k

/-- Frozen cells as a slice of 'n' elements. 'm': 0: of its capacity nothing is known; 1: it has no spare room; 't + 2': the room behind it is the block 't'. -/
@[reducible] def FS (n m : Nat) (cs : List Value) : Value := .iface n (.iface m (.agg cs.toArray))
/-- A pointer to the cell 'o' of frozen cells. -/
@[reducible] def FP (o : Nat) (cs : List Value) : Value := .iface o (.agg cs.toArray)

/-- What a cell of a type holds. -/
inductive LK where
  | int (k : IntKind) | bool | str | slc | ptr | map | fn
  deriving Inhabited, DecidableEq

def lookE : List (Nat × Value) → Nat → Value
  | [], _ => U
  | (j, v) :: r, i => if j == i then v else lookE r i
/-- An activation's temporaries: those that are known, the newest first. -/
structure Tm where
  n : Nat
  al : List (Nat × Value)
  deriving Inhabited
def Tm.get (t : Tm) (i : Nat) : Value := lookE t.al i
def Tm.set (t : Tm) (d : Nat) (v : Value) : Tm := ⟨t.n, (d, if Nat.blt d t.n = true then v else U) :: t.al⟩

inductive Blk where
  | cells (c : List Value) (e : TypeId) (rw : Bool)
  /-- 'k0': how many entries were ever put in before the last clearing. -/
  | map (kt : LK) (es : List (Value × Value)) (k0 : Nat)
  /-- A range over a function that is under way. -/
  | loop (st : LoopState) (jump : Option Code) (M : Nat → Option (List Nat)) (t : Tm) (ps : Array Tmp) (asg body : Code)
  /-- A range over a map: the keys that it had, the numbers of those that were visited. -/
  | walk (m : Option Nat) (k0 : Nat) (all : List Value) (seen : List Nat)
  deriving Inhabited

structure St where
  heap : Nat → Option Blk
  next : Nat

/-- May the value stand in one cell of memory? -/
def cellOk : Value → Bool
  | .bool _ | .int _ _ | .string _ | .pointer _ | .slice _ _ _ | .map _ | .func _ _ _ | .nilFunc => true
  | .iface _ (.iface _ (.agg _)) | .iface _ (.agg _) => true
  | _ => false
/-- A slice's value; a pointer's. -/
def isSl : Value → Bool
  | .slice _ _ _ | .iface _ (.iface _ (.agg _)) => true
  | _ => false
def isPo : Value → Bool
  | .pointer _ | .iface _ (.agg _) => true
  | _ => false
/-- A pointer to a cell. -/
def isP : Value → Bool
  | .pointer (some ⟨_, _, none⟩) | .iface _ (.agg _) => true
  | _ => false
/-- A pointer to a cell that stands behind. -/
def padd (p : Value) (k : Nat) : Value :=
  match p with
  | .pointer (some ⟨b, o, none⟩) => .pointer (some ⟨b, o + k, none⟩)
  | .iface o (.agg cs) => .iface (o + k) (.agg cs)
  | _ => U

namespace St
def cell (s : St) (id off : Nat) : Option Value :=
  match s.heap id with
  | some (.cells c _ _) => c[off]?
  | _ => none
/-- The cell behind a pointer. -/
def at' (s : St) (p : Value) (j : Nat) : Option Value :=
  match p with
  | .pointer (some ⟨b, o, none⟩) => s.cell b (o + j)
  | .iface o (.agg cs) => cs.toList[o + j]?
  | _ => none
def put (s : St) (id : Nat) (b : Option Blk) : St := { s with heap := fun j => if j = id then b else s.heap j }
def new (s : St) (b : Blk) : St := { heap := fun j => if j = s.next then some b else s.heap j, next := s.next + 1 }
/-- Cells are written from a place on. -/
def setCells (s : St) (id off : Nat) (vs : List Value) : St :=
  match s.heap id with
  | some (.cells c e rw) => s.put id (some (.cells (c.take off ++ vs ++ c.drop (off + vs.length)) e rw))
  | _ => s
/-- May 'n' cells from 'off' on be written? -/
def wr (s : St) (id off n : Nat) : Prop := ∃ c e, s.heap id = some (.cells c e true) ∧ off + n ≤ c.length
/-- The cells of a row, from 'off' on. -/
def row (s : St) (id off n : Nat) : Option (List Value) :=
  match s.heap id with
  | some (.cells c _ _) => if off + n ≤ c.length ∧ ((c.drop off).take n).all cellOk = true then some ((c.drop off).take n) else none
  | _ => none
end St

def leafs (P : Program) : Nat → TypeId → Option (List LK)
  | 0, _ => none
  | n + 1, t =>
    match P.underlying t with
    | some (.int k) => some [.int k]
    | some .bool => some [.bool]
    | some .string => some [.str]
    | some (.slice _) => some [.slc]
    | some (.pointer _) => some [.ptr]
    | some (.map _ _) => some [.map]
    | some (.func _ _ _) => some [.fn]
    | some (.struct fs) => fs.toList.foldr (fun f acc => match leafs P n f.type, acc with | some a, some b => some (a ++ b) | _, _ => none) (some [])
    | _ => none

def isAggT (P : Program) (t : TypeId) : Bool :=
  match P.underlying t with
  | some (.struct _) | some (.array _ _) => true
  | _ => false

/- Reads of one cell, by what it must hold. -/
def ldI (s : St) (p : Value) (o : Nat) (k : IntKind) (K : Int → Prop) : Prop := ∃ n, s.at' p o = some (.int k n) ∧ K n
def ldB (s : St) (p : Value) (o : Nat) (K : Bool → Prop) : Prop := ∃ n, s.at' p o = some (.bool n) ∧ K n
def ldS (s : St) (p : Value) (o : Nat) (K : ByteArray → Prop) : Prop := ∃ n, s.at' p o = some (.string n) ∧ K n
def ldC (s : St) (p : Value) (o : Nat) (K : Value → Prop) : Prop := ∃ v, s.at' p o = some v ∧ isSl v = true ∧ K v
def ldP (s : St) (p : Value) (o : Nat) (K : Value → Prop) : Prop := ∃ v, s.at' p o = some v ∧ isPo v = true ∧ K v
def ldM (s : St) (p : Value) (o : Nat) (K : Option Nat → Prop) : Prop := ∃ r, s.at' p o = some (.map r) ∧ K r
def ldF (s : St) (p : Value) (o : Nat) (K : Value → Prop) : Prop := ∃ v, s.at' p o = some v ∧ cellOk v = true ∧ K v

def ldLK (s : St) (p : Value) (o : Nat) (lk : LK) (K : Value → Prop) : Prop :=
  match lk with
  | .int k => ldI s p o k fun n => K (.int k n)
  | .bool => ldB s p o fun n => K (.bool n)
  | .str => ldS s p o fun n => K (.string n)
  | .slc => ldC s p o K
  | .ptr => ldP s p o K
  | .map => ldM s p o fun r => K (.map r)
  | .fn => ldF s p o K

def ldLKs (s : St) (p : Value) : List LK → Nat → (List Value → Prop) → Prop
  | [], _, K => K []
  | lk :: r, o, K => ldLK s p o lk fun v => ldLKs s p r (o + 1) fun vs => K (v :: vs)

def ldT (P : Program) (t : TypeId) (s : St) (p : Value) (K : Value → Prop) : Prop :=
  match leafs P 20 t with
  | none => False
  | some lks => if isAggT P t then (if (lks.length == P.cellsOf t && lks.length != 0) = true then ldLKs s p lks 0 fun vs => K (.agg vs.toArray) else False) else
    match lks with
    | [lk] => ldLK s p 0 lk K
    | _ => False

/- The same of a value that is handed over. -/
def asI (v : Value) (k : IntKind) (K : Int → Prop) : Prop := ∃ n, v = .int k n ∧ K n
def asB (v : Value) (K : Bool → Prop) : Prop := ∃ n, v = .bool n ∧ K n
def asS (v : Value) (K : ByteArray → Prop) : Prop := ∃ n, v = .string n ∧ K n
def asC (v : Value) (K : Value → Prop) : Prop := isSl v = true ∧ K v
def asP (v : Value) (K : Value → Prop) : Prop := isPo v = true ∧ K v
def asM (v : Value) (K : Option Nat → Prop) : Prop := ∃ r, v = .map r ∧ K r

def asLK (v : Value) (lk : LK) (K : Value → Prop) : Prop :=
  match lk with
  | .int k => asI v k fun n => K (.int k n)
  | .bool => asB v fun n => K (.bool n)
  | .str => asS v fun n => K (.string n)
  | .slc => asC v K
  | .ptr => asP v K
  | .map => asM v fun r => K (.map r)
  | .fn => K v

/-- The parts of a value that has parts. -/
def tupA (v : Value) (n : Nat) (K : List Value → Prop) : Prop := ∃ l, v = .tuple (List.toArray l) ∧ l.length = n ∧ K l
def aggA (v : Value) (n : Nat) (K : List Value → Prop) : Prop := ∃ l, v = .agg (List.toArray l) ∧ l.length = n ∧ K l
def compA (l : List Value) (i : Nat) (K : Value → Prop) : Prop := ∃ x, l[i]? = some x ∧ K x

def asLKs (l : List Value) : List LK → Nat → (List Value → Prop) → Prop
  | [], _, K => K []
  | lk :: r, i, K => compA l i fun v => asLK v lk fun v' => asLKs l r (i + 1) fun vs => K (v' :: vs)

def asT (P : Program) (t : TypeId) (v : Value) (K : Value → Prop) : Prop :=
  match leafs P 20 t with
  | none => False
  | some lks => if isAggT P t then aggA v lks.length fun l => asLKs l lks 0 (fun vs => K (.agg vs.toArray)) else
    match lks with
    | [lk] => asLK v lk K
    | _ => False

def asTs (P : Program) (l : List Value) : List TypeId → Nat → (List Value → Prop) → Prop
  | [], _, K => K []
  | t :: r, i, K => compA l i fun v => asT P t v fun v' => asTs P l r (i + 1) fun vs => K (v' :: vs)

/-- A call's result, by its type. -/
def asRes (P : Program) (t : TypeId) (v : Value) (K : Value → Prop) : Prop :=
  match P.underlying t with
  | some (.tuple ts) => if ts.toList.isEmpty then K v else tupA v ts.toList.length fun l => asTs P l ts.toList 0 (fun vs => K (.tuple vs.toArray))
  | _ => asT P t v K

/-- An address that must be there. -/
def dP (a : Option Addr) (K : Nat → Nat → Prop) : Prop :=
  match a with
  | some ⟨b, o, none⟩ => K b o
  | _ => False
def dPv (v : Value) (K : Nat → Nat → Prop) : Prop :=
  match v with
  | .pointer a => dP a K
  | _ => False
/-- An element's place. -/
def ixA (x : Value) (i : Int) (k : Nat) (K : Value → Prop) : Prop :=
  match x with
  | .slice (some ⟨b, o, none⟩) n _ => (0 ≤ i ∧ i < n) ∧ K (.pointer (some ⟨b, o + i.toNat * k, none⟩))
  | .iface n (.iface _ (.agg cs)) => (0 ≤ i ∧ i < n) ∧ K (.iface (i.toNat * k) (.agg cs))
  | _ => False
/-- A slice's length. -/
def lenS (x : Value) (K : Int → Prop) : Prop :=
  match x with
  | .slice _ n _ => K n
  | .iface n (.iface _ (.agg _)) => K n
  | _ => False
/-- Its capacity, where it is known. -/
def capS (x : Value) (K : Int → Prop) : Prop :=
  match x with
  | .slice _ _ c => c < OPEN ∧ K c
  | .iface n (.iface m (.agg _)) => m = 1 ∧ K n
  | _ => False
/-- Is it nil? -/
def nilS (x : Value) (K : Bool → Prop) : Prop :=
  match x with
  | .slice a _ c => (a = none → c < OPEN) ∧ K a.isNone
  | .iface n (.iface _ (.agg _)) => (n = 0 → K true) ∧ K false
  | _ => False

inductive PR where
  | val (v : Value)
  | chk (c : Prop) (v : Value)
  | no

def binI (op : BinOp) (k : IntKind) (a b : Int) : PR :=
  match op with
  | .add => .val (.int k (k.wrap (a + b)))
  | .sub => .val (.int k (k.wrap (a - b)))
  | .mul => .val (.int k (k.wrap (a * b)))
  | .quo => .chk (b ≠ 0) (.int k (k.wrap (a.tdiv b)))
  | .rem => .chk (b ≠ 0) (.int k (a.tmod b))
  | .and => .val (.int k (k.wrap (BitVec.ofInt k.bits a &&& BitVec.ofInt k.bits b).toNat))
  | .or => .val (.int k (k.wrap (BitVec.ofInt k.bits a ||| BitVec.ofInt k.bits b).toNat))
  | .xor => .val (.int k (k.wrap (BitVec.ofInt k.bits a ^^^ BitVec.ofInt k.bits b).toNat))
  | .eql => .val (.bool (a == b))
  | .neq => .val (.bool (a != b))
  | .lss => .val (.bool (decide (a < b)))
  | .leq => .val (.bool (decide (a ≤ b)))
  | .gtr => .val (.bool (decide (a > b)))
  | .geq => .val (.bool (decide (a ≥ b)))
  | .shl => .chk (0 ≤ b) (.int k (k.wrap (a * 2 ^ (min b.toNat k.bits))))
  | .shr => .chk (0 ≤ b) (.int k (a.fdiv (2 ^ (min b.toNat k.bits))))
  | _ => .no

def binS (op : BinOp) (a b : ByteArray) : PR :=
  match op with
  | .add => .chk (((a.size + b.size : Nat) : Int) ≤ 9223372036854775807) (.string (a ++ b))
  | .eql => .val (.bool (a.toList == b.toList))
  | .neq => .val (.bool (!(a.toList == b.toList)))
  | .lss => .val (.bool (Op.bytesLess a.toList b.toList))
  | .leq => .val (.bool (Op.bytesLess a.toList b.toList || a.toList == b.toList))
  | .gtr => .val (.bool (!(Op.bytesLess a.toList b.toList || a.toList == b.toList)))
  | .geq => .val (.bool (!(Op.bytesLess a.toList b.toList)))
  | _ => .no

def binA (op : BinOp) (d : Option TypeDesc) (x y : Value) : PR :=
  match x, y with
  | .int k a, .int k' b => if k = k' then binI op k a b else match op with | .shl => binI op k a b | .shr => binI op k a b | _ => .no
  | .string a, .string b => binS op a b
  | .bool a, .bool b => match op, d with | .eql, some .bool => .val (.bool (a == b)) | .neq, some .bool => .val (.bool (!(a == b))) | _, _ => .no
  | _, _ => .no

/-- A comparison of a slice with nil. -/
def isNilV : Value → Bool
  | .slice none 0 0 => true
  | _ => false
def isSlT (d : Option TypeDesc) : Bool := match d with | some (.slice _) => true | _ => false
def binC (op : BinOp) (d : Option TypeDesc) (x y : Value) (K : Value → Prop) : Prop :=
  if isSlT d = true then (if isNilV y = true then (match op with
      | .eql => Wr (nilS x fun b => K (.bool b))
      | .neq => Wr (nilS x fun b => K (.bool (!b)))
      | _ => False) else False)
  else match binA op d x y with | .val v => K v | .chk c v => c ∧ K v | .no => False

def w64 (x : Int) : Int := IntKind.i64.wrap x
/-- A new block; a store. -/
def newA (s : St) (b : Blk) (K : Nat → St → Prop) : Prop := K s.next (s.new b)
def stA (s : St) (p : Value) (vs : List Value) (K : St → Prop) : Prop :=
  match p with
  | .pointer (some ⟨b, o, none⟩) => s.wr b o vs.length ∧ K (s.setCells b o vs)
  | _ => False
/-- A new variable: one that is never written, or one of our own. -/
def boxA (s : St) (cs : List Value) (e : TypeId) (K : Value → St → Prop) : Prop :=
  K (FP 0 cs) s ∨ K (.pointer (some ⟨s.next, 0, none⟩)) (s.new (.cells cs e true))
/-- A new row. -/
def rowA (s : St) (n : Nat) (cs : List Value) (e : TypeId) (K : Value → St → Prop) : Prop :=
  K (FS n 1 cs) s ∨ K (.slice (some ⟨s.next, 0, none⟩) n n) (s.new (.cells cs e true))

def makeA (s : St) (l c : Int) (cs : List Value) (e : TypeId) (K : Value → St → Prop) : Prop :=
  (l = c ∧ K (FS c.toNat 1 cs) s) ∨ K (.slice (some ⟨s.next, 0, none⟩) l.toNat c.toNat) (s.new (.cells cs e true))

/-- The cells of a value of a type. -/
def cellsT (P : Program) (t : TypeId) (v : Value) : List Value :=
  if isAggT P t = true then (match v with | .agg cs => cs.toList | _ => [U]) else [v]
/-- They may stand in cells. -/
def chkL : List Value → Prop → Prop
  | [], K => K
  | v :: r, K => if cellOk v = true then chkL r K else False
/-- A part of the cells is put in its place. -/
def fillC (P : Program) (place : Nat → Option (Nat × Nat × TypeId)) : List (Nat × Value) → List Value → (List Value → Prop) → Prop
  | [], cells, K => K cells
  | (i, v) :: rest, cells, K =>
    match place i with
    | none => False
    | some (off, size, ty) =>
      if (cellsT P ty v).length = size ∧ off + (cellsT P ty v).length ≤ cells.length then
        chkL (cellsT P ty v) (fillC P place rest (cells.take off ++ cellsT P ty v ++ cells.drop (off + (cellsT P ty v).length)) K)
      else False

def zeroA (P : Program) (t : TypeId) : Option (List Value) :=
  match P.info? t with
  | some i => match i.zero with | some v => if okC v = true then some v.cells.toList else none | none => none
  | none => none

def placesA (P : Program) (t : TypeId) (i : Nat) : Option (Nat × Nat) :=
  match P.underlying t with
  | some (.struct fs) => match fs[i]? with | some f => (match P.info? f.type with | some j => some (f.offset, j.size) | none => none) | none => none
  | _ => none

/-- A struct's or an array's value out of its parts, by the machine's own places. -/
def buildA (P : Program) (t : TypeId) (ps : List (Nat × Value)) (K : Value → Prop) : Prop :=
  match P.info? t, P.underlying t with
  | some it, some (.array _ e) =>
    match it.zero, P.info? e with
    | some z, some ie => if okC z = true then fillC P (fun i => some (i * ie.size, ie.size, e)) ps z.cells.toList fun cs => K (.agg cs.toArray) else False
    | _, _ => False
  | some it, some (.struct fields) =>
    match it.zero, fields.toList.mapM (fun f => (P.info? f.type).map fun i => (f.offset, i.size, f.type)) with
    | some z, some places => if okC z = true then fillC P (places.toArray[·]?) ps z.cells.toList fun cs => K (.agg cs.toArray) else False
    | _, _ => False
  | _, _ => False

def elemA (P : Program) (t : TypeId) : Option TypeId :=
  match P.underlying t with | some (.slice e) => (match P.info? e with | some _ => some e | none => none) | _ => none
def isStrT (P : Program) (t : TypeId) : Bool := match P.underlying t with | some .string => true | _ => false

def rowsA (n : Nat) (z : List Value) : List Value := match n with | 0 => [] | n + 1 => z ++ rowsA n z

def buildSliceA (P : Program) (t : TypeId) (len : Nat) (ps : List (Nat × Value)) (s : St) (K : Value → St → Prop) : Prop :=
  match elemA P t with
  | some e => match zeroA P e with
    | some z => fillC P (fun i => some (i * P.cellsOf e, P.cellsOf e, e)) ps (rowsA len z) fun cs =>
        if (z.length == P.cellsOf e && decide (len * P.cellsOf e ≤ 16777216) && decide (len ≤ 16777216)) = true then Wr (rowA s len cs e K) else False
    | none => False
  | none => False

/-- The elements of a slice: how many, their cells. -/
def elsA (s : St) (k : Nat) (y : Value) (K : Nat → List Value → Prop) : Prop :=
  match y with
  | .slice a n _ => ∃ ys, (n = 0 ∧ ys = [] ∨ ∃ b o, a = some ⟨b, o, none⟩ ∧ s.row b o (n * k) = some ys) ∧ K n ys
  | .iface n (.iface _ (.agg cs)) => (cs.toList.length = n * k ∧ cs.toList.all cellOk = true) ∧ K n cs.toList
  | _ => False

/-- What an append gives: a row of our own; frozen cells with room behind them. -/
def outA (s : St) (e k n : Nat) (zs : List Value) (K : Value → St → Prop) : Prop :=
  K (.slice (some ⟨s.next, 0, none⟩) n (OPN k)) (s.new (.cells zs e true)) ∨ K (FS n (s.next + 2) zs) (s.new (.cells [] e true))

/-- An append, as a copy. 'k': the cells of an element. -/
def appA (e k bytes : Nat) (x y : Value) (s : St) (K : Value → St → Prop) : Prop :=
  elsA s k x fun n xs => elsA s k y fun n2 ys => (n + n2) * bytes ≤ 140737488355328 ∧
    if n2 = 0 then K x s else
    match x with
    | .slice a _ c => (c < OPEN ∧ c < n + n2 ∧ outA s e k (n + n2) (xs ++ ys) K) ∨
        (c = OPN k ∧ ∃ b o cs e', a = some ⟨b, o, none⟩ ∧ s.heap b = some (.cells cs e' true) ∧ outA (s.put b none) e k (n + n2) (xs ++ ys) K)
    | .iface _ (.iface 1 _) => outA s e k (n + n2) (xs ++ ys) K
    | .iface _ (.iface (t + 2) _) => 0 < n ∧ (∃ cs e', s.heap t = some (.cells cs e' true)) ∧ K (FS (n + n2) (s.next + 2) (xs ++ ys)) ((s.put t none).new (.cells [] e true))
    | _ => False

/-- An append of zero values. -/
def appZ (e k bytes : Nat) (z : List Value) (x : Value) (l : Int) (s : St) (K : Value → St → Prop) : Prop :=
  (0 < l ∧ l ≤ 140737488355328) ∧ elsA s k x fun n xs => (n + l.toNat) * bytes ≤ 140737488355328 ∧
    match x with
    | .slice _ _ c => c < OPEN ∧ c < n + l.toNat ∧ outA s e k (n + l.toNat) (xs ++ rowsA l.toNat z) K
    | .iface _ (.iface 1 _) => outA s e k (n + l.toNat) (xs ++ rowsA l.toNat z) K
    | _ => False

/-- A slice expression over a slice. An empty rest behind a row's begin has no known address. -/
def subA (x : Value) (k : Nat) (lo : Int) (hi : Option Int) (mx : Option Int) (K : Value → Prop) : Prop :=
  match x with
  | .slice a n c =>
    let h := hi.getD n
    (0 ≤ lo ∧ lo ≤ h ∧ h ≤ n) ∧ (∀ m, mx = some m → h ≤ m ∧ m ≤ n ∧ m < 18446744073709551616 ∧ (a = none → c < OPEN)) ∧
    ((lo = 0 ∧ K (.slice a h.toNat (match mx with | none => c | some m => m.toNat))) ∨
     (lo ≠ 0 ∧ lo = h ∧ K (.slice none 0 (OPN 0))) ∨
     (lo ≠ 0 ∧ lo ≠ h ∧ ∃ b o, a = some ⟨b, o, none⟩ ∧
        ((∃ m, mx = some m ∧ K (.slice (some ⟨b, o + lo.toNat * k, none⟩) (h - lo).toNat (m.toNat - lo.toNat))) ∨
         (mx = none ∧ c < OPEN ∧ K (.slice (some ⟨b, o + lo.toNat * k, none⟩) (h - lo).toNat (c - lo.toNat))) ∨
         (mx = none ∧ c = OPN k ∧ K (.slice (some ⟨b, o + lo.toNat * k, none⟩) (h - lo).toNat (OPN k))))))
  | .iface n (.iface m (.agg cs)) =>
    let h := hi.getD n
    (0 ≤ lo ∧ lo ≤ h ∧ h ≤ n) ∧ cs.toList.length = n * k ∧
      match mx with
      | none => K (FS (h - lo).toNat (if m = 1 ∧ h = n then 1 else 0) ((cs.toList.drop (lo.toNat * k)).take ((h - lo).toNat * k)))
      | some m => h = m ∧ K (FS (h - lo).toNat 1 ((cs.toList.drop (lo.toNat * k)).take ((h - lo).toNat * k)))
  | _ => False

def keyEq : Value → Value → Bool
  | .int k a, .int k' b => k == k' && a == b
  | .string a, .string b => a == b
  | .bool a, .bool b => a == b
  | _, _ => false
def findM (k : Value) : List (Value × Value) → Option Value
  | [] => none
  | (k', v) :: r => if keyEq k k' then some v else findM k r
def setM (k v : Value) : List (Value × Value) → List (Value × Value)
  | [] => [(k, v)]
  | (k', v') :: r => if keyEq k k' then (k, v) :: r else (k', v') :: setM k v r
/-- A key of the kind. -/
def keyLK : LK → Value → Bool
  | .int k, .int k' _ => k == k'
  | .str, .string _ | .bool, .bool _ => true
  | _, _ => false

def mapAt (s : St) (r : Option Nat) (kt : LK) (K : List (Value × Value) → Prop) : Prop :=
  match r with
  | none => K []
  | some r => ∃ es k0, s.heap r = some (.map kt es k0) ∧ K es

/-- A map's type: the kind of its keys, the type of its elements. -/
def mapT (P : Program) (t : TypeId) : Option (LK × TypeId) :=
  match P.underlying t with
  | some (.map k e) => (match P.underlying k, P.info? e with
    | some (.int j), some _ => some (.int j, e)
    | some .string, some _ => some (.str, e)
    | some .bool, some _ => some (.bool, e)
    | _, _ => none)
  | _ => none

/-- What a map holds under a key, or the zero value. -/
def lookM (s : St) (r : Option Nat) (kt : LK) (key z : Value) (K : Value → Bool → Prop) : Prop :=
  mapAt s r kt fun es => match findM key es with | some v => K v true | none => K z false
def zeroV (P : Program) (e : TypeId) : Option Value :=
  match P.info? e with
  | some i => (match i.zero with | some v => if okC v = true then some v else none | none => none)
  | none => none
def lookA (P : Program) (t : TypeId) (r : Option Nat) (key : Value) (ok : Bool) (s : St) (K : Value → Prop) : Prop :=
  match mapT P t with
  | some (kt, e) => if keyLK kt key = true then
      match zeroV P e with
      | some z => lookM s r kt key z fun v b => asT P e v fun v => K (if ok then .tuple #[v, .bool b] else v)
      | none => False
    else False
  | none => False
/-- A map is written. -/
def updM (s : St) (r : Option Nat) (kt : LK) (key v : Value) (K : St → Prop) : Prop :=
  match r with
  | none => False
  | some r => ∃ es k0, s.heap r = some (.map kt es k0) ∧ K (s.put r (some (.map kt (setM key v es) k0)))
/-- A map is emptied. -/
def clearM (s : St) (r : Option Nat) (kt : LK) (K : St → Prop) : Prop :=
  match r with
  | none => K s
  | some r => ∃ es k0, s.heap r = some (.map kt es k0) ∧ K (s.put r (some (.map kt [] (k0 + es.length))))
/-- A range over a map begins. -/
def rangeA (P : Program) (t : TypeId) (r : Option Nat) (s : St) (K : Nat → St → Prop) : Prop :=
  match r with
  | none => newA s (.walk none 0 [] []) K
  | some r => match mapT P t with
    | some (kt, _) => ∃ es k0, s.heap r = some (.map kt es k0) ∧ newA s (.walk (some r) k0 (es.map (·.1)) []) K
    | none => False
/-- Its next step: at the end (N), or at an entry that was not visited, whichever (Y). -/
def nextA (s : St) (b : Nat) (N Y : St → Prop) : Prop :=
  ∃ m k0 all seen, s.heap b = some (.walk m k0 all seen) ∧
    match m with
    | none => N s
    | some m => ∃ kt es, s.heap m = some (.map kt es k0) ∧ es.map (·.1) = all ∧
      (if all.length ≤ seen.length then N s else ∀ i, i ∉ seen → i < all.length → Y (s.put b (some (.walk (some m) k0 all (seen ++ [i])))))
/-- The entry that it stands at. -/
def entryA (s : St) (b : Nat) (K : Value → Value → Prop) : Prop :=
  ∃ m k0 all seen i kt es k v, s.heap b = some (.walk (some m) k0 all (seen ++ [i])) ∧ s.heap m = some (.map kt es k0) ∧ es.map (·.1) = all ∧ es[i]? = some (k, v) ∧ K k v

def intA (v : Value) (K : Int → Prop) : Prop := match v with | .int _ n => K n | _ => False
def optInt (v : Option Value) (d : Int) (K : Int → Prop) : Prop := match v with | none => K d | some v => intA v K

def byteAt (s : ByteArray) (i : Int) : Int := ((s.data.toList.getD i.toNat 0).toNat : Int)

def lkOf (P : Program) (t : TypeId) : Option LK := if isAggT P t then none else match leafs P 20 t with | some [k] => some k | _ => none

/-- A row of bytes as a string. -/
def strA (s : St) (v : Value) (K : ByteArray → Prop) : Prop :=
  elsA s 1 v fun _ xs => ∃ bs : List UInt8, xs = bs.map (fun b => .int .u8 b.toNat) ∧ K ⟨bs.toArray⟩
def byteA (s : St) (x : ByteArray) (e : TypeId) (K : Value → St → Prop) : Prop :=
  K (FS x.size 0 (x.data.toList.map fun b => .int .u8 b.toNat)) s ∨ K (.slice (some ⟨s.next, 0, none⟩) x.size (OPN 1)) (s.new (.cells (x.data.toList.map fun b => .int .u8 b.toNat) e true))
def convA (P : Program) (src dst : TypeId) (v : Value) (s : St) (K : Value → St → Prop) : Prop :=
  match lkOf P src, lkOf P dst with
  | some (.int _), some (.int k) => (match v with | .int _ n => K (.int k (k.wrap n)) s | _ => False)
  | some .str, some .str => (match v with | .string x => K (.string x) s | _ => False)
  | some .str, some .slc => (match v with
    | .string x => (match elemA P dst with
      | some e => (match lkOf P e with
        | some (.int .u8) => Wr (byteA s x e K)
        | _ => False)
      | none => False)
    | _ => False)
  | some .slc, some .str => (match elemA P src with
    | some e => (match lkOf P e with
      | some (.int .u8) => strA s v fun x => K (.string x) s
      | _ => False)
    | none => False)
  | _, _ => False

def lenA (P : Program) (t : TypeId) (v : Value) (s : St) (K : Int → Prop) : Prop :=
  match P.underlying t with
  | some (.slice _) => Wr (lenS v K)
  | some .string => (match v with | .string x => K x.size | _ => False)
  | some (.map _ _) => (match v with | .map r => (match mapT P t with | some (kt, _) => mapAt s r kt fun es => K es.length | none => False) | _ => False)
  | _ => False

abbrev CallSem := Fn → List Value → (Value → St → Prop) → St → Prop

/-- The types of a tuple's parts, by what takes them out. -/
def hintOf (ops : Array Oper) (d : Option Tmp) (i : Nat) : Option TypeId :=
  match d with
  | none => none
  | some d => (ops.toList.find? fun o => match o.op with | .extract (.tmp t) j => t == d && j == i | _ => false).map (·.type)
def asH (P : Program) (t : Option TypeId) (v : Value) (K : Value → Prop) : Prop :=
  match t with
  | none => K U
  | some t => asT P t v K

def aOp (P : Program) (C : CallSem) (H : Nat → Option TypeId) (o : Oper) (ρ : Operand → Value) (s : St) (K : Value → St → Prop) : Prop :=
  match o.op with
  | .move x => K (ρ x) s
  | .assign x => K (ρ x) s
  | .pick c a b => match ρ c with | .bool x => if x = true then K (ρ a) s else K (ρ b) s | _ => False
  | .alloc e => match zeroA P e with | some z => if z.all cellOk = true then Wr (boxA s z e K) else False | none => False
  | .box e x => if (P.underlying e).isSome = true then chkL (cellsT P e (ρ x)) (Wr (boxA s (cellsT P e (ρ x)) e K)) else False
  | .build t ps => buildA P t (ps.toList.map fun p => (p.1, ρ p.2)) fun v => K v s
  | .buildSlice t n ps => buildSliceA P t n (ps.toList.map fun p => (p.1, ρ p.2)) s K
  | .load t a => ldT P t s (ρ a) fun v => K v s
  | .store t a x => if ((cellsT P t (ρ x)).length == P.cellsOf t && (P.info? t).isSome) = true then chkL (cellsT P t (ρ x)) (stA s (ρ a) (cellsT P t (ρ x)) fun s => K (.tuple #[]) s) else False
  | .nilCheck x => isP (ρ x) = true ∧ K (ρ x) s
  | .binOp op t x y _ => binC op (P.underlying t) (ρ x) (ρ y) fun v => K v s
  | .unOp op _ x => match op, ρ x with
    | .not, .bool b => K (.bool !b) s
    | .neg, .int k n => K (.int k (k.wrap (0 - n))) s
    | _, _ => False
  | .convert src dst x => convA P src dst (ρ x) s K
  | .makeFunc fn first cap => match fn with | .func f => K (.func (.func f) (first.map ρ) (cap.map ρ)) s | _ => False
  | .makeMap t r => match mapT P t, r with
    | some (kt, _), none => newA s (.map kt [] 0) fun p s => K (.map (some p)) s
    | some (kt, _), some x => intA (ρ x) fun _ => newA s (.map kt [] 0) fun p s => K (.map (some p)) s
    | _, _ => False
  | .makeSlice t l c => intA (ρ l) fun l' => intA (ρ c) fun c' => match elemA P t with
    | some e => match zeroA P e with
      | some z => (0 ≤ l' ∧ l' ≤ c' ∧ c' * P.bytesOf e ≤ 140737488355328) ∧
          (c' ≤ 9223372036854775807 ∧ P.cellsOf e = z.length) ∧ Wr (makeA s l' c' (rowsA c'.toNat z) e K)
      | none => False
    | none => False
  | .slice t x lo hi mx => match elemA P t with
    | some e => optInt (lo.map ρ) 0 fun l =>
      match hi.map ρ, mx.map ρ with
      | none, none => Wr (subA (ρ x) (P.cellsOf e) l none none fun v => K v s)
      | some h, none => intA h fun h => Wr (subA (ρ x) (P.cellsOf e) l (some h) none fun v => K v s)
      | some h, some m => intA h fun h => intA m fun m => Wr (subA (ρ x) (P.cellsOf e) l (some h) (some m) fun v => K v s)
      | none, some _ => False
    | none => match ρ x with
      | .string x => if (isStrT P t && mx.isNone) = true then optInt (lo.map ρ) 0 fun l => optInt (hi.map ρ) x.size fun h => (0 ≤ l ∧ l ≤ h ∧ h ≤ x.size) ∧ K (.string (x.extract l.toNat h.toNat)) s else False
      | _ => False
  | .fieldAddr t x f => match placesA P t f with | some (off, n) => if (n != 0) = true then isP (ρ x) = true ∧ K (padd (ρ x) off) s else False | none => False
  | .field t x f => match ρ x, P.underlying t with
    | .agg cs, some (.struct fs) => match fs[f]? with
      | some fd => if (P.underlying fd.type).isNone = true then False else if isAggT P fd.type then K (.agg ((cs.toList.drop fd.offset).take (P.cellsOf fd.type)).toArray) s else (match cs.toList.drop fd.offset with | v :: _ => K v s | [] => False)
      | none => False
    | _, _ => False
  | .indexAddr t x i => match elemA P t with
    | some e => intA (ρ i) fun i => Wr (ixA (ρ x) i (P.cellsOf e) fun p => K p s)
    | none => False
  | .index t x i => match ρ x with
    | .string x => if isStrT P t = true then intA (ρ i) fun i => (0 ≤ i ∧ i < x.size) ∧ K (.int .u8 (byteAt x i)) s else False
    | _ => False
  | .lookup t x i ok => match ρ x with | .map r => lookA P t r (ρ i) ok s fun v => K v s | _ => False
  | .mapUpdate t m k v => match mapT P t, ρ m with
    | some (kt, _), .map r => if keyLK kt (ρ k) = true then updM s r kt (ρ k) (ρ v) fun s => K (.tuple #[]) s else False
    | _, _ => False
  | .insert t m k v => match mapT P t, ρ m with
    | some (kt, _), .map r => if keyLK kt (ρ k) = true then updM s r kt (ρ k) (ρ v) fun s => K (.tuple #[]) s else False
    | _, _ => False
  | .range t x => match ρ x with
    | .map r => if (mapT P t).isSome = true then rangeA P t r s fun p s => K (.pointer (some ⟨p, 0, none⟩)) s else False
    | _ => False
  | .next it str => if str = true then False else dPv (ρ it) fun b of => of = 0 ∧ nextA s b (fun s => K (.tuple #[.bool false]) s) (fun s => K (.tuple #[.bool true, U, U]) s)
  | .entry it => dPv (ρ it) fun b of => of = 0 ∧ entryA s b fun k v => asH P (H 0) k fun k => asH P (H 1) v fun v => K (.tuple #[k, v]) s
  | .extract t i => match ρ t with | .tuple vs => (match vs[i]? with | some v => K v s | none => False) | _ => False
  | .call c => match c.callee with
    | .builtin .len => match c.args.toList, c.argTypes.toList with
      | [x], [t] => lenA P t (ρ x) s fun n => K (.int .i64 n) s
      | _, _ => False
    | .builtin .cap => match c.args.toList, c.argTypes.toList with
      | [x], [t] => (match elemA P t with | some _ => Wr (capS (ρ x) fun n => K (.int .i64 n) s) | none => False)
      | _, _ => False
    | .builtin .append => match c.args.toList, c.argTypes.toList with
      | [x, y], [t, t2] => match elemA P t, elemA P t2 with
        | some e, some e2 => if (P.bytesOf e != 0 && P.cellsOf e != 0 && ((zeroA P e).map List.length == some (P.cellsOf e)) && P.cellsOf e2 == P.cellsOf e) = true then Wr (appA e (P.cellsOf e) (P.bytesOf e) (ρ x) (ρ y) s K) else False
        | some e, none => (match P.underlying t2, zeroA P e with
          | some (.int .i64), some z => if (P.bytesOf e != 0 && P.cellsOf e != 0 && z.length == P.cellsOf e) = true then intA (ρ y) fun l => Wr (appZ e (P.cellsOf e) (P.bytesOf e) z (ρ x) l s K) else False
          | _, _ => False)
        | _, _ => False
      | _, _ => False
    | .value f => match ρ f with
      | .func (.func g) first cap => Wr (C (.func g) (first.toList ++ c.args.toList.map ρ ++ cap.toList) (fun v s' => asRes P o.type v fun v => K v s') s)
      | .func (.yield l) first cap => Wr (C (.yield l) (first.toList ++ c.args.toList.map ρ ++ cap.toList) (fun v s' => asRes P o.type v fun v => K v s') s)
      | _ => False
    | .builtin .clear => match c.args.toList, c.argTypes.toList with
      | [x], [t] => match mapT P t, ρ x with
        | some (kt, _), .map r => clearM s r kt fun s => K (.tuple #[]) s
        | _, _ => False
      | _, _ => False
    | _ => False
  | _ => False

def evA (t : Tm) : Operand → Value
  | .tmp i => t.get i
  | .const v => if okC v = true then v else U
  | .global _ => U
  | .func f => .func (.func f) #[] #[]
def putA (t : Tm) (d : Option Tmp) (v : Value) : Tm := match d with | some d => t.set d v | none => t

/- The same, so that the kernel keeps the activation plain. -/
def lookK (l : List (Nat × Value)) (i : Nat) : (Value → Prop) → Prop :=
  List.rec (motive := fun _ => (Value → Prop) → Prop) (fun K => K U) (fun p _ ih K => Bool.rec (motive := fun _ => Prop) (ih K) (K p.2) (Nat.beq p.1 i)) l
theorem lookK_nil (i : Nat) (K : Value → Prop) : lookK [] i K = K U := rfl
theorem lookK_cons (p : Nat × Value) (r : List (Nat × Value)) (i : Nat) (K : Value → Prop) : lookK (p :: r) i K = Bool.rec (motive := fun _ => Prop) (lookK r i K) (K p.2) (Nat.beq p.1 i) := rfl
def getK (t : Tm) (i : Nat) (K : Value → Prop) : Prop := lookK t.al i K
def setK (t : Tm) (d : Nat) (v : Value) (K : Tm → Prop) : Prop :=
  Bool.rec (motive := fun _ => Prop) (K ⟨t.n, (d, U) :: t.al⟩) (K ⟨t.n, (d, v) :: t.al⟩) (Nat.blt d t.n)
def setO (t : Tm) (d : Option Tmp) (v : Value) (K : Tm → Prop) : Prop := match d with | some d => setK t d v K | none => K t
def envK : List Nat → Tm → (List (Nat × Value) → Prop) → Prop
  | [], _, K => K []
  | i :: r, t, K => getK t i fun v => envK r t fun e => K ((i, v) :: e)
def evE (e : List (Nat × Value)) : Operand → Value
  | .tmp i => lookE e i
  | .const v => if okC v = true then v else U
  | .global _ => U
  | .func f => .func (.func f) #[] #[]
def tmpsOf : List Operand → List Nat
  | [] => []
  | .tmp i :: r => i :: tmpsOf r
  | _ :: r => tmpsOf r
def maskA (m : Option (List Nat)) (t : Tm) : Tm := match m with | none => t | some l => ⟨t.n, l.map fun i => (i, t.get i)⟩
/-- The temporaries that an operation reads. -/
def opTmps (op : Op) : List Nat :=
  match op with
  | .move x | .assign x | .box _ x | .load _ x | .nilCheck x | .unOp _ _ x | .convert _ _ x | .fieldAddr _ x _ | .field _ x _ | .range _ x | .next x _ | .entry x | .extract x _ => tmpsOf [x]
  | .pick c a b => tmpsOf [c, a, b]
  | .build _ ps | .buildSlice _ _ ps => tmpsOf (ps.toList.map (·.2))
  | .store _ a v | .binOp _ _ a v _ | .makeSlice _ a v | .indexAddr _ a v | .index _ a v | .lookup _ a v _ => tmpsOf [a, v]
  | .makeFunc _ first captured => tmpsOf (first.toList ++ captured.toList)
  | .makeMap _ r => tmpsOf r.toList
  | .slice _ x l h m => tmpsOf (x :: (l.toList ++ (h.toList ++ m.toList)))
  | .mapUpdate _ m k v | .insert _ m k v => tmpsOf [m, k, v]
  | .call c => match c.callee with | .value f => tmpsOf (f :: c.args.toList) | _ => tmpsOf c.args.toList
  | _ => []
def maskO (m : Option (List Nat)) (t : Tm) (K : Tm → Prop) : Prop := match m with | none => K t | some l => envK l t fun e => K ⟨t.n, e⟩
def setBL (t : List Bool) : Nat → (List Bool → Prop) → Prop :=
  List.rec (motive := fun _ => Nat → (List Bool → Prop) → Prop) (fun _ K => K []) (fun a r ih n => Nat.rec (motive := fun _ => (List Bool → Prop) → Prop) (fun K => K (true :: r)) (fun n _ K => ih n fun r => K (a :: r)) n) t
theorem setBL_nil (i : Nat) (K : List Bool → Prop) : setBL [] i K = K [] := rfl
theorem setBL_zero (a : Bool) (r : List Bool) (K : List Bool → Prop) : setBL (a :: r) 0 K = K (true :: r) := rfl
theorem setBL_succ (a : Bool) (r : List Bool) (i : Nat) (K : List Bool → Prop) : setBL (a :: r) (i + 1) K = setBL r i fun r => K (a :: r) := rfl
def setB (a : Array Bool) (i : Nat) (K : Array Bool → Prop) : Prop := setBL a.toList i fun l => K l.toArray

def runA (P : Program) (C : CallSem) (ops : Array Oper) (o : Oper) (t : Tm) (s : St) (K : Tm → St → Prop) : Prop :=
  envK (opTmps o.op) t fun e => aOp P C (hintOf ops o.dst) o (evE e) s fun v s => setO t o.dst v fun t => K t s

/-- One operation of a region, with its guard: what the guard hangs on is settled. -/
def stepO (P : Program) (C : CallSem) (ops : Array Oper) (o : Oper) (t : Tm) (s : St) (K : Tm → St → Prop) : Prop :=
  match o.guard with
  | none => runA P C ops o t s K
  | some (j, want) =>
    match (ops[j]?).bind (·.dst) with
    | none => False
    | some d => getK t d fun g => match g with
      | .bool b => if b = want then setK t d (.bool want) fun t => runA P C ops o t s K
          else setK t d (.bool !want) fun t => setO t o.dst undef fun t => K t s
      | .tuple vs => if vs.toList.isEmpty = true then setO t o.dst undef fun t => K t s else False
      | _ => False
def stepA (P : Program) (C : CallSem) (ops : Array Oper) (i : Nat) (t : Tm) (s : St) (K : Tm → St → Prop) : Prop :=
  match ops[i]? with
  | none => False
  | some o => stepO P C ops o t s K

theorem lookK_eq : ∀ (l : List (Nat × Value)) (i : Nat) (K : Value → Prop), lookK l i K = K (lookE l i)
  | [], i, K => rfl
  | (j, v) :: r, i, K => by
    rw [lookK_cons, lookK_eq r i K]
    show Bool.rec (motive := fun _ => Prop) (K (lookE r i)) (K v) (Nat.beq j i) = _
    have e : Nat.beq j i = (j == i) := by
      by_cases h : j = i
      · subst h; simp
      · rw [beq_eq_false_iff_ne.2 h]
        cases hb : Nat.beq j i with
        | false => rfl
        | true => exact absurd (Nat.eq_of_beq_eq_true hb) h
    rw [e]
    simp only [lookE]
    cases j == i <;> rfl
theorem getK_eq (t : Tm) (i : Nat) (K : Value → Prop) : getK t i K = K (t.get i) := lookK_eq t.al i K
theorem setK_eq (t : Tm) (i : Nat) (v : Value) (K : Tm → Prop) : setK t i v K = K (t.set i v) := by
  unfold setK Tm.set
  cases Nat.blt i t.n <;> rfl
theorem setO_eq (t : Tm) (d : Option Tmp) (v : Value) (K : Tm → Prop) : setO t d v K = K (putA t d v) := by
  cases d with
  | none => rfl
  | some d => exact setK_eq t d v K
theorem envK_eq : ∀ (l : List Nat) (t : Tm) (K : List (Nat × Value) → Prop), envK l t K = K (l.map fun i => (i, t.get i))
  | [], t, K => rfl
  | i :: r, t, K => by simp only [envK, getK_eq, envK_eq r t, List.map_cons]
theorem maskO_eq (m : Option (List Nat)) (t : Tm) (K : Tm → Prop) : maskO m t K = K (maskA m t) := by
  cases m with
  | none => rfl
  | some l => simp only [maskO, envK_eq, maskA]
theorem setBL_eq : ∀ (l : List Bool) (i : Nat) (K : List Bool → Prop), setBL l i K = K (l.set i true)
  | [], i, K => by simp [setBL_nil]
  | a :: r, 0, K => by simp [setBL_zero]
  | a :: r, i + 1, K => by simp [setBL_succ, setBL_eq r i]
theorem setB_eq (a : Array Bool) (i : Nat) (K : Array Bool → Prop) : setB a i K = K (a.setIfInBounds i true) := by
  unfold setB
  rw [setBL_eq]
  congr 1
  apply Array.ext'
  simp
/-- What an operation looks at, as it stands in the activation. -/
def evT (l : List Nat) (t : Tm) : Operand → Value := evE (l.map fun i => (i, t.get i))
theorem lookE_map (t : Tm) (i : Nat) : ∀ (l : List Nat), lookE (l.map fun i => (i, t.get i)) i = t.get i ∨ lookE (l.map fun i => (i, t.get i)) i = U
  | [] => .inr rfl
  | j :: r => by
    simp only [List.map_cons, lookE]
    split
    · rename_i h
      simp only [beq_iff_eq] at h
      subst h
      exact .inl rfl
    · exact lookE_map t i r
theorem evT_or (l : List Nat) (t : Tm) (x : Operand) : evT l t x = evA t x ∨ evT l t x = U := by
  cases x with
  | tmp i => exact lookE_map t i l
  | const v => exact .inl rfl
  | global g => exact .inl rfl
  | func f => exact .inl rfl
theorem runA_eq (P : Program) (C : CallSem) (ops : Array Oper) (o : Oper) (t : Tm) (s : St) (K : Tm → St → Prop) :
    runA P C ops o t s K = aOp P C (hintOf ops o.dst) o (evT (opTmps o.op) t) s fun v s => K (putA t o.dst v) s := by
  simp only [runA, envK_eq, setO_eq]
  rfl

def seqA (P : Program) (C : CallSem) (ops : Array Oper) : List Nat → Tm → St → (Tm → St → Prop) → Prop
  | [], t, s, K => K t s
  | i :: r, t, s, K => stepA P C ops i t s fun t s => seqA P C ops r t s K

def seqL (P : Program) (C : CallSem) (ops : Array Oper) (l : List Oper) : Tm → St → (Tm → St → Prop) → Prop :=
  List.rec (motive := fun _ => Tm → St → (Tm → St → Prop) → Prop) (fun t s K => K t s) (fun o _ ih t s K => stepO P C ops o t s fun t s => ih t s K) l
theorem seqL_nil (P : Program) (C : CallSem) (ops : Array Oper) (t : Tm) (s : St) (K : Tm → St → Prop) : seqL P C ops [] t s K = K t s := rfl
theorem seqL_cons (P : Program) (C : CallSem) (ops : Array Oper) (o : Oper) (l : List Oper) (t : Tm) (s : St) (K : Tm → St → Prop) : seqL P C ops (o :: l) t s K = stepO P C ops o t s fun t s => seqL P C ops l t s K := rfl
theorem seqL_eq (P : Program) (C : CallSem) (ops : Array Oper) : ∀ (l pre : List Oper) (t : Tm) (s : St) (K : Tm → St → Prop), ops.toList = pre ++ l → seqL P C ops l t s K = seqA P C ops (List.range' pre.length l.length) t s K
  | [], pre, t, s, K, h => rfl
  | o :: l, pre, t, s, K, h => by
    have ho : ops[pre.length]? = some o := by rw [← Array.getElem?_toList, h]; simp
    rw [seqL_cons, List.length_cons, List.range'_succ]
    have ih := fun t s => seqL_eq P C ops l (pre ++ [o]) t s K (by rw [h]; simp)
    rw [List.length_append, List.length_singleton] at ih
    simp only [seqA, stepA, ho, ih]
theorem seqL_all (P : Program) (C : CallSem) (ops : Array Oper) (t : Tm) (s : St) (K : Tm → St → Prop) : seqL P C ops ops.toList t s K = seqA P C ops (List.range ops.size) t s K := by
  rw [seqL_eq P C ops ops.toList [] t s K rfl, List.range_eq_range']
  rfl

/- A new variable into which a value is stored at once: 'alloc; assign..; store' comes to 'assign..; box'. -/
def offP (p : Nat) (x : Operand) : Bool := match x with | .tmp i => !(Nat.beq i p) | .global _ => false | _ => true
def isMv (p : Nat) (o : Oper) : Bool :=
  match o.guard, o.dst, o.op with
  | none, some q, .assign x => !(Nat.beq q p) && offP p x
  | _, _, _ => false
def isSt (p : Nat) (e : TypeId) (o : Oper) : Bool :=
  match o.guard, o.dst, o.op with
  | none, none, .store t (.tmp a) x => Nat.beq a p && Nat.beq t e && offP p x
  | _, _, _ => false
/-- A store follows, behind at most one assignment. -/
def stIn (p : Nat) (e : TypeId) (l : List Oper) : Bool :=
  match l with
  | [] => false
  | o :: r => isSt p e o || (isMv p o && match r with | [] => false | o2 :: _ => isSt p e o2)
def fusOf (o : Oper) (l : List Oper) : Option (Nat × TypeId) :=
  match o.guard, o.dst, o.op with
  | none, some p, .alloc e => if stIn p e l = true then some (p, e) else none
  | _, _, _ => none
def fuseB (P : Program) (p : Nat) (e : TypeId) (v : Value) (t : Tm) (s : St) (K : Tm → St → Prop) : Prop :=
  match zeroA P e with
  | some z => if (z.all cellOk && (cellsT P e v).length == z.length && (cellsT P e v).length == P.cellsOf e && (P.info? e).isSome) = true then
      chkL (cellsT P e v) (Bool.rec (motive := fun _ => Prop) False (Wr (boxA s (cellsT P e v) e fun u s => setK t p u fun t => K t s)) (Nat.blt p t.n))
    else False
  | none => False
def fuseA (P : Program) (p : Nat) (e : TypeId) (o : Oper) (t : Tm) (s : St) (K : Tm → St → Prop) : Prop :=
  match o.op with
  | .store _ _ x => envK (tmpsOf [x]) t fun en => fuseB P p e (evE en x) t s K
  | _ => False
def seqP (P : Program) (C : CallSem) (ops : Array Oper) (l : List Oper) : Option (Nat × TypeId) → Tm → St → (Tm → St → Prop) → Prop :=
  List.rec (motive := fun _ => Option (Nat × TypeId) → Tm → St → (Tm → St → Prop) → Prop)
    (fun pend t s K => match pend with | none => K t s | some _ => False)
    (fun o l ih pend t s K => match pend with
      | none => (match fusOf o l with
        | some pe => ih (some pe) t s K
        | none => stepO P C ops o t s fun t s => ih none t s K)
      | some pe => match isSt pe.1 pe.2 o with
        | true => fuseA P pe.1 pe.2 o t s fun t s => ih none t s K
        | false => stepO P C ops o t s fun t s => ih (some pe) t s K) l
theorem seqP_nil (P : Program) (C : CallSem) (ops : Array Oper) (t : Tm) (s : St) (K : Tm → St → Prop) : seqP P C ops [] none t s K = K t s := rfl
theorem seqP_none (P : Program) (C : CallSem) (ops : Array Oper) (o : Oper) (l : List Oper) (t : Tm) (s : St) (K : Tm → St → Prop) : seqP P C ops (o :: l) none t s K =
    match fusOf o l with
      | some pe => seqP P C ops l (some pe) t s K
      | none => stepO P C ops o t s fun t s => seqP P C ops l none t s K := rfl
theorem seqP_some (P : Program) (C : CallSem) (ops : Array Oper) (o : Oper) (l : List Oper) (pe : Nat × TypeId) (t : Tm) (s : St) (K : Tm → St → Prop) : seqP P C ops (o :: l) (some pe) t s K =
    match isSt pe.1 pe.2 o with
      | true => fuseA P pe.1 pe.2 o t s fun t s => seqP P C ops l none t s K
      | false => stepO P C ops o t s fun t s => seqP P C ops l (some pe) t s K := rfl

/-- Operations that may be taken first wherever they are ready: they leave memory as it is and read cells alone. -/
def firstOp (P : Program) : Op → Bool
  | .move _ | .assign _ | .pick _ _ _ | .build _ _ | .load _ _ | .nilCheck _ | .binOp _ _ _ _ _ | .unOp _ _ _ | .makeFunc _ _ _
  | .slice _ _ _ _ _ | .fieldAddr _ _ _ | .field _ _ _ | .indexAddr _ _ _ | .index _ _ _ | .extract _ _ => true
  | .call c => match c.callee with
    | .builtin .len => (match c.argTypes.toList with | t :: _ => (match P.underlying t with | some (.slice _) | some .string => true | _ => false) | [] => false)
    | _ => false
  | .convert src dst _ => (match P.underlying src, P.underlying dst with | some (.int _), some (.int _) | some .string, some .string => true | _, _ => false)
  | _ => false

/-- A value that a memory gives in one way alone. -/
def goodV : Value → Prop
  | .int _ _ | .bool _ | .string _ | .pointer _ | .map _ => True
  | .slice a _ c => a = none → c < OPEN
  | _ => False
/-- What a load has read of our own cells. -/
def probesOf (p v : Value) : List (Nat × Nat × Value) :=
  match p with
  | .pointer (some ⟨b, off, _⟩) => v.cells.toList.zipIdx.map fun (x, j) => (b, off + j, x)
  | _ => []
abbrev Held := List (Nat × List (Value × Value))
/-- What was read stands there still. -/
def holdP (s : St) (p v : Value) (K : Prop) : Prop := (∀ x ∈ probesOf p v, goodV x.2.2 ∧ s.cell x.1 x.2.1 = some x.2.2) ∧ K
def hCells (s : St) : List (Value × Value) → Prop → Prop
  | [], K => K
  | (p, v) :: r, K => holdP s p v (hCells s r K)
def hOk (s : St) : Held → Prop → Prop
  | [], K => K
  | (_, l) :: r, K => hCells s l (hOk s r K)

/-- What a load that was taken first has read. -/
def probeV (o : Oper) (ρ : Operand → Value) (v : Value) : List (Value × Value) :=
  match o.op with
  | .load _ a => [(ρ a, v)]
  | _ => []

def runF (P : Program) (C : CallSem) (ops : Array Oper) (o : Oper) (t : Tm) (s : St) (K : Tm → List (Value × Value) → Prop) : Prop :=
  envK (opTmps o.op) t fun e => aOp P C (hintOf ops o.dst) o (evE e) s fun v _ => setO t o.dst v fun t => K t (probeV o (evE e) v)

/-- An operation that is taken first: memory stays, what it has read is told. -/
def stepF (P : Program) (C : CallSem) (ops : Array Oper) (i : Nat) (t : Tm) (s : St) (K : Tm → List (Value × Value) → Prop) : Prop :=
  match ops[i]? with
  | none => False
  | some o =>
    match o.guard with
    | none => runF P C ops o t s K
    | some (j, want) =>
      match (ops[j]?).bind (·.dst) with
      | none => False
      | some d => getK t d fun g => match g with
        | .bool b => if b = want then setK t d (.bool want) fun t => runF P C ops o t s K
            else setK t d (.bool !want) fun t => setO t o.dst undef fun t => K t []
        | .tuple vs => if vs.toList.isEmpty = true then setO t o.dst undef fun t => K t [] else False
        | _ => False

theorem runF_eq (P : Program) (C : CallSem) (ops : Array Oper) (o : Oper) (t : Tm) (s : St) (K : Tm → List (Value × Value) → Prop) :
    runF P C ops o t s K = aOp P C (hintOf ops o.dst) o (evT (opTmps o.op) t) s fun v _ => K (putA t o.dst v) (probeV o (evT (opTmps o.op) t) v) := by
  simp only [runF, envK_eq, setO_eq]
  rfl

def depOn (o : Oper) (j : Nat) : Bool := o.after.any fun e => Region.binds .any e && e.on == j
def dropH (o : Oper) (h : Held) : Held := h.filter fun x => !depOn o x.1
/-- What the operations behind which this one stands have read: it is held with this one's. -/
def depH (o : Oper) (h : Held) : List (Value × Value) := (h.filter fun x => depOn o x.1).flatMap (·.2)

def allL : List Nat → (Nat → Prop) → Prop
  | [], _ => True
  | [i], f => f i
  | i :: r, f => f i ∧ allL r f

/-- A region in whatever order its edges allow. -/
def anyA (P : Program) (C : CallSem) (ops : Array Oper) (K : Tm → St → Prop) : Nat → Array Bool → Held → Tm → St → Prop
  | 0, listed, _, t, s => match Region.ready .any ops listed with | [] => K t s | _ => False
  | n + 1, listed, h, t, s =>
    match Region.ready .any ops listed with
    | [] => K t s
    | r :: rs =>
      match (r :: rs).find? fun i => (match ops[i]? with | some o => firstOp P o.op | none => false) && Region.free .any ops listed i with
      | some i => match ops[i]? with
        | some o => stepF P C ops i t s fun t p => setB listed i fun listed => anyA P C ops K n listed (dropH o h ++ [(i, depH o h ++ p)]) t s
        | none => False
      | none => allL (r :: rs) fun i => match ops[i]? with
        | some o => stepA P C ops i t s fun t s => hOk s (dropH o h) (setB listed i fun listed => anyA P C ops K n listed (dropH o h) t s)
        | none => False

/- The same with tables, for the kernel. -/
structure RowT where
  deps : List Nat
  first : Bool
  looks : List Nat
  dst : Option Nat
noncomputable def getB (l : List Bool) : Nat → Bool → Bool :=
  List.rec (motive := fun _ => Nat → Bool → Bool) (fun _ d => d) (fun b _ ih n d => Nat.rec (motive := fun _ => Bool) b (fun n _ => ih n d) n) l
noncomputable def allN (f : Nat → Bool) (l : List Nat) : Bool :=
  List.rec (motive := fun _ => Bool) true (fun a _ ih => Bool.rec (motive := fun _ => Bool) false ih (f a)) l
noncomputable def memN (l : List Nat) (x : Nat) : Bool :=
  List.rec (motive := fun _ => Bool) false (fun a _ ih => Bool.rec (motive := fun _ => Bool) ih true (Nat.beq x a)) l
noncomputable def readyT (all : List Bool) (T : List RowT) : Nat → List Nat :=
  List.rec (motive := fun _ => Nat → List Nat) (fun _ => [])
    (fun r _ ih i => Bool.rec (motive := fun _ => List Nat) (Bool.rec (motive := fun _ => List Nat) (ih (i + 1)) (i :: ih (i + 1)) (allN (fun d => getB all d false) r.deps)) (ih (i + 1)) (getB all i true)) T
noncomputable def apartT (x y : RowT) : Bool :=
  (match x.dst with | some d => !(memN y.looks d) && (match y.dst with | some e => !(Nat.beq e d) | none => true) | none => true) &&
  (match y.dst with | some d => !(memN x.looks d) | none => true)
noncomputable def freeL (all : List Bool) (ri : RowT) (i : Nat) (T : List RowT) : Nat → Bool :=
  List.rec (motive := fun _ => Nat → Bool) (fun _ => true)
    (fun r _ ih j => Bool.rec (motive := fun _ => Bool) false (ih (j + 1)) (Nat.beq j i || (getB all j true || (memN r.deps i || apartT ri r)))) T
noncomputable def nthT (T : List RowT) : Nat → Option RowT :=
  List.rec (motive := fun _ => Nat → Option RowT) (fun _ => none) (fun r _ ih n => Nat.rec (motive := fun _ => Option RowT) (some r) (fun n _ => ih n) n) T
noncomputable def goT (all : List Bool) (T : List RowT) (i : Nat) : Bool :=
  match nthT T i with
  | some r => r.first && freeL all r i T 0
  | none => false
noncomputable def findT (f : Nat → Bool) (l : List Nat) : Option Nat :=
  List.rec (motive := fun _ => Option Nat) none (fun a _ ih => Bool.rec (motive := fun _ => Option Nat) ih (some a) (f a)) l

def forceL {α : Type} (l : List α) : (List α → Prop) → Prop :=
  List.rec (motive := fun _ => (List α → Prop) → Prop) (fun K => K []) (fun a _ ih K => ih fun l => K (a :: l)) l
def forceH (h : Held) : (Held → Prop) → Prop :=
  List.rec (motive := fun _ => (Held → Prop) → Prop) (fun K => K []) (fun a _ ih K => forceL a.2 fun l => ih fun r => K ((a.1, l) :: r)) h
theorem forceL_eq {α : Type} : ∀ (l : List α) (K : List α → Prop), forceL l K = K l
  | [], K => rfl
  | a :: l, K => by show forceL l (fun l => K (a :: l)) = _; rw [forceL_eq l]
theorem forceH_eq : ∀ (h : Held) (K : Held → Prop), forceH h K = K h
  | [], K => rfl
  | (i, l) :: h, K => by
    show forceL l (fun l => forceH h fun r => K ((i, l) :: r)) = _
    rw [forceL_eq, forceH_eq h]

def anyT (P : Program) (C : CallSem) (ops : Array Oper) (T : List RowT) (K : Tm → St → Prop) : Nat → List Bool → Held → Tm → St → Prop
  | 0, all, _, t, s => match readyT all T 0 with | [] => K t s | _ => False
  | n + 1, all, h, t, s =>
    match readyT all T 0 with
    | [] => K t s
    | r :: rs =>
      match findT (goT all T) (r :: rs) with
      | some i => match ops[i]? with
        | some o => stepF P C ops i t s fun t p => forceH (dropH o h ++ [(i, depH o h ++ p)]) fun h => setBL all i fun all => anyT P C ops T K n all h t s
        | none => False
      | none => allL (r :: rs) fun i => match ops[i]? with
        | some o => stepA P C ops i t s fun t s => forceH (dropH o h) fun h => hOk s h (setBL all i fun all => anyT P C ops T K n all h t s)
        | none => False

def forceN (l : List Nat) : (List Nat → Prop) → Prop :=
  List.rec (motive := fun _ => (List Nat → Prop) → Prop) (fun K => K []) (fun a _ ih K => ih fun l => K (a :: l)) l
def forceB (b : Bool) (K : Bool → Prop) : Prop := Bool.rec (motive := fun _ => Prop) (K false) (K true) b
def rowOf (P : Program) (ops : Array Oper) (o : Oper) : RowT :=
  ⟨(o.after.toList.filter (Region.binds .any)).map (·.on), firstOp P o.op, o.looksAt ops, o.dst⟩
def rowK (P : Program) (ops : Array Oper) (o : Oper) (K : RowT → Prop) : Prop :=
  forceN ((o.after.toList.filter (Region.binds .any)).map (·.on)) fun ds => forceB (firstOp P o.op) fun f => forceN (o.looksAt ops) fun ls => K ⟨ds, f, ls, o.dst⟩
def tabK (P : Program) (ops : Array Oper) (l : List Oper) : (List RowT → Prop) → Prop :=
  List.rec (motive := fun _ => (List RowT → Prop) → Prop) (fun K => K []) (fun o _ ih K => rowK P ops o fun r => ih fun T => K (r :: T)) l

theorem forceN_eq : ∀ (l : List Nat) (K : List Nat → Prop), forceN l K = K l
  | [], K => rfl
  | a :: l, K => by show forceN l (fun l => K (a :: l)) = _; rw [forceN_eq l]
theorem forceB_eq (b : Bool) (K : Bool → Prop) : forceB b K = K b := by cases b <;> rfl
theorem rowK_eq (P : Program) (ops : Array Oper) (o : Oper) (K : RowT → Prop) : rowK P ops o K = K (rowOf P ops o) := by
  simp only [rowK, forceN_eq, forceB_eq, rowOf]
theorem tabK_eq (P : Program) (ops : Array Oper) : ∀ (l : List Oper) (K : List RowT → Prop), tabK P ops l K = K (l.map (rowOf P ops))
  | [], K => rfl
  | o :: l, K => by
    show rowK P ops o (fun r => tabK P ops l fun T => K (r :: T)) = _
    rw [rowK_eq, tabK_eq P ops l]
    rfl
theorem getB_eq : ∀ (l : List Bool) (i : Nat) (d : Bool), getB l i d = l.getD i d
  | [], i, d => by show d = _; simp
  | b :: l, 0, d => by show b = _; simp
  | b :: l, i + 1, d => by show getB l i d = _; rw [getB_eq l i d]; simp
theorem allN_eq (f : Nat → Bool) : ∀ (l : List Nat), allN f l = l.all f
  | [] => rfl
  | a :: l => by
    show Bool.rec (motive := fun _ => Bool) false (allN f l) (f a) = _
    rw [allN_eq f l, List.all_cons]
    cases f a <;> rfl
theorem beqN (a b : Nat) : Nat.beq a b = (a == b) := by
  by_cases h : a = b
  · subst h; simp
  · rw [beq_eq_false_iff_ne.2 h]
    cases hb : Nat.beq a b with
    | false => rfl
    | true => exact absurd (Nat.eq_of_beq_eq_true hb) h
theorem memN_eq : ∀ (l : List Nat) (x : Nat), memN l x = l.contains x
  | [], x => rfl
  | a :: l, x => by
    show Bool.rec (motive := fun _ => Bool) (memN l x) true (Nat.beq x a) = _
    rw [memN_eq l x, beqN, List.contains_cons]
    cases x == a <;> rfl
theorem nthT_eq : ∀ (T : List RowT) (i : Nat), nthT T i = T[i]?
  | [], i => by show none = _; simp
  | r :: T, 0 => by show some r = _; simp
  | r :: T, i + 1 => by show nthT T i = _; rw [nthT_eq T i]; simp
theorem findT_eq (f : Nat → Bool) : ∀ (l : List Nat), findT f l = l.find? f
  | [] => rfl
  | a :: l => by
    show Bool.rec (motive := fun _ => Option Nat) (findT f l) (some a) (f a) = _
    rw [findT_eq f l, List.find?_cons]
    cases f a <;> rfl

theorem readyT_eq (P : Program) (ops : Array Oper) (all : List Bool) : ∀ (l pre : List Oper), ops.toList = pre ++ l →
    readyT all (l.map (rowOf P ops)) pre.length = (List.range' pre.length l.length).filter fun i =>
      !all.toArray.getD i true && ((ops[i]?).map (·.after.all fun e => !Region.binds .any e || all.toArray.getD e.on false)).getD false
  | [], pre, h => rfl
  | o :: l, pre, h => by
    have ih := readyT_eq P ops all l (pre ++ [o]) (by rw [h]; simp)
    rw [List.length_append, List.length_singleton] at ih
    have ho : ops[pre.length]? = some o := by rw [← Array.getElem?_toList, h]; simp
    show Bool.rec (motive := fun _ => List Nat) (Bool.rec (motive := fun _ => List Nat) (readyT all (l.map (rowOf P ops)) (pre.length + 1)) (pre.length :: readyT all (l.map (rowOf P ops)) (pre.length + 1)) (allN (fun d => getB all d false) (rowOf P ops o).deps)) (readyT all (l.map (rowOf P ops)) (pre.length + 1)) (getB all pre.length true) = _
    rw [ih, List.length_cons, List.range'_succ, List.filter_cons]
    have e1 : getB all pre.length true = all.toArray.getD pre.length true := by rw [getB_eq]; simp [Array.getD_eq_getD_getElem?, List.getD]
    have e2 : allN (fun d => getB all d false) (rowOf P ops o).deps = o.after.all fun e => !Region.binds .any e || all.toArray.getD e.on false := by
      rw [allN_eq, ← Array.all_toList]
      simp only [rowOf, List.all_map, List.all_filter]
      congr 1
      funext e
      simp [getB_eq, Array.getD_eq_getD_getElem?, List.getD]
    have hp : (!all.toArray.getD pre.length true && ((ops[pre.length]?).map (·.after.all fun e => !Region.binds .any e || all.toArray.getD e.on false)).getD false) = (!getB all pre.length true && allN (fun d => getB all d false) (rowOf P ops o).deps) := by
      rw [ho, e1, e2]; rfl
    simp only [hp]
    cases getB all pre.length true <;> cases allN (fun d => getB all d false) (rowOf P ops o).deps <;> rfl
theorem readyT_all (P : Program) (ops : Array Oper) (all : List Bool) : readyT all (ops.toList.map (rowOf P ops)) 0 = Region.ready .any ops all.toArray := by
  have := readyT_eq P ops all ops.toList [] rfl
  rw [List.length_nil] at this
  rw [this, Region.ready, List.range_eq_range']
  rfl
theorem apartT_eq (P : Program) (ops : Array Oper) (x y : Oper) : apartT (rowOf P ops x) (rowOf P ops y) = x.apart ops y := by
  unfold apartT Oper.apart
  simp only [rowOf, memN_eq]
  congr 1
  cases x.dst with
  | none => rfl
  | some d =>
    simp only
    congr 1
    cases y.dst with
    | none => rfl
    | some e => simp only [beqN, bne, Option.some_beq_some]
theorem freeL_eq (P : Program) (ops : Array Oper) (all : List Bool) (oi : Oper) (i : Nat) : ∀ (l pre : List Oper), ops.toList = pre ++ l →
    freeL all (rowOf P ops oi) i (l.map (rowOf P ops)) pre.length = (List.range' pre.length l.length).all fun j => j == i || all.toArray.getD j true || match ops[j]? with
      | some oj => oj.after.any (fun e => Region.binds .any e && e.on == i) || oi.apart ops oj
      | none => true
  | [], pre, h => rfl
  | o :: l, pre, h => by
    have ih := freeL_eq P ops all oi i l (pre ++ [o]) (by rw [h]; simp)
    rw [List.length_append, List.length_singleton] at ih
    have ho : ops[pre.length]? = some o := by rw [← Array.getElem?_toList, h]; simp
    show Bool.rec (motive := fun _ => Bool) false (freeL all (rowOf P ops oi) i (l.map (rowOf P ops)) (pre.length + 1)) (Nat.beq pre.length i || (getB all pre.length true || (memN (rowOf P ops o).deps i || apartT (rowOf P ops oi) (rowOf P ops o)))) = _
    rw [ih, List.length_cons, List.range'_succ, List.all_cons]
    have e1 : getB all pre.length true = all.toArray.getD pre.length true := by rw [getB_eq]; simp [Array.getD_eq_getD_getElem?, List.getD]
    have e2 : memN (rowOf P ops o).deps i = o.after.any (fun e => Region.binds .any e && e.on == i) := by
      rw [memN_eq, ← Array.any_toList]
      simp only [rowOf, List.contains_eq_any_beq, List.any_map, List.any_filter]
      congr 1
      funext e
      simp only [Function.comp, Bool.beq_comm (a := i)]
    rw [ho, e1, e2, beqN, apartT_eq]
    simp only [Bool.or_assoc]
    cases (pre.length == i || (all.toArray.getD pre.length true || (o.after.any (fun e => Region.binds .any e && e.on == i) || oi.apart ops o))) <;> rfl
theorem goT_eq (P : Program) (ops : Array Oper) (all : List Bool) (i : Nat) : goT all (ops.toList.map (rowOf P ops)) i =
    ((match ops[i]? with | some o => firstOp P o.op | none => false) && Region.free .any ops all.toArray i) := by
  unfold goT Region.free
  rw [nthT_eq, List.getElem?_map, Array.getElem?_toList]
  cases ho : ops[i]? with
  | none => rfl
  | some o =>
    simp only [Option.map_some]
    have := freeL_eq P ops all o i ops.toList [] rfl
    rw [List.length_nil] at this
    rw [this, List.range_eq_range']
    rfl
theorem anyT_eq (P : Program) (C : CallSem) (ops : Array Oper) (K : Tm → St → Prop) : ∀ (n : Nat) (all : List Bool) (h : Held) (t : Tm) (s : St),
    anyT P C ops (ops.toList.map (rowOf P ops)) K n all h t s = anyA P C ops K n all.toArray h t s
  | 0, all, h, t, s => by unfold anyT anyA; rw [readyT_all]
  | n + 1, all, h, t, s => by
    have ih := anyT_eq P C ops K n
    have e : (fun i => goT all (ops.toList.map (rowOf P ops)) i) = fun i => ((match ops[i]? with | some o => firstOp P o.op | none => false) && Region.free .any ops all.toArray i) := funext fun i => goT_eq P ops all i
    have e' : goT all (ops.toList.map (rowOf P ops)) = fun i => ((match ops[i]? with | some o => firstOp P o.op | none => false) && Region.free .any ops all.toArray i) := e
    have hset : ∀ (i : Nat) (K : Array Bool → Prop), (setBL all i fun l => K l.toArray) = setB all.toArray i K := fun i K => rfl
    unfold anyT anyA
    simp only [readyT_all, findT_eq, e', ih, forceH_eq]
    rfl

inductive Ex where
  | normal | exit (id : Nat) | ret
  deriving Inhabited

def Ex.inBlock (id : Nat) (Q : Ex → Tm → St → Prop) : Ex → Tm → St → Prop
  | .exit id', t, s => if id' = id then Q .normal t s else Q (.exit id') t s
  | e, t, s => Q e t s

/-- What follows a round, or the first half of a sequence. -/
def Ex.seq (N : (Ex → Tm → St → Prop) → Tm → St → Prop) (Q : Ex → Tm → St → Prop) : Ex → Tm → St → Prop
  | .normal, t, s => N Q t s
  | .exit i, t, s => Q (.exit i) t s
  | .ret, t, s => Q .ret t s

def loopN (F : (Ex → Tm → St → Prop) → Tm → St → Prop) (m : Option (List Nat)) : Nat → (Ex → Tm → St → Prop) → Tm → St → Prop
  | 0, _, _, _ => False
  | n + 1, Q, t, s => F (Ex.seq (fun Q t s => loopN F m n Q (maskA m t) s) Q) t s

/-- The number of the first region of a piece of code: it names the piece's mask. -/
def firstR : Code → Option Nat
  | .region id _ _ => some id
  | .seq a b => match firstR a with | some i => some i | none => firstR b
  | .block _ b => firstR b
  | .loop b => firstR b
  | _ => none
def maskOf (M : Nat → Option (List Nat)) (c : Code) : Option (List Nat) := match firstR c with | some i => M i | none => none

/-- No range over a function in it. -/
def noRF : Code → Bool
  | .rangeFunc _ _ _ _ => false
  | .seq a b => noRF a && noRF b
  | .cond _ a b => noRF a && noRF b
  | .block _ b => noRF b
  | .loop b => noRF b
  | _ => true
/-- How a range over a function goes on when the function has returned: off its end, by a return, by an exit. -/
def afterL (s : St) (l : Nat) (N R : St → Prop) (X : Nat → St → Prop) : Prop :=
  ∃ st j M t0 ps asg body, s.heap l = some (.loop st j M t0 ps asg body) ∧ st ≠ .busy ∧
    match j with
    | none => N (s.put l none)
    | some .ret => R (s.put l none)
    | some (.exit i) => X i (s.put l none)
    | _ => False
def afterA (Q : Ex → Tm → St → Prop) (l : Nat) (t : Tm) (s : St) : Prop := afterL s l (Q .normal t) (Q .ret t) (fun i => Q (.exit i) t)

/-- A function's value, taken apart. -/
def funcA (v : Value) (K : FuncId → Array Value → Array Value → Prop) : Prop :=
  match v with
  | .func (.func h) first cap => K h first cap
  | _ => False

def allSel (ops : Array Oper) : Bool := Region.noSelect ops

def awp (P : Program) (M : Nat → Option (List Nat)) (C : CallSem) (c : Code) : (Ex → Tm → St → Prop) → Tm → St → Prop :=
  Code.rec (motive := fun _ => (Ex → Tm → St → Prop) → Tm → St → Prop)
    (fun Q t s => Q .normal t s)
    (fun id ops draw Q t s => Bool.rec (motive := fun _ => Prop) (maskO (M id) t fun t => seqP P C ops ops.toList none t s (Q .normal))
      (if allSel ops then maskO (M id) t fun t => tabK P ops ops.toList fun T => anyT P C ops T (Q .normal) ops.size (List.replicate ops.size false) [] t s else False) draw)
    (fun _ _ ia ib Q t s => ia (Ex.seq ib Q) t s)
    (fun c _ _ ia ib Q t s => match evA t c with
      | .bool x => if x = true then ia Q t s else ib Q t s
      | _ => False)
    (fun id _ ib Q t s => ib (Ex.inBlock id Q) t s)
    (fun b ib Q t s => ∃ n, loopN ib (maskOf M b) n Q (maskA (maskOf M b) t) s)
    (fun g ps asg body _ _ Q t s => if (noRF asg && noRF body) = true then funcA (evA t g) fun h first cap =>
      Wr <| C (.func h) (first.toList ++ [.func (.yield s.next) #[] #[]] ++ cap.toList) (fun _ s' => afterA Q s.next t s')
        (s.new (.loop .ready none M (maskA (maskOf M (.seq asg body)) t) ps asg body))
      else False)
    (fun id Q t s => Q (.exit id) t s)
    (fun _ _ _ _ _ => False) (fun _ _ _ _ => False) (fun _ _ _ _ => False)
    (fun Q t s => Q .ret t s)
    (fun _ _ _ _ => False) c
theorem awp_drawn (P : Program) (M : Nat → Option (List Nat)) (C : CallSem) (id : Nat) (ops : Array Oper) (Q : Ex → Tm → St → Prop) (t : Tm) (s : St) : awp P M C (.region id ops true) Q t s =
    if allSel ops then maskO (M id) t fun t => tabK P ops ops.toList fun T => anyT P C ops T (Q .normal) ops.size (List.replicate ops.size false) [] t s else False := rfl
theorem awp_plain (P : Program) (M : Nat → Option (List Nat)) (C : CallSem) (id : Nat) (ops : Array Oper) (Q : Ex → Tm → St → Prop) (t : Tm) (s : St) : awp P M C (.region id ops false) Q t s =
    maskO (M id) t fun t => seqP P C ops ops.toList none t s (Q .normal) := rfl
theorem awp_cond (P : Program) (M : Nat → Option (List Nat)) (C : CallSem) (c : Operand) (a b : Code) (Q : Ex → Tm → St → Prop) (t : Tm) (s : St) : awp P M C (.cond c a b) Q t s =
    match evA t c with
      | .bool x => if x = true then awp P M C a Q t s else awp P M C b Q t s
      | _ => False := rfl
theorem awp_range (P : Program) (M : Nat → Option (List Nat)) (C : CallSem) (g : Operand) (ps : Array Tmp) (asg body : Code) (Q : Ex → Tm → St → Prop) (t : Tm) (s : St) : awp P M C (.rangeFunc g ps asg body) Q t s =
    if (noRF asg && noRF body) = true then funcA (evA t g) fun h first cap =>
      Wr <| C (.func h) (first.toList ++ [.func (.yield s.next) #[] #[]] ++ cap.toList) (fun _ s' => afterA Q s.next t s')
        (s.new (.loop .ready none M (maskA (maskOf M (.seq asg body)) t) ps asg body))
      else False := rfl

def resA (P : Program) : List ResultVar → Tm → St → (List Value → Prop) → Prop
  | [], _, _, K => K []
  | .tmp i :: r, t, s, K => resA P r t s fun vs => K (t.get i :: vs)
  | .cell a ty :: r, t, s, K => ldT P ty s (t.get a) fun v => resA P r t s fun vs => K (v :: vs)

/-- A place in the code: into the first or the second half, through a block; 'round n': into a loop, in the round before which 'n + 1' rounds were left. -/
inductive Dir where
  | l | r | into | round (n : Nat)
def sub : Code → List Dir → Code
  | c, [] => c
  | .seq a _, .l :: p => sub a p
  | .seq _ b, .r :: p => sub b p
  | .cond _ a _, .l :: p => sub a p
  | .cond _ _ b, .r :: p => sub b p
  | .block _ b, _ :: p => sub b p
  | .loop b, _ :: p => sub b p
  | .rangeFunc _ _ a _, .l :: p => sub a p
  | .rangeFunc _ _ _ b, .r :: p => sub b p
  | c, _ => c
/-- What follows a place. -/
def qAt (P : Program) (M : Nat → Option (List Nat)) (C : CallSem) : Code → List Dir → (Ex → Tm → St → Prop) → (Ex → Tm → St → Prop)
  | _, [], Q => Q
  | .seq a b, .l :: p, Q => qAt P M C a p (Ex.seq (awp P M C b) Q)
  | .seq _ b, .r :: p, Q => qAt P M C b p Q
  | .cond _ a _, .l :: p, Q => qAt P M C a p Q
  | .cond _ _ b, .r :: p, Q => qAt P M C b p Q
  | .block id b, _ :: p, Q => qAt P M C b p (Ex.inBlock id Q)
  | .loop b, .round n :: p, Q => qAt P M C b p (Ex.seq (fun Q t s => loopN (awp P M C b) (maskOf M b) n Q (maskA (maskOf M b) t) s) Q)
  | _, _, Q => Q
def atA (P : Program) (M : Nat → Option (List Nat)) (C : CallSem) (c : Code) (p : List Dir) (Q : Ex → Tm → St → Prop) (t : Tm) (s : St) : Prop :=
  awp P M C (sub c p) (qAt P M C c p Q) t s
def loopA (P : Program) (M : Nat → Option (List Nat)) (C : CallSem) (c : Code) (p : List Dir) (n : Nat) (Q : Ex → Tm → St → Prop) (t : Tm) (s : St) : Prop :=
  match sub c p with
  | .loop b => loopN (awp P M C b) (maskOf M b) n (qAt P M C c p Q) t s
  | _ => False
def bodyOf (f : Func) : Code := f.body.getD .skip

def bodyQ (P : Program) (fn : Func) (Q : Value → St → Prop) : Ex → Tm → St → Prop
  | .exit _, _, _ => False
  | _, t, s => resA P fn.results.toList t s fun vs => match vs with | [v] => Q v s | vs => Q (.tuple vs.toArray) s

/-- A round of a range over a function. -/
def setsA : List (Nat × Value) → Tm → Tm
  | [], t => t
  | (i, v) :: r, t => setsA r (t.set i v)
def endA (l : Nat) (Q : Value → St → Prop) (j : Option Code) (s : St) : Prop :=
  ∃ st j' M t ps asg body, s.heap l = some (.loop st j' M t ps asg body) ∧
    Q (.bool j.isNone) (s.put l (some (.loop (if j.isNone then .ready else .done) j M t ps asg body)))
def roundQ (l : Nat) (Q : Value → St → Prop) : Ex → Tm → St → Prop
  | .normal, _, s => endA l Q none s
  | .exit i, _, s => endA l Q (some (.exit i)) s
  | .ret, _, s => endA l Q (some .ret) s
def beginA (l : Nat) (K : St → Prop) (s : St) : Prop :=
  ∃ j M t ps asg body, s.heap l = some (.loop .ready j M t ps asg body) ∧ K (s.put l (some (.loop .busy j M t ps asg body)))
def roundB (P : Program) (M : Nat → Option (List Nat)) (C : CallSem) (asg body : Code) (l : Nat) (Q : Value → St → Prop) (t : Tm) (s : St) : Prop :=
  awp P M C asg (fun e t s => match e with | .normal => beginA l (fun s => awp P M C body (roundQ l Q) t s) s | _ => False) t s
def roundA (P : Program) (C : CallSem) (l : Nat) (args : List Value) (Q : Value → St → Prop) (s : St) : Prop :=
  ∃ st j M t ps asg body, s.heap l = some (.loop st j M t ps asg body) ∧ args.length = ps.size ∧ (noRF asg && noRF body) = true ∧
    roundB P M C asg body l Q (setsA (ps.toList.zip args) t) s

/- A value, as one that hangs on no block of our own: what it leads to, read where it stands. 'X': the blocks of our own that are read for it. -/
mutual
inductive Vw (s : St) (X : List Nat) : Value → Value → Prop
  | any (v : Value) : Vw s X v U
  | bool (b : Bool) : Vw s X (.bool b) (.bool b)
  | int (k : IntKind) (i : Int) : Vw s X (.int k i) (.int k i)
  | str (x : ByteArray) : Vw s X (.string x) (.string x)
  | nilf : Vw s X .nilFunc .nilFunc
  | pnil : Vw s X (.pointer none) (.pointer none)
  | mnil : Vw s X (.map none) (.map none)
  | snil : Vw s X (.slice none 0 0) (.slice none 0 0)
  | nfs (m : Nat) (h : m < 2) : Vw s X (.slice none 0 0) (FS 0 m [])
  | emp (a : Option Addr) (c : Nat) : Vw s X (.slice a 0 c) (FS 0 0 [])
  | fs (n m m' : Nat) (cs cs' : List Value) (hm : m' = 0 ∨ m' = 1 ∧ m = 1) (h : VwL s X cs cs') : Vw s X (FS n m cs) (FS n m' cs')
  | fp (o : Nat) (cs cs' : List Value) (h : VwL s X cs cs') : Vw s X (FP o cs) (FP o cs')
  | own (id o n c j m' : Nat) (cs : List Value) (e : TypeId) {rw : Bool} (xs : List Value) (hid : id ∈ X) (hb : s.heap id = some (.cells cs e rw)) (hj : o + j ≤ cs.length) (hm : m' = 0 ∨ m' = 1 ∧ c = n ∧ c < OPEN)
      (h : VwL s X ((cs.drop o).take j) xs) : Vw s X (.slice (some ⟨id, o, none⟩) n c) (FS n m' xs)
  | ptr (id o : Nat) (cs : List Value) (e : TypeId) {rw : Bool} (xs : List Value) (hid : id ∈ X) (hb : s.heap id = some (.cells cs e rw)) (h : VwL s X cs xs) : Vw s X (.pointer (some ⟨id, o, none⟩)) (FP o xs)
  | func (f : FuncId) (a b : Array Value) (a' b' : List Value) (ha : VwL s X a.toList a') (hb : VwL s X b.toList b') : Vw s X (.func (.func f) a b) (.func (.func f) a'.toArray b'.toArray)
  | agg (cs : Array Value) (cs' : List Value) (h : VwL s X cs.toList cs') : Vw s X (.agg cs) (.agg cs'.toArray)
  | tuple (cs : Array Value) (cs' : List Value) (h : VwL s X cs.toList cs') : Vw s X (.tuple cs) (.tuple cs'.toArray)
inductive VwL (s : St) (X : List Nat) : List Value → List Value → Prop
  | nil : VwL s X [] []
  | cons {v v' : Value} {l l' : List Value} (h : Vw s X v v') (t : VwL s X l l') : VwL s X (v :: l) (v' :: l')
end

/-- The empty memory. -/
def empty : St := ⟨fun _ => none, 0⟩
/-- A value that leads nowhere. -/
def scal : Value → Bool
  | .agg cs => cs.toList.all okS
  | .tuple cs => cs.toList.all okS
  | v => okS v
def St.kills (s : St) (X : List Nat) : St := { s with heap := fun id => if id ∈ X then none else s.heap id }
/-- A block that is only read from now on. -/
def Blk.lock : Blk → Option Blk
  | .cells c e _ => some (.cells c e false)
  | _ => none
def St.locks (s : St) (X : List Nat) : St := { s with heap := fun id => if id ∈ X then (s.heap id).bind Blk.lock else s.heap id }

/-- A call that is handed nothing of our own: it runs as if alone. What it was handed of our own blocks stays frozen, unless the result leads nowhere. -/
def pcW (C : CallSem) (f : FuncId) (args : List Value) (Q : Value → St → Prop) (s : St) : Prop :=
  ∃ X args' r, VwL s X args args' ∧ C (.func f) args' (fun v s' => ∃ X', Vw s' X' v r) empty ∧ (scal r = true ∧ Q r s ∨ Q r (s.kills X) ∨ Q r (s.locks X))

/-- A call's arguments are its first temporaries. -/
def argK : List Value → Nat → (List (Nat × Value) → Prop) → Prop
  | [], _, K => K []
  | v :: r, i, K => argK r (i + 1) fun l => K ((i, v) :: l)

def argL : List Value → Nat → List (Nat × Value)
  | [], _ => []
  | v :: r, i => (i, v) :: argL r (i + 1)
theorem argK_eq : ∀ (l : List Value) (i : Nat) (K : List (Nat × Value) → Prop), argK l i K = K (argL l i)
  | [], i, K => rfl
  | v :: r, i, K => by simp only [argK, argK_eq r (i + 1), argL]

/-- 'Cl': calls that are known by themselves. -/
def callW (P : Program) (M : FuncId → Nat → Option (List Nat)) (Cl : FuncId → List Value → (Value → St → Prop) → St → Prop) : Nat → CallSem
  | 0, _, _, _, _ => False
  | d + 1, .func f, args, Q, s => (pcW (callW P M Cl d) f args Q s ∨ Cl f args Q s) ∨
    match P.funcs[f]? with
    | some fn => if fn.name == "runtime.NumGoroutine" then False else
      match fn.body with
      | some body => argK args 0 fun al => awp P (M f) (callW P M Cl d) body (bodyQ P fn Q) ⟨fn.ntmps, al⟩ s
      | none => False
    | none => False
  | d + 1, .yield l, args, Q, s => roundA P (callW P M Cl d) l args Q s
  | _, _, _, _, _ => False
end Go.Proofs.Yteibnlgfkcbfhaa.AE
