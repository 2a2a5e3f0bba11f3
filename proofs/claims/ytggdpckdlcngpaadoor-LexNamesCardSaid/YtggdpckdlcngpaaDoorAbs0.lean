/- The abstract machine: values as trees, a small heap of cells and maps, code with the types' numbers resolved. Definitions alone. -/
import Derived.Calls
import Derived.Orders
import Derived.Defers
import Derived.Scope
import Derived.Below
import Derived.KernelRfl
import Derived.Deep.LoopGhost
namespace Go.Proofs.YtggdpckdlcngpaaDoor.Abs
open Go.RowKit

/-- May a slice be appended to: its capacity is its length; its row is the call's own; nothing is known. -/
inductive Own where
  | full
  | own (id : Nat)
  | foreign

inductive AV where
  | bool (b : Bool)
  | int (k : IntKind) (n : Int)
  | str (s : List UInt8)
  | nilp
  | ptr (id off : Nat)
  | eref (cells : List AV)
  | slice (o : Own) (es : List AV)
  | mslice (id off len cap : Nat)
  | map (id : Nat)
  | nilmap
  | func (f : Nat) (first captured : List AV)
  | nilfunc
  | agg (l : List AV)
  | tuple (l : List AV)

def AV.cells : AV → List AV
  | .agg l => l
  | v => [v]

/-- One cell's value. -/
def AV.isCell : AV → Bool
  | .agg _ => false
  | .tuple _ => false
  | _ => true

def AV.okc : AV → Bool
  | .tuple _ => false
  | _ => true

/-- What a slot holds that nothing was put into. -/
def udf : AV := .tuple []

inductive AObj where
  | cells (l : List AV)
  | map (es : List (AV × AV × Nat)) (clock : Nat)
  | arr (n sz : Nat)

structure ASt where
  heap : Nat → Option AObj
  ctr : Nat
  dfr : List (Nat × List AV)

def ASt.set (s : ASt) (i : Nat) (o : AObj) : ASt := { s with heap := fun j => if j = i then some o else s.heap j }

abbrev AEnv := List (Nat × AV)

def AEnv.get : AEnv → Nat → AV
  | [], _ => udf
  | (i, v) :: e, t => if i = t then v else AEnv.get e t

def AEnv.put (e : AEnv) : Option Nat → AV → AEnv
  | some d, v => (d, v) :: e
  | none, _ => e

inductive AOpd where
  | tmp (t : Nat)
  | val (v : AV)

def ev (e : AEnv) : AOpd → AV
  | .tmp t => e.get t
  | .val v => v

/-- How cells are compared. -/
inductive KT where
  | int | str | bool

/-- How values are compared: one cell, or a row of them. -/
inductive KeyT where
  | one (t : KT)
  | many (ts : List KT)

inductive AOp where
  | move (x : AOpd)
  | pick (c a b : AOpd)
  | alloc (k : Nat) (zero : List AV)
  | box (k : Nat) (x : AOpd)
  | build (zero : List AV) (parts : List (Nat × Nat × AOpd))
  | buildSlice (sz : Nat) (parts : List AOpd)
  | load (agg : Bool) (sz : Nat) (x : AOpd)
  | store (sz : Nat) (a x : AOpd)
  | nilCheck (x : AOpd)
  | bin (op : BinOp) (x y : AOpd)
  | binNil (fn neq : Bool) (x y : AOpd)
  | binEq (t : KeyT) (neq : Bool) (x y : AOpd)
  | un (op : UnOp) (x : AOpd)
  | convInt (k : IntKind) (x : AOpd)
  | convRune (x : AOpd)
  | convStr (x : AOpd)
  | convBytes (x : AOpd)
  | mkfunc (f : Nat) (first captured : List AOpd)
  | mkmap (k : Nat)
  | sliceStr (x : AOpd) (lo hi : Option AOpd)
  | sliceSl (sz : Nat) (x : AOpd) (lo hi : Option AOpd)
  | sliceArr (n sz : Nat) (x : AOpd) (lo hi : Option AOpd)
  | fieldAddr (off : Nat) (x : AOpd)
  | field (agg : Bool) (sz off : Nat) (x : AOpd)
  | idxAddr (sz : Nat) (x i : AOpd)
  | idxAddrArr (len sz : Nat) (x i : AOpd)
  | idxStr (x i : AOpd)
  | idxArr (len : Nat) (agg : Bool) (sz : Nat) (x i : AOpd)
  | lookup (t : KeyT) (zero : AV) (ok : Bool) (m i : AOpd)
  | mapUpd (t : KeyT) (m k v : AOpd)
  | mapTouch (t : KeyT) (zero : AV) (m k : AOpd)
  | entrySet (m n v : AOpd)
  | extract (n : Nat) (x : AOpd)
  | call (f : AOpd) (args : List AOpd)
  | append (k sz bytes : Nat) (s x : AOpd)
  | lenOf (str : Bool) (x : AOpd)
  | lenMap (x : AOpd)
  | mx (isMax : Bool) (x y : AOpd)
  | defer (f : AOpd) (args : List AOpd)

structure AOper where
  dst : Option Nat
  guard : Option (Nat × Bool)
  op : AOp

inductive ACode where
  | skip
  | region (na : Nat) (pre : List (Nat × List AV)) (ops : List AOper) (pairs : List (Nat × Nat))
  | seq (a b : ACode)
  | cond (c : AOpd) (a b : ACode)
  | block (id : Nat) (b : ACode)
  | loop (b : ACode)
  | exit (id : Nat)
  | scope (b : ACode)
  | ret

inductive ARes where
  | tmp (t : Nat)
  | cell (t : Nat) (agg : Bool) (sz : Nat)

structure AFun where
  nt : Nat
  results : List ARes
  body : ACode

/-! ### What an operation does -/

def ldCells (agg : Bool) (sz : Nat) (l : List AV) : Option AV :=
  if agg then (if sz ≤ l.length then some (.agg (l.take sz)) else none) else l.head?

def ldObj (agg : Bool) (sz off : Nat) : Option AObj → Option AV
  | some (.cells l) => ldCells agg sz (l.drop off)
  | _ => none

def ldV (agg : Bool) (sz : Nat) (h : Nat → Option AObj) : AV → Option AV
  | .ptr id off => ldObj agg sz off (h id)
  | .eref cells => ldCells agg sz cells
  | _ => none

def ldKey : AV → Option Nat
  | .ptr id _ => some id
  | _ => none

/-- cells from 'off' on become 'new' -/
def overlay (l : List AV) (off : Nat) (new : List AV) : List AV := l.take off ++ new ++ l.drop (off + new.length)

def stV (sz : Nat) (s : ASt) (v : AV) : AV → Option ASt
  | .ptr id off => match s.heap id with
    | some (.cells l) => if v.okc = true ∧ v.cells.length = sz ∧ off + sz ≤ l.length then some (s.set id (.cells (overlay l off v.cells))) else none
    | _ => none
  | _ => none

def fillV (ρ : AOpd → AV) : List AV → List (Nat × Nat × AOpd) → Option (List AV)
  | l, [] => some l
  | l, (off, sz, x) :: ps => if (ρ x).okc = true ∧ (ρ x).cells.length = sz ∧ off + sz ≤ l.length then fillV ρ (overlay l off (ρ x).cells) ps else none

def partsV (ρ : AOpd → AV) (sz : Nat) : List AOpd → Option (List AV)
  | [] => some []
  | x :: xs => if (ρ x).okc = true ∧ (ρ x).cells.length = sz then (partsV ρ sz xs).map (ρ x :: ·) else none

def intV (op : BinOp) (k : IntKind) (a b : Int) : Option AV :=
  match op with
  | .add => some (.int k (k.wrap (a + b)))
  | .sub => some (.int k (k.wrap (a - b)))
  | .mul => some (.int k (k.wrap (a * b)))
  | .quo => if b = 0 then none else some (.int k (k.wrap (a.tdiv b)))
  | .rem => if b = 0 then none else some (.int k (a.tmod b))
  | .and => some (.int k (k.wrap (BitVec.ofInt k.bits a &&& BitVec.ofInt k.bits b).toNat))
  | .or => some (.int k (k.wrap (BitVec.ofInt k.bits a ||| BitVec.ofInt k.bits b).toNat))
  | .xor => some (.int k (k.wrap (BitVec.ofInt k.bits a ^^^ BitVec.ofInt k.bits b).toNat))
  | .andNot => some (.int k (k.wrap (BitVec.ofInt k.bits a &&& ~~~ BitVec.ofInt k.bits b).toNat))
  | .eql => some (.bool (decide (a = b)))
  | .neq => some (.bool (decide (a ≠ b)))
  | .lss => some (.bool (decide (a < b)))
  | .leq => some (.bool (decide (a ≤ b)))
  | .gtr => some (.bool (decide (a > b)))
  | .geq => some (.bool (decide (a ≥ b)))
  | _ => none

def shV (op : BinOp) (k : IntKind) (a b : Int) : Option AV :=
  if b < 0 then none else
  match op with
  | .shl => some (.int k (k.wrap (a * 2 ^ (min b.toNat k.bits))))
  | .shr => some (.int k (a.fdiv (2 ^ (min b.toNat k.bits))))
  | _ => none

def strV (op : BinOp) (a b : List UInt8) : Option AV :=
  match op with
  | .add => if a.length + b.length ≤ 9223372036854775807 then some (.str (a ++ b)) else none
  | .eql => some (.bool (decide (a = b)))
  | .neq => some (.bool (decide (a ≠ b)))
  | .lss => some (.bool (Op.bytesLess a b))
  | _ => none

def binV (op : BinOp) : AV → AV → Option AV
  | .int k a, .int k' b =>
    match op with
    | .shl => shV .shl k a b
    | .shr => shV .shr k a b
    | _ => if k = k' then intV op k a b else none
  | .str a, .str b => strV op a b
  | _, _ => none

/-- '==' of two cells that are whole numbers, texts or truths. -/
def eqT : KT → AV → AV → Option Bool
  | .int, .int k a, .int k' b => if k = k' then some (decide (a = b)) else none
  | .str, .str a, .str b => some (decide (a = b))
  | .bool, .bool a, .bool b => some (decide (a = b))
  | _, _, _ => none

def eqTs : List KT → List AV → List AV → Option Bool
  | [], [], [] => some true
  | t :: ts, a :: l, b :: m => match eqT t a b with
    | some true => eqTs ts l m
    | some false => if ts.length = l.length ∧ ts.length = m.length then some false else none
    | none => none
  | _, _, _ => none

def eqKey : KeyT → AV → AV → Option Bool
  | .one t, a, b => eqT t a b
  | .many ts, .agg l, .agg m => eqTs ts l m
  | .many _, _, _ => none

/-- '==' where one side is nil: functions ('fn'), pointers. -/
def nilV (fn : Bool) : AV → AV → Option Bool
  | .nilfunc, .nilfunc => if fn then some true else none
  | .nilfunc, .func _ _ _ => if fn then some false else none
  | .func _ _ _, .nilfunc => if fn then some false else none
  | .nilp, .nilp => if fn then none else some true
  | .nilp, .ptr _ _ => if fn then none else some false
  | .ptr _ _, .nilp => if fn then none else some false
  | .nilp, .eref _ => if fn then none else some false
  | .eref _, .nilp => if fn then none else some false
  | _, _ => none

def unV (op : UnOp) : AV → Option AV
  | .int k n => match op with
    | .neg => some (.int k (k.wrap (0 - n)))
    | _ => none
  | .bool b => match op with
    | .not => some (.bool (!b))
    | _ => none
  | _ => none

def byteOfV : AV → Option UInt8
  | .int .u8 n => some (UInt8.ofNat n.toNat)
  | _ => none

def bytesV : List AV → Option (List UInt8)
  | [] => some []
  | v :: l => match byteOfV v, bytesV l with
    | some b, some r => some (b :: r)
    | _, _ => none

def natOf : AV → Option Nat
  | .int _ n => if 0 ≤ n then some n.toNat else none
  | _ => none

/-- the bounds of a cut: 'len' where nothing stands for the end, 'cap' the most -/
def boundsV (ρ : AOpd → AV) (len cap : Nat) (lo hi : Option AOpd) : Option (Nat × Nat) :=
  match (match hi with | some x => natOf (ρ x) | none => some len) with
  | some h => if h ≤ cap then
      match (match lo with | some x => natOf (ρ x) | none => some 0) with
      | some l => if l ≤ h then some (l, h) else none
      | none => none
    else none
  | none => none

def cutOwn : Own → Nat → Nat → Nat → Own
  | .full, _, h, n => if h = n then .full else .foreign
  | .own id, l, h, n => if l = 0 ∧ h = n then .own id else .foreign
  | .foreign, _, _, _ => .foreign

/-- a key of the right form -/
def keyed {α : Type} (t : KeyT) (k : AV) (x : Option α) : Option α := if (eqKey t k k).isSome then x else none

def findE (t : KeyT) (k : AV) : List (AV × AV × Nat) → Option (Option AV)
  | [] => some none
  | (k', v, _) :: es => match eqKey t k k' with
    | some true => some (some v)
    | some false => findE t k es
    | none => none

/-- the entries with one more, or one whose value is another -/
def putE (t : KeyT) (k v : AV) (c : Nat) : List (AV × AV × Nat) → Option (List (AV × AV × Nat) × Nat)
  | [] => some ([(k, v, c)], c + 1)
  | (k', v', b) :: es => match eqKey t k k' with
    | some true => some ((k, v, b) :: es, c)
    | some false => (putE t k v c es).map fun r => ((k', v', b) :: r.1, r.2)
    | none => none

/-- an entry is there: what it holds, its stamp, the entries, the clock -/
def touchE (t : KeyT) (k zero : AV) (c : Nat) : List (AV × AV × Nat) → Option (AV × Nat × List (AV × AV × Nat) × Nat)
  | [] => some (zero, c, [(k, zero, c)], c + 1)
  | (k', v', b) :: es => match eqKey t k k' with
    | some true => some (v', b, (k, v', b) :: es, c)
    | some false => (touchE t k zero c es).map fun r => (r.1, r.2.1, (k', v', b) :: r.2.2.1, r.2.2.2)
    | none => none

def stampE (n : Int) (v : AV) : List (AV × AV × Nat) → Option (List (AV × AV × Nat))
  | [] => none
  | (k', v', b) :: es => if (b : Int) = n then some ((k', v, b) :: es) else (stampE n v es).map ((k', v', b) :: ·)

def okPair (ok : Bool) (v : AV) (b : Bool) : AV := if ok then .tuple [v, .bool b] else v

def lookV (t : KeyT) (zero : AV) (ok : Bool) (k : AV) : List (AV × AV × Nat) → Option AV := fun es =>
  match findE t k es with
  | some (some v) => some (okPair ok v true)
  | some none => some (okPair ok zero false)
  | none => none

def lookObj (t : KeyT) (zero : AV) (ok : Bool) (k : AV) : Option AObj → Option AV
  | some (.map es _) => lookV t zero ok k es
  | _ => none

def lookM (t : KeyT) (zero : AV) (ok : Bool) (h : Nat → Option AObj) (k : AV) : AV → Option AV
  | .map id => lookObj t zero ok k (h id)
  | .nilmap => lookV t zero ok k []
  | _ => none

def mapKey : AV → Option Nat
  | .map id => some id
  | _ => none

def updM (t : KeyT) (s : ASt) (k v : AV) : AV → Option ASt
  | .map id => match s.heap id with
    | some (.map es c) => (putE t k v c es).map fun r => s.set id (.map r.1 r.2)
    | _ => none
  | _ => none

def touchM (t : KeyT) (s : ASt) (k zero : AV) : AV → Option (AV × ASt)
  | .map id => match s.heap id with
    | some (.map es c) => (touchE t k zero c es).map fun r => (.tuple [r.1, .int .i64 r.2.1], s.set id (.map r.2.2.1 r.2.2.2))
    | _ => none
  | _ => none

def stampM (s : ASt) (n v : AV) : AV → Option ASt
  | .map id => match s.heap id, n with
    | some (.map es c), .int _ b => (stampE b v es).map fun l => s.set id (.map l c)
    | _, _ => none
  | _ => none

def lenV (str : Bool) : AV → Option AV
  | .str s => if str then some (.int .i64 s.length) else none
  | .slice _ es => if str then none else some (.int .i64 es.length)
  | .mslice _ _ n _ => if str then none else some (.int .i64 n)
  | _ => none

def lenMapV (h : Nat → Option AObj) : AV → Option AV
  | .nilmap => some (.int .i64 0)
  | .map id => match h id with
    | some (.map es _) => some (.int .i64 es.length)
    | _ => none
  | _ => none

/-- the cells of a row of bytes of the heap -/
def bytesObj (off len : Nat) : Option AObj → Option AV
  | some (.cells l) => if off + len ≤ l.length then (bytesV ((l.drop off).take len)).map AV.str else none
  | _ => none

def strOfV (h : Nat → Option AObj) : AV → Option AV
  | .slice _ es => (bytesV es).map AV.str
  | .mslice id off len _ => bytesObj off len (h id)
  | _ => none

def strKey : AV → Option Nat
  | .mslice id _ _ _ => some id
  | _ => none

/-- the elements that an append takes over -/
def elemsV : AV → Option (List AV)
  | .slice _ es => some es
  | .str s => some (s.map fun b => .int .u8 b.toNat)
  | _ => none

def sizedV (sz : Nat) (l : List AV) : Bool := l.all fun e => e.okc && e.cells.length == sz

def appV (b k sz bytes : Nat) (s : ASt) (o : Own) (es new : List AV) : Option (AV × ASt) :=
  if (2 * (es.length + new.length) + 1024) * bytes ≤ 281474976710656 ∧ sizedV sz new = true then
    match o with
    | .own id => match s.heap id with
      | some (.arr m sz') => if m = es.length ∧ sz' = sz then some (.slice (.own id) (es ++ new), s.set id (.arr (es.length + new.length) sz)) else none
      | _ => none
    | .full => if sizedV sz es then
        (if new.length = 0 then some (.slice .full es, s)
        else some (.slice (.own (b + k)) (es ++ new), s.set (b + k) (.arr (es.length + new.length) sz)))
      else none
    | .foreign => none
  else none

/-- are the elements of this size? (all are of one) -/
def headSz (sz : Nat) : List AV → Bool
  | [] => true
  | e :: _ => e.cells.length == sz

def slV (ρ : AOpd → AV) (sz : Nat) (lo hi : Option AOpd) : AV → Option AV
  | .slice o es => if headSz sz es then (boundsV ρ es.length es.length lo hi).map fun (l, h) => .slice (cutOwn o l h es.length) ((es.take h).drop l) else none
  | _ => none

def fldV (agg : Bool) (sz off : Nat) : AV → Option AV
  | .agg l => ldCells agg sz (l.drop off)
  | _ => none

def fadV (off : Nat) : AV → Option AV
  | .ptr id o => some (.ptr id (o + off))
  | .eref cells => some (.eref (cells.drop off))
  | _ => none

def idxV (sz : Nat) (i : AV) : AV → Option AV
  | .slice _ es => match natOf i with
    | some n => match es[n]? with
      | some e => if e.cells.length = sz then some (.eref e.cells) else none
      | none => none
    | none => none
  | .mslice id off len _ => match natOf i with
    | some n => if n < len then some (.ptr id (off + n * sz)) else none
    | none => none
  | _ => none

def idxArrV (len sz : Nat) (i : AV) : AV → Option AV
  | .ptr id off => match natOf i with
    | some n => if n < len then some (.ptr id (off + n * sz)) else none
    | none => none
  | .eref cells => match natOf i with
    | some n => if n < len then some (.eref (cells.drop (n * sz))) else none
    | none => none
  | _ => none

def strAt (i : AV) : AV → Option AV
  | .str s => match natOf i with
    | some n => (s[n]?).map fun b => .int .u8 b.toNat
    | none => none
  | _ => none

def aggAt (len : Nat) (agg : Bool) (sz : Nat) (i : AV) : AV → Option AV
  | .agg l => match natOf i with
    | some n => if n < len then ldCells agg sz (l.drop (n * sz)) else none
    | none => none
  | _ => none

def slStrV (ρ : AOpd → AV) (lo hi : Option AOpd) : AV → Option AV
  | .str s => (boundsV ρ s.length s.length lo hi).map fun (l, h) => .str ((s.take h).drop l)
  | _ => none

def slArrV (ρ : AOpd → AV) (n sz : Nat) (lo hi : Option AOpd) : AV → Option AV
  | .ptr id off => (boundsV ρ n n lo hi).map fun (l, h) => .mslice id (off + l * sz) (h - l) (n - l)
  | _ => none

def nilChk : AV → Option AV
  | .nilp => none
  | .nilfunc => none
  | v => some v

def extV (n : Nat) : AV → Option AV
  | .tuple l => l[n]?
  | _ => none

def pickV (a b : AV) : AV → Option AV
  | .bool c => some (if c then a else b)
  | _ => none

def mxV (isMax : Bool) : AV → AV → Option AV
  | .int k a, .int _ b => some (.int k (if isMax then (if b > a then b else a) else (if b < a then b else a)))
  | _, _ => none

open Classical in
/-- An operation that leaves the state alone. 'b': the first number of the region's own objects. -/
noncomputable def opV (ρ : AOpd → AV) (b : Nat) (h : Nat → Option AObj) : AOp → Option AV
  | .move x => some (ρ x)
  | .pick c x y => pickV (ρ x) (ρ y) (ρ c)
  | .alloc k zero => if h (b + k) = some (.cells zero) then some (.ptr (b + k) 0) else none
  | .build zero parts => (fillV ρ zero parts).map AV.agg
  | .buildSlice sz parts => (partsV ρ sz parts).map fun es => .slice .full es
  | .load agg sz x => ldV agg sz h (ρ x)
  | .nilCheck x => nilChk (ρ x)
  | .bin op x y => binV op (ρ x) (ρ y)
  | .binNil fn neq x y => (nilV fn (ρ x) (ρ y)).map fun r => .bool (neq != r)
  | .binEq t neq x y => (eqKey t (ρ x) (ρ y)).map fun r => .bool (neq != r)
  | .un op x => unV op (ρ x)
  | .convInt k x => match ρ x with
    | .int _ n => some (.int k (k.wrap n))
    | _ => none
  | .convRune x => match ρ x with
    | .int _ n => some (.str (Utf8.encode n).data.toList)
    | _ => none
  | .convStr x => match ρ x with
    | .str s => some (.str s)
    | _ => none
  | .convBytes x => strOfV h (ρ x)
  | .mkfunc f first captured => some (.func f (first.map ρ) (captured.map ρ))
  | .sliceStr x lo hi => slStrV ρ lo hi (ρ x)
  | .sliceSl sz x lo hi => slV ρ sz lo hi (ρ x)
  | .sliceArr n sz x lo hi => slArrV ρ n sz lo hi (ρ x)
  | .fieldAddr off x => fadV off (ρ x)
  | .field agg sz off x => fldV agg sz off (ρ x)
  | .idxAddr sz x i => idxV sz (ρ i) (ρ x)
  | .idxAddrArr len sz x i => idxArrV len sz (ρ i) (ρ x)
  | .idxStr x i => strAt (ρ i) (ρ x)
  | .idxArr len agg sz x i => aggAt len agg sz (ρ i) (ρ x)
  | .lookup t zero ok m i => keyed t (ρ i) (lookM t zero ok h (ρ i) (ρ m))
  | .extract n x => extV n (ρ x)
  | .lenOf str x => lenV str (ρ x)
  | .lenMap x => lenMapV h (ρ x)
  | .mx m x y => mxV m (ρ x) (ρ y)
  | _ => none

/-- The object that such an operation looks at. -/
def opKey (ρ : AOpd → AV) (b : Nat) : AOp → Option Nat
  | .alloc k _ => some (b + k)
  | .load _ _ x => ldKey (ρ x)
  | .convBytes x => strKey (ρ x)
  | .lookup _ _ _ m _ => mapKey (ρ m)
  | .lenMap x => mapKey (ρ x)
  | _ => none

/-- An operation that turns the state. -/
def opW (ρ : AOpd → AV) (b : Nat) (s : ASt) : AOp → Option (AV × ASt)
  | .box k x => if (ρ x).okc then some (.ptr (b + k) 0, s.set (b + k) (.cells (ρ x).cells)) else none
  | .mkmap k => some (.map (b + k), s.set (b + k) (.map [] 0))
  | .store sz a x => (stV sz s (ρ x) (ρ a)).map fun s' => (udf, s')
  | .mapUpd t m k v => keyed t (ρ k) ((updM t s (ρ k) (ρ v) (ρ m)).map fun s' => (udf, s'))
  | .mapTouch t zero m k => keyed t (ρ k) (touchM t s (ρ k) zero (ρ m))
  | .entrySet m n v => (stampM s (ρ n) (ρ v) (ρ m)).map fun s' => (udf, s')
  | .append k sz bytes x y => match ρ x, elemsV (ρ y) with
    | .slice o es, some new => appV b k sz bytes s o es new
    | _, _ => none
  | .defer f args => match ρ f with
    | .func g first captured => some (udf, { s with dfr := (g, first ++ args.map ρ ++ captured) :: s.dfr })
    | _ => none
  | _ => none

inductive Kd where
  | v | w | c

def AOp.kd : AOp → Kd
  | .box .. | .mkmap .. | .store .. | .mapUpd .. | .mapTouch .. | .entrySet .. | .append .. | .defer .. => .w
  | .call .. => .c
  | _ => .v

/-- Does a guarded operation run? -/
def wanted (e : AEnv) : Option (Nat × Bool) → Bool
  | none => true
  | some (t, want) => match e.get t with
    | .bool b => b == want
    | _ => false

abbrev Caller := Nat → List AV → ASt → Option (AV × ASt)

/-- A call's function and arguments. -/
def callV (ρ : AOpd → AV) (f : AOpd) (args : List AOpd) : Option (Nat × List AV) :=
  match ρ f with
  | .func g first captured => some (g, first ++ args.map ρ ++ captured)
  | _ => none

noncomputable def runOp (call : Caller) (b : Nat) (o : AOp) (e : AEnv) (s : ASt) : Option (AV × ASt) :=
  match o.kd with
  | .v => (opV (ev e) b s.heap o).map fun v => (v, s)
  | .w => opW (ev e) b s o
  | .c => match o with
    | .call f args => match callV (ev e) f args with
      | some (g, l) => call g l s
      | none => none
    | _ => none

noncomputable def stepOp (call : Caller) (b : Nat) (o : AOper) (e : AEnv) (s : ASt) : Option (AEnv × ASt) :=
  if wanted e o.guard then (runOp call b o.op e s).map fun (v, s') => (e.put o.dst v, s')
  else some (e.put o.dst udf, s)

/-- What is kept of a run, for the pairs whose order is open: an operation's number, the object it looked at; the heaps ahead of and behind it. -/
structure Log where
  i : Nat
  key : Option Nat
  h : Nat → Option AObj
  h' : Nat → Option AObj

noncomputable def runOps (call : Caller) (b : Nat) : List AOper → Nat → AEnv → ASt → Option (AEnv × ASt × List Log)
  | [], _, e, s => some (e, s, [])
  | o :: os, i, e, s => match stepOp call b o e s with
    | some (e', s') => match runOps call b os (i + 1) e' s' with
      | some (e'', s'', l) => some (e'', s'', { i, key := if wanted e o.guard then opKey (ev e) b o.op else none, h := s.heap, h' := s'.heap } :: l)
      | none => none
    | none => none

/-- Of each pair (a look, a turn) in open order: what is looked at is not turned. -/
def Stable (pairs : List (Nat × Nat)) (l : List Log) : Prop :=
  ∀ p ∈ pairs, ∀ r ∈ l, r.i = p.1 → ∀ k, r.key = some k → ∀ t ∈ l, t.i = p.2 → t.h k = t.h' k

/-- A region is entered: numbers for its own objects; variables that it makes. -/
def preSet (b : Nat) : List (Nat × List AV) → ASt → ASt
  | [], s => s
  | (k, z) :: ps, s => preSet b ps (s.set (b + k) (.cells z))

def ASt.enter (s : ASt) (na : Nat) (pre : List (Nat × List AV)) : ASt := preSet s.ctr pre { s with ctr := s.ctr + na }

inductive AExit where
  | normal
  | exit (id : Nat)
  | ret

open Classical in
/-- Code, with so much fuel. -/
noncomputable def arun (call : Caller) : Nat → ACode → AEnv → ASt → Option (AExit × AEnv × ASt)
  | 0, _, _, _ => none
  | n + 1, c, e, s => match c with
    | .skip => some (.normal, e, s)
    | .region na pre ops pairs => match runOps call s.ctr ops 0 e (s.enter na pre) with
      | some (e', s', l) => if Stable pairs l then some (.normal, e', s') else none
      | none => none
    | .seq a b => match arun call n a e s with
      | some (.normal, e', s') => arun call n b e' s'
      | r => r
    | .cond x a b => match ev e x with
      | .bool t => arun call n (if t then a else b) e s
      | _ => none
    | .block id b => match arun call n b e s with
      | some (.exit id', e', s') => if id' = id then some (.normal, e', s') else some (.exit id', e', s')
      | r => r
    | .loop b => match arun call n b e s with
      | some (.normal, e', s') => arun call n (.loop b) e' s'
      | r => r
    | .exit id => some (.exit id, e, s)
    | .scope b => arun call n b e s
    | .ret => some (.ret, e, s)

def resV (e : AEnv) (s : ASt) : List ARes → Option (List AV)
  | [] => some []
  | .tmp t :: r => (resV e s r).map (e.get t :: ·)
  | .cell t agg sz :: r => match ldV agg sz s.heap (e.get t), resV e s r with
    | some v, some l => some (v :: l)
    | _, _ => none

def oneOf : List AV → AV
  | [v] => v
  | l => .tuple l

/-- A deferred call's body has ended; it has deferred none itself. -/
def finish0 (fn : AFun) : Option (AExit × AEnv × ASt) → Option ASt
  | some (.exit _, _, _) => none
  | some (_, e, s) => match s.dfr, resV e s fn.results with
    | [], some _ => some s
    | _, _ => none
  | none => none

/-- The deferred calls, the last one laid first. -/
def runDfr (call : Nat → List AV → ASt → Option ASt) : List (Nat × List AV) → ASt → Option ASt
  | [], s => some s
  | (f, l) :: ds, s => match call f l s with
    | some s' => runDfr call ds s'
    | none => none

def argEnv : Nat → List AV → AEnv
  | _, [] => []
  | i, v :: l => (i, v) :: argEnv (i + 1) l

structure Ctx where
  P : Program
  code : Nat → Option AFun
  orc : Nat → Option (List AV → ASt → Option (AV × ASt))

/-- How a function's body has ended; its deferred calls, its results. -/
def finish (call : Nat → List AV → ASt → Option ASt) (fn : AFun) (old : List (Nat × List AV)) : Option (AExit × AEnv × ASt) → Option (AV × ASt)
  | some (.exit _, _, _) => none
  | some (_, e, s) => match runDfr call s.dfr { s with dfr := [] } with
    | some s' => match resV e s' fn.results with
      | some l => some (oneOf l, { s' with dfr := old })
      | none => none
    | none => none
  | none => none

/-- A deferred call. -/
noncomputable def dcall (X : Ctx) (call : Caller) (n : Nat) (f : Nat) (l : List AV) (s : ASt) : Option ASt :=
  match X.orc f, X.code f with
  | none, some fn => if l.length ≤ fn.nt then finish0 fn (arun call n fn.body (argEnv 0 l) s) else none
  | _, _ => none

noncomputable def acall (X : Ctx) : Nat → Caller
  | 0, _, _, _ => none
  | n + 1, f, args, s => match X.orc f with
    | some g => g args s
    | none => match X.code f with
      | some fn => if args.length ≤ fn.nt then finish (dcall X (acall X n) n) fn s.dfr (arun (acall X n) n fn.body (argEnv 0 args) { s with dfr := [] }) else none
      | none => none

end Go.Proofs.YtggdpckdlcngpaaDoor.Abs
