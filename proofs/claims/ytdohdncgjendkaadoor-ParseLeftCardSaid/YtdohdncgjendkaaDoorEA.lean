/- The abstract machine: values as trees, a small heap of cells and maps, code with the types' numbers resolved. Definitions alone. From the model's code to the abstract machine's: the types' numbers are looked up once. What a state of the abstract machine says of a world. What an operation that leaves the state alone does, in the model. Comparisons, keys and bounds, in the model. Maps, bounds and sums, in the model. An operation that leaves the state alone: what the model does is what the abstract machine says. -/
import Derived.Calls
import Derived.Orders
import Derived.Defers
import Derived.Scope
import Derived.Below
import Derived.KernelRfl
import Derived.Deep.LoopGhost
import Derived.Laws.StructEq
namespace Go.Proofs.YtdohdncgjendkaaDoor.Abs
open Go.RowKit
/-- May a slice be appended to: its capacity is its length; its row is the call's own; nothing is known. -/
inductive Own where
 | full
 | own (id : Nat)
 | foreign
inductive AV where
 | bool (b : Bool)
 | int (k : IntKind) (n : Int)
 | str (s : List UInt8)
 | nilp
 | ptr (id off : Nat)
 | eref (cells : List AV)
 | slice (o : Own) (es : List AV)
 | mslice (id off len cap : Nat)
 | map (id : Nat)
 | nilmap
 | func (f : Nat) (first captured : List AV)
 | nilfunc
 | agg (l : List AV)
 | tuple (l : List AV)
def AV.cells : AV → List AV
 | .agg l => l
 | v => [v]
/-- One cell's value. -/
def AV.isCell : AV → Bool
 | .agg _ => false
 | .tuple _ => false
 | _ => true
def AV.okc : AV → Bool
 | .tuple _ => false
 | _ => true
/-- What a slot holds that nothing was put into. -/
def udf : AV := .tuple []
inductive AObj where
 | cells (l : List AV)
 | map (es : List (AV × AV × Nat)) (clock : Nat)
 | arr (n sz : Nat)
structure ASt where
 heap : Nat → Option AObj
 ctr : Nat
 dfr : List (Nat × List AV)
def ASt.set (s : ASt) (i : Nat) (o : AObj) : ASt := { s with heap := fun j => if j = i then some o else s.heap j }
abbrev AEnv := List (Nat × AV)
def AEnv.get : AEnv → Nat → AV
 | [], _ => udf
 | (i, v) :: e, t => if i = t then v else AEnv.get e t
def AEnv.put (e : AEnv) : Option Nat → AV → AEnv
 | some d, v => (d, v) :: e
 | none, _ => e
inductive AOpd where
 | tmp (t : Nat)
 | val (v : AV)
def ev (e : AEnv) : AOpd → AV
 | .tmp t => e.get t
 | .val v => v
/-- How cells are compared. -/
inductive KT where
 | int | str | bool
/-- How values are compared: one cell, or a row of them. -/
inductive KeyT where
 | one (t : KT)
 | many (ts : List KT)
inductive AOp where
 | move (x : AOpd)
 | pick (c a b : AOpd)
 | alloc (k : Nat) (zero : List AV)
 | box (k : Nat) (x : AOpd)
 | build (zero : List AV) (parts : List (Nat × Nat × AOpd))
 | buildSlice (sz : Nat) (parts : List AOpd)
 | load (agg : Bool) (sz : Nat) (x : AOpd)
 | store (sz : Nat) (a x : AOpd)
 | nilCheck (x : AOpd)
 | bin (op : BinOp) (x y : AOpd)
 | binNil (fn neq : Bool) (x y : AOpd)
 | binEq (t : KeyT) (neq : Bool) (x y : AOpd)
 | un (op : UnOp) (x : AOpd)
 | convInt (k : IntKind) (x : AOpd)
 | convRune (x : AOpd)
 | convStr (x : AOpd)
 | convBytes (x : AOpd)
 | mkfunc (f : Nat) (first captured : List AOpd)
 | mkmap (k : Nat)
 | sliceStr (x : AOpd) (lo hi : Option AOpd)
 | sliceSl (sz : Nat) (x : AOpd) (lo hi : Option AOpd)
 | sliceArr (n sz : Nat) (x : AOpd) (lo hi : Option AOpd)
 | fieldAddr (off : Nat) (x : AOpd)
 | field (agg : Bool) (sz off : Nat) (x : AOpd)
 | idxAddr (sz : Nat) (x i : AOpd)
 | idxAddrArr (len sz : Nat) (x i : AOpd)
 | idxStr (x i : AOpd)
 | idxArr (len : Nat) (agg : Bool) (sz : Nat) (x i : AOpd)
 | lookup (t : KeyT) (zero : AV) (ok : Bool) (m i : AOpd)
 | mapUpd (t : KeyT) (m k v : AOpd)
 | mapTouch (t : KeyT) (zero : AV) (m k : AOpd)
 | entrySet (m n v : AOpd)
 | extract (n : Nat) (x : AOpd)
 | call (f : AOpd) (args : List AOpd)
 | append (k sz bytes : Nat) (s x : AOpd)
 | lenOf (str : Bool) (x : AOpd)
 | lenMap (x : AOpd)
 | mx (isMax : Bool) (x y : AOpd)
 | defer (f : AOpd) (args : List AOpd)
structure AOper where
 dst : Option Nat
 guard : Option (Nat × Bool)
 op : AOp
inductive ACode where
 | skip
 | region (na : Nat) (pre : List (Nat × List AV)) (ops : List AOper) (pairs : List (Nat × Nat))
 | seq (a b : ACode)
 | cond (c : AOpd) (a b : ACode)
 | block (id : Nat) (b : ACode)
 | loop (b : ACode)
 | exit (id : Nat)
 | scope (b : ACode)
 | ret
inductive ARes where
 | tmp (t : Nat)
 | cell (t : Nat) (agg : Bool) (sz : Nat)
structure AFun where
 nt : Nat
 results : List ARes
 body : ACode
/-! ### What an operation does -/
def ldCells (agg : Bool) (sz : Nat) (l : List AV) : Option AV :=
 if agg then (if sz ≤ l.length then some (.agg (l.take sz)) else none) else l.head?
def ldObj (agg : Bool) (sz off : Nat) : Option AObj → Option AV
 | some (.cells l) => ldCells agg sz (l.drop off)
 | _ => none
def ldV (agg : Bool) (sz : Nat) (h : Nat → Option AObj) : AV → Option AV
 | .ptr id off => ldObj agg sz off (h id)
 | .eref cells => ldCells agg sz cells
 | _ => none
def ldKey : AV → Option Nat
 | .ptr id _ => some id
 | _ => none
/-- cells from 'off' on become 'new' -/
def overlay (l : List AV) (off : Nat) (new : List AV) : List AV := l.take off ++ new ++ l.drop (off + new.length)
def stV (sz : Nat) (s : ASt) (v : AV) : AV → Option ASt
 | .ptr id off => match s.heap id with
  | some (.cells l) => if v.okc = true ∧ v.cells.length = sz ∧ off + sz ≤ l.length then some (s.set id (.cells (overlay l off v.cells))) else none
  | _ => none
 | _ => none
def fillV (ρ : AOpd → AV) : List AV → List (Nat × Nat × AOpd) → Option (List AV)
 | l, [] => some l
 | l, (off, sz, x) :: ps => if (ρ x).okc = true ∧ (ρ x).cells.length = sz ∧ off + sz ≤ l.length then fillV ρ (overlay l off (ρ x).cells) ps else none
def partsV (ρ : AOpd → AV) (sz : Nat) : List AOpd → Option (List AV)
 | [] => some []
 | x :: xs => if (ρ x).okc = true ∧ (ρ x).cells.length = sz then (partsV ρ sz xs).map (ρ x :: ·) else none
def intV (op : BinOp) (k : IntKind) (a b : Int) : Option AV :=
 match op with
 | .add => some (.int k (k.wrap (a + b)))
 | .sub => some (.int k (k.wrap (a - b)))
 | .mul => some (.int k (k.wrap (a * b)))
 | .quo => if b = 0 then none else some (.int k (k.wrap (a.tdiv b)))
 | .rem => if b = 0 then none else some (.int k (a.tmod b))
 | .and => some (.int k (k.wrap (BitVec.ofInt k.bits a &&& BitVec.ofInt k.bits b).toNat))
 | .or => some (.int k (k.wrap (BitVec.ofInt k.bits a ||| BitVec.ofInt k.bits b).toNat))
 | .xor => some (.int k (k.wrap (BitVec.ofInt k.bits a ^^^ BitVec.ofInt k.bits b).toNat))
 | .andNot => some (.int k (k.wrap (BitVec.ofInt k.bits a &&& ~~~ BitVec.ofInt k.bits b).toNat))
 | .eql => some (.bool (decide (a = b)))
 | .neq => some (.bool (decide (a ≠ b)))
 | .lss => some (.bool (decide (a < b)))
 | .leq => some (.bool (decide (a ≤ b)))
 | .gtr => some (.bool (decide (a > b)))
 | .geq => some (.bool (decide (a ≥ b)))
 | _ => none
def shV (op : BinOp) (k : IntKind) (a b : Int) : Option AV :=
 if b < 0 then none else
 match op with
 | .shl => some (.int k (k.wrap (a * 2 ^ (min b.toNat k.bits))))
 | .shr => some (.int k (a.fdiv (2 ^ (min b.toNat k.bits))))
 | _ => none
def strV (op : BinOp) (a b : List UInt8) : Option AV :=
 match op with
 | .add => if a.length + b.length ≤ 9223372036854775807 then some (.str (a ++ b)) else none
 | .eql => some (.bool (decide (a = b)))
 | .neq => some (.bool (decide (a ≠ b)))
 | .lss => some (.bool (Op.bytesLess a b))
 | _ => none
def binV (op : BinOp) : AV → AV → Option AV
 | .int k a, .int k' b =>
  match op with
  | .shl => shV .shl k a b
  | .shr => shV .shr k a b
  | _ => if k = k' then intV op k a b else none
 | .str a, .str b => strV op a b
 | _, _ => none
/-- '==' of two cells that are whole numbers, texts or truths. -/
def eqT : KT → AV → AV → Option Bool
 | .int, .int k a, .int k' b => if k = k' then some (decide (a = b)) else none
 | .str, .str a, .str b => some (decide (a = b))
 | .bool, .bool a, .bool b => some (decide (a = b))
 | _, _, _ => none
def eqTs : List KT → List AV → List AV → Option Bool
 | [], [], [] => some true
 | t :: ts, a :: l, b :: m => match eqT t a b with
  | some true => eqTs ts l m
  | some false => if ts.length = l.length ∧ ts.length = m.length then some false else none
  | none => none
 | _, _, _ => none
def eqKey : KeyT → AV → AV → Option Bool
 | .one t, a, b => eqT t a b
 | .many ts, .agg l, .agg m => eqTs ts l m
 | .many _, _, _ => none
/-- '==' where one side is nil: functions ('fn'), pointers. -/
def nilV (fn : Bool) : AV → AV → Option Bool
 | .nilfunc, .nilfunc => if fn then some true else none
 | .nilfunc, .func _ _ _ => if fn then some false else none
 | .func _ _ _, .nilfunc => if fn then some false else none
 | .nilp, .nilp => if fn then none else some true
 | .nilp, .ptr _ _ => if fn then none else some false
 | .ptr _ _, .nilp => if fn then none else some false
 | .nilp, .eref _ => if fn then none else some false
 | .eref _, .nilp => if fn then none else some false
 | _, _ => none
def unV (op : UnOp) : AV → Option AV
 | .int k n => match op with
  | .neg => some (.int k (k.wrap (0 - n)))
  | _ => none
 | .bool b => match op with
  | .not => some (.bool (!b))
  | _ => none
 | _ => none
def byteOfV : AV → Option UInt8
 | .int .u8 n => some (UInt8.ofNat n.toNat)
 | _ => none
def bytesV : List AV → Option (List UInt8)
 | [] => some []
 | v :: l => match byteOfV v, bytesV l with
  | some b, some r => some (b :: r)
  | _, _ => none
def natOf : AV → Option Nat
 | .int _ n => if 0 ≤ n then some n.toNat else none
 | _ => none
/-- the bounds of a cut: 'len' where nothing stands for the end, 'cap' the most -/
def boundsV (ρ : AOpd → AV) (len cap : Nat) (lo hi : Option AOpd) : Option (Nat × Nat) :=
 match (match hi with | some x => natOf (ρ x) | none => some len) with
 | some h => if h ≤ cap then
   match (match lo with | some x => natOf (ρ x) | none => some 0) with
   | some l => if l ≤ h then some (l, h) else none
   | none => none
  else none
 | none => none
def cutOwn : Own → Nat → Nat → Nat → Own
 | .full, _, h, n => if h = n then .full else .foreign
 | .own id, l, h, n => if l = 0 ∧ h = n then .own id else .foreign
 | .foreign, _, _, _ => .foreign
/-- a key of the right form -/
def keyed {α : Type} (t : KeyT) (k : AV) (x : Option α) : Option α := if (eqKey t k k).isSome then x else none
def findE (t : KeyT) (k : AV) : List (AV × AV × Nat) → Option (Option AV)
 | [] => some none
 | (k', v, _) :: es => match eqKey t k k' with
  | some true => some (some v)
  | some false => findE t k es
  | none => none
/-- the entries with one more, or one whose value is another -/
def putE (t : KeyT) (k v : AV) (c : Nat) : List (AV × AV × Nat) → Option (List (AV × AV × Nat) × Nat)
 | [] => some ([(k, v, c)], c + 1)
 | (k', v', b) :: es => match eqKey t k k' with
  | some true => some ((k, v, b) :: es, c)
  | some false => (putE t k v c es).map fun r => ((k', v', b) :: r.1, r.2)
  | none => none
/-- an entry is there: what it holds, its stamp, the entries, the clock -/
def touchE (t : KeyT) (k zero : AV) (c : Nat) : List (AV × AV × Nat) → Option (AV × Nat × List (AV × AV × Nat) × Nat)
 | [] => some (zero, c, [(k, zero, c)], c + 1)
 | (k', v', b) :: es => match eqKey t k k' with
  | some true => some (v', b, (k, v', b) :: es, c)
  | some false => (touchE t k zero c es).map fun r => (r.1, r.2.1, (k', v', b) :: r.2.2.1, r.2.2.2)
  | none => none
def stampE (n : Int) (v : AV) : List (AV × AV × Nat) → Option (List (AV × AV × Nat))
 | [] => none
 | (k', v', b) :: es => if (b : Int) = n then some ((k', v, b) :: es) else (stampE n v es).map ((k', v', b) :: ·)
def okPair (ok : Bool) (v : AV) (b : Bool) : AV := if ok then .tuple [v, .bool b] else v
def lookV (t : KeyT) (zero : AV) (ok : Bool) (k : AV) : List (AV × AV × Nat) → Option AV := fun es =>
 match findE t k es with
 | some (some v) => some (okPair ok v true)
 | some none => some (okPair ok zero false)
 | none => none
def lookObj (t : KeyT) (zero : AV) (ok : Bool) (k : AV) : Option AObj → Option AV
 | some (.map es _) => lookV t zero ok k es
 | _ => none
def lookM (t : KeyT) (zero : AV) (ok : Bool) (h : Nat → Option AObj) (k : AV) : AV → Option AV
 | .map id => lookObj t zero ok k (h id)
 | .nilmap => lookV t zero ok k []
 | _ => none
def mapKey : AV → Option Nat
 | .map id => some id
 | _ => none
def updM (t : KeyT) (s : ASt) (k v : AV) : AV → Option ASt
 | .map id => match s.heap id with
  | some (.map es c) => (putE t k v c es).map fun r => s.set id (.map r.1 r.2)
  | _ => none
 | _ => none
def touchM (t : KeyT) (s : ASt) (k zero : AV) : AV → Option (AV × ASt)
 | .map id => match s.heap id with
  | some (.map es c) => (touchE t k zero c es).map fun r => (.tuple [r.1, .int .i64 r.2.1], s.set id (.map r.2.2.1 r.2.2.2))
  | _ => none
 | _ => none
def stampM (s : ASt) (n v : AV) : AV → Option ASt
 | .map id => match s.heap id, n with
  | some (.map es c), .int _ b => (stampE b v es).map fun l => s.set id (.map l c)
  | _, _ => none
 | _ => none
def lenV (str : Bool) : AV → Option AV
 | .str s => if str then some (.int .i64 s.length) else none
 | .slice _ es => if str then none else some (.int .i64 es.length)
 | .mslice _ _ n _ => if str then none else some (.int .i64 n)
 | _ => none
def lenMapV (h : Nat → Option AObj) : AV → Option AV
 | .nilmap => some (.int .i64 0)
 | .map id => match h id with
  | some (.map es _) => some (.int .i64 es.length)
  | _ => none
 | _ => none
/-- the cells of a row of bytes of the heap -/
def bytesObj (off len : Nat) : Option AObj → Option AV
 | some (.cells l) => if off + len ≤ l.length then (bytesV ((l.drop off).take len)).map AV.str else none
 | _ => none
def strOfV (h : Nat → Option AObj) : AV → Option AV
 | .slice _ es => (bytesV es).map AV.str
 | .mslice id off len _ => bytesObj off len (h id)
 | _ => none
def strKey : AV → Option Nat
 | .mslice id _ _ _ => some id
 | _ => none
/-- the elements that an append takes over -/
def elemsV : AV → Option (List AV)
 | .slice _ es => some es
 | .str s => some (s.map fun b => .int .u8 b.toNat)
 | _ => none
def sizedV (sz : Nat) (l : List AV) : Bool := l.all fun e => e.okc && e.cells.length == sz
def appV (b k sz bytes : Nat) (s : ASt) (o : Own) (es new : List AV) : Option (AV × ASt) :=
 if (2 * (es.length + new.length) + 1024) * bytes ≤ 281474976710656 ∧ sizedV sz new = true then
  match o with
  | .own id => match s.heap id with
   | some (.arr m sz') => if m = es.length ∧ sz' = sz then some (.slice (.own id) (es ++ new), s.set id (.arr (es.length + new.length) sz)) else none
   | _ => none
  | .full => if sizedV sz es then
    (if new.length = 0 then some (.slice .full es, s)
    else some (.slice (.own (b + k)) (es ++ new), s.set (b + k) (.arr (es.length + new.length) sz)))
   else none
  | .foreign => none
 else none
/-- are the elements of this size? (all are of one) -/
def headSz (sz : Nat) : List AV → Bool
 | [] => true
 | e :: _ => e.cells.length == sz
def slV (ρ : AOpd → AV) (sz : Nat) (lo hi : Option AOpd) : AV → Option AV
 | .slice o es => if headSz sz es then (boundsV ρ es.length es.length lo hi).map fun (l, h) => .slice (cutOwn o l h es.length) ((es.take h).drop l) else none
 | _ => none
def fldV (agg : Bool) (sz off : Nat) : AV → Option AV
 | .agg l => ldCells agg sz (l.drop off)
 | _ => none
def fadV (off : Nat) : AV → Option AV
 | .ptr id o => some (.ptr id (o + off))
 | .eref cells => some (.eref (cells.drop off))
 | _ => none
def idxV (sz : Nat) (i : AV) : AV → Option AV
 | .slice _ es => match natOf i with
  | some n => match es[n]? with
   | some e => if e.cells.length = sz then some (.eref e.cells) else none
   | none => none
  | none => none
 | .mslice id off len _ => match natOf i with
  | some n => if n < len then some (.ptr id (off + n * sz)) else none
  | none => none
 | _ => none
def idxArrV (len sz : Nat) (i : AV) : AV → Option AV
 | .ptr id off => match natOf i with
  | some n => if n < len then some (.ptr id (off + n * sz)) else none
  | none => none
 | .eref cells => match natOf i with
  | some n => if n < len then some (.eref (cells.drop (n * sz))) else none
  | none => none
 | _ => none
def strAt (i : AV) : AV → Option AV
 | .str s => match natOf i with
  | some n => (s[n]?).map fun b => .int .u8 b.toNat
  | none => none
 | _ => none
def aggAt (len : Nat) (agg : Bool) (sz : Nat) (i : AV) : AV → Option AV
 | .agg l => match natOf i with
  | some n => if n < len then ldCells agg sz (l.drop (n * sz)) else none
  | none => none
 | _ => none
def slStrV (ρ : AOpd → AV) (lo hi : Option AOpd) : AV → Option AV
 | .str s => (boundsV ρ s.length s.length lo hi).map fun (l, h) => .str ((s.take h).drop l)
 | _ => none
def slArrV (ρ : AOpd → AV) (n sz : Nat) (lo hi : Option AOpd) : AV → Option AV
 | .ptr id off => (boundsV ρ n n lo hi).map fun (l, h) => .mslice id (off + l * sz) (h - l) (n - l)
 | _ => none
def nilChk : AV → Option AV
 | .nilp => none
 | .nilfunc => none
 | v => some v
def extV (n : Nat) : AV → Option AV
 | .tuple l => l[n]?
 | _ => none
def pickV (a b : AV) : AV → Option AV
 | .bool c => some (if c then a else b)
 | _ => none
def mxV (isMax : Bool) : AV → AV → Option AV
 | .int k a, .int _ b => some (.int k (if isMax then (if b > a then b else a) else (if b < a then b else a)))
 | _, _ => none
open Classical in
/-- An operation that leaves the state alone. 'b': the first number of the region's own objects. -/
noncomputable def opV (ρ : AOpd → AV) (b : Nat) (h : Nat → Option AObj) : AOp → Option AV
 | .move x => some (ρ x)
 | .pick c x y => pickV (ρ x) (ρ y) (ρ c)
 | .alloc k zero => if h (b + k) = some (.cells zero) then some (.ptr (b + k) 0) else none
 | .build zero parts => (fillV ρ zero parts).map AV.agg
 | .buildSlice sz parts => (partsV ρ sz parts).map fun es => .slice .full es
 | .load agg sz x => ldV agg sz h (ρ x)
 | .nilCheck x => nilChk (ρ x)
 | .bin op x y => binV op (ρ x) (ρ y)
 | .binNil fn neq x y => (nilV fn (ρ x) (ρ y)).map fun r => .bool (neq != r)
 | .binEq t neq x y => (eqKey t (ρ x) (ρ y)).map fun r => .bool (neq != r)
 | .un op x => unV op (ρ x)
 | .convInt k x => match ρ x with
  | .int _ n => some (.int k (k.wrap n))
  | _ => none
 | .convRune x => match ρ x with
  | .int _ n => some (.str (Utf8.encode n).data.toList)
  | _ => none
 | .convStr x => match ρ x with
  | .str s => some (.str s)
  | _ => none
 | .convBytes x => strOfV h (ρ x)
 | .mkfunc f first captured => some (.func f (first.map ρ) (captured.map ρ))
 | .sliceStr x lo hi => slStrV ρ lo hi (ρ x)
 | .sliceSl sz x lo hi => slV ρ sz lo hi (ρ x)
 | .sliceArr n sz x lo hi => slArrV ρ n sz lo hi (ρ x)
 | .fieldAddr off x => fadV off (ρ x)
 | .field agg sz off x => fldV agg sz off (ρ x)
 | .idxAddr sz x i => idxV sz (ρ i) (ρ x)
 | .idxAddrArr len sz x i => idxArrV len sz (ρ i) (ρ x)
 | .idxStr x i => strAt (ρ i) (ρ x)
 | .idxArr len agg sz x i => aggAt len agg sz (ρ i) (ρ x)
 | .lookup t zero ok m i => keyed t (ρ i) (lookM t zero ok h (ρ i) (ρ m))
 | .extract n x => extV n (ρ x)
 | .lenOf str x => lenV str (ρ x)
 | .lenMap x => lenMapV h (ρ x)
 | .mx m x y => mxV m (ρ x) (ρ y)
 | _ => none
/-- The object that such an operation looks at. -/
def opKey (ρ : AOpd → AV) (b : Nat) : AOp → Option Nat
 | .alloc k _ => some (b + k)
 | .load _ _ x => ldKey (ρ x)
 | .convBytes x => strKey (ρ x)
 | .lookup _ _ _ m _ => mapKey (ρ m)
 | .lenMap x => mapKey (ρ x)
 | _ => none
/-- An operation that turns the state. -/
def opW (ρ : AOpd → AV) (b : Nat) (s : ASt) : AOp → Option (AV × ASt)
 | .box k x => if (ρ x).okc then some (.ptr (b + k) 0, s.set (b + k) (.cells (ρ x).cells)) else none
 | .mkmap k => some (.map (b + k), s.set (b + k) (.map [] 0))
 | .store sz a x => (stV sz s (ρ x) (ρ a)).map fun s' => (udf, s')
 | .mapUpd t m k v => keyed t (ρ k) ((updM t s (ρ k) (ρ v) (ρ m)).map fun s' => (udf, s'))
 | .mapTouch t zero m k => keyed t (ρ k) (touchM t s (ρ k) zero (ρ m))
 | .entrySet m n v => (stampM s (ρ n) (ρ v) (ρ m)).map fun s' => (udf, s')
 | .append k sz bytes x y => match ρ x, elemsV (ρ y) with
  | .slice o es, some new => appV b k sz bytes s o es new
  | _, _ => none
 | .defer f args => match ρ f with
  | .func g first captured => some (udf, { s with dfr := (g, first ++ args.map ρ ++ captured) :: s.dfr })
  | _ => none
 | _ => none
inductive Kd where
 | v | w | c
def AOp.kd : AOp → Kd
 | .box .. | .mkmap .. | .store .. | .mapUpd .. | .mapTouch .. | .entrySet .. | .append .. | .defer .. => .w
 | .call .. => .c
 | _ => .v
/-- Does a guarded operation run? -/
def wanted (e : AEnv) : Option (Nat × Bool) → Bool
 | none => true
 | some (t, want) => match e.get t with
  | .bool b => b == want
  | _ => false
abbrev Caller := Nat → List AV → ASt → Option (AV × ASt)
/-- A call's function and arguments. -/
def callV (ρ : AOpd → AV) (f : AOpd) (args : List AOpd) : Option (Nat × List AV) :=
 match ρ f with
 | .func g first captured => some (g, first ++ args.map ρ ++ captured)
 | _ => none
noncomputable def runOp (call : Caller) (b : Nat) (o : AOp) (e : AEnv) (s : ASt) : Option (AV × ASt) :=
 match o.kd with
 | .v => (opV (ev e) b s.heap o).map fun v => (v, s)
 | .w => opW (ev e) b s o
 | .c => match o with
  | .call f args => match callV (ev e) f args with
   | some (g, l) => call g l s
   | none => none
  | _ => none
noncomputable def stepOp (call : Caller) (b : Nat) (o : AOper) (e : AEnv) (s : ASt) : Option (AEnv × ASt) :=
 if wanted e o.guard then (runOp call b o.op e s).map fun (v, s') => (e.put o.dst v, s')
 else some (e.put o.dst udf, s)
/-- What is kept of a run, for the pairs whose order is open: an operation's number, the object it looked at; the heaps ahead of and behind it. -/
structure Log where
 i : Nat
 key : Option Nat
 h : Nat → Option AObj
 h' : Nat → Option AObj
noncomputable def runOps (call : Caller) (b : Nat) : List AOper → Nat → AEnv → ASt → Option (AEnv × ASt × List Log)
 | [], _, e, s => some (e, s, [])
 | o :: os, i, e, s => match stepOp call b o e s with
  | some (e', s') => match runOps call b os (i + 1) e' s' with
   | some (e'', s'', l) => some (e'', s'', { i, key := if wanted e o.guard then opKey (ev e) b o.op else none, h := s.heap, h' := s'.heap } :: l)
   | none => none
  | none => none
/-- Of each pair (a look, a turn) in open order: what is looked at is not turned. -/
def Stable (pairs : List (Nat × Nat)) (l : List Log) : Prop :=
 ∀ p ∈ pairs, ∀ r ∈ l, r.i = p.1 → ∀ k, r.key = some k → ∀ t ∈ l, t.i = p.2 → t.h k = t.h' k
/-- A region is entered: numbers for its own objects; variables that it makes. -/
def preSet (b : Nat) : List (Nat × List AV) → ASt → ASt
 | [], s => s
 | (k, z) :: ps, s => preSet b ps (s.set (b + k) (.cells z))
def ASt.enter (s : ASt) (na : Nat) (pre : List (Nat × List AV)) : ASt := preSet s.ctr pre { s with ctr := s.ctr + na }
inductive AExit where
 | normal
 | exit (id : Nat)
 | ret
open Classical in
/-- Code, with so much fuel. -/
noncomputable def arun (call : Caller) : Nat → ACode → AEnv → ASt → Option (AExit × AEnv × ASt)
 | 0, _, _, _ => none
 | n + 1, c, e, s => match c with
  | .skip => some (.normal, e, s)
  | .region na pre ops pairs => match runOps call s.ctr ops 0 e (s.enter na pre) with
   | some (e', s', l) => if Stable pairs l then some (.normal, e', s') else none
   | none => none
  | .seq a b => match arun call n a e s with
   | some (.normal, e', s') => arun call n b e' s'
   | r => r
  | .cond x a b => match ev e x with
   | .bool t => arun call n (if t then a else b) e s
   | _ => none
  | .block id b => match arun call n b e s with
   | some (.exit id', e', s') => if id' = id then some (.normal, e', s') else some (.exit id', e', s')
   | r => r
  | .loop b => match arun call n b e s with
   | some (.normal, e', s') => arun call n (.loop b) e' s'
   | r => r
  | .exit id => some (.exit id, e, s)
  | .scope b => arun call n b e s
  | .ret => some (.ret, e, s)
def resV (e : AEnv) (s : ASt) : List ARes → Option (List AV)
 | [] => some []
 | .tmp t :: r => (resV e s r).map (e.get t :: ·)
 | .cell t agg sz :: r => match ldV agg sz s.heap (e.get t), resV e s r with
  | some v, some l => some (v :: l)
  | _, _ => none
def oneOf : List AV → AV
 | [v] => v
 | l => .tuple l
/-- A deferred call's body has ended; it has deferred none itself. -/
def finish0 (fn : AFun) : Option (AExit × AEnv × ASt) → Option ASt
 | some (.exit _, _, _) => none
 | some (_, e, s) => match s.dfr, resV e s fn.results with
  | [], some _ => some s
  | _, _ => none
 | none => none
/-- The deferred calls, the last one laid first. -/
def runDfr (call : Nat → List AV → ASt → Option ASt) : List (Nat × List AV) → ASt → Option ASt
 | [], s => some s
 | (f, l) :: ds, s => match call f l s with
  | some s' => runDfr call ds s'
  | none => none
def argEnv : Nat → List AV → AEnv
 | _, [] => []
 | i, v :: l => (i, v) :: argEnv (i + 1) l
structure Ctx where
 P : Program
 code : Nat → Option AFun
 orc : Nat → Option (List AV → ASt → Option (AV × ASt))
/-- How a function's body has ended; its deferred calls, its results. -/
def finish (call : Nat → List AV → ASt → Option ASt) (fn : AFun) (old : List (Nat × List AV)) : Option (AExit × AEnv × ASt) → Option (AV × ASt)
 | some (.exit _, _, _) => none
 | some (_, e, s) => match runDfr call s.dfr { s with dfr := [] } with
  | some s' => match resV e s' fn.results with
   | some l => some (oneOf l, { s' with dfr := old })
   | none => none
  | none => none
 | none => none
/-- A deferred call. -/
noncomputable def dcall (X : Ctx) (call : Caller) (n : Nat) (f : Nat) (l : List AV) (s : ASt) : Option ASt :=
 match X.orc f, X.code f with
 | none, some fn => if l.length ≤ fn.nt then finish0 fn (arun call n fn.body (argEnv 0 l) s) else none
 | _, _ => none
noncomputable def acall (X : Ctx) : Nat → Caller
 | 0, _, _, _ => none
 | n + 1, f, args, s => match X.orc f with
  | some g => g args s
  | none => match X.code f with
   | some fn => if args.length ≤ fn.nt then finish (dcall X (acall X n) n) fn s.dfr (arun (acall X n) n fn.body (argEnv 0 args) { s with dfr := [] }) else none
   | none => none
def ofCell : Value → Option AV
 | .bool b => some (.bool b)
 | .int k n => some (.int k n)
 | .string s => some (.str s.data.toList)
 | .pointer none => some .nilp
 | .slice none 0 0 => some (.slice .full [])
 | .map none => some .nilmap
 | .nilFunc => some .nilfunc
 | .func (.func f) ⟨[]⟩ ⟨[]⟩ => some (.func f [] [])
 | _ => none
def ofCells : List Value → Option (List AV)
 | [] => some []
 | v :: l => match ofCell v, ofCells l with
  | some a, some r => some (a :: r)
  | _, _ => none
def ofVal : Value → Option AV
 | .agg cs => (ofCells cs.toList).map .agg
 | .tuple cs => (ofCells cs.toList).map .tuple
 | v => ofCell v
def zeroVal (P : Program) (t : TypeId) : Option Value := (P.info? t).bind (·.zero)
def zeroCs (P : Program) (t : TypeId) : Option (List AV) := (zeroVal P t).bind fun v => ofCells v.cells.toList
def zeroAV (P : Program) (t : TypeId) : Option AV := (zeroVal P t).bind ofVal
def sizeT (P : Program) (t : TypeId) : Option Nat := (P.info? t).map (·.size)
def bytesT (P : Program) (t : TypeId) : Option Nat := (P.info? t).map (·.bytes)
def isAggD : TypeDesc → Bool
 | .struct _ => true
 | .array _ _ => true
 | _ => false
def aggT (P : Program) (t : TypeId) : Option Bool := (P.underlying t).map isAggD
def compOpd : Operand → Option AOpd
 | .tmp t => some (.tmp t)
 | .const v => (ofVal v).map .val
 | .func f => some (.val (.func f [] []))
 | .global _ => none
def compOpds : List Operand → Option (List AOpd)
 | [] => some []
 | x :: l => match compOpd x, compOpds l with
  | some a, some r => some (a :: r)
  | _, _ => none
def compOpt : Option Operand → Option (Option AOpd)
 | none => some none
 | some x => (compOpd x).map some
/-- a type of one cell that is compared by sight -/
def cellT (P : Program) (t : TypeId) : Option KT :=
 match P.underlying t with
 | some .bool => some .bool
 | some (.int _) => some .int
 | some .string => some .str
 | _ => none
/-- fields of one cell each, one behind the other, all compared -/
def plainFields (P : Program) : List Field → Nat → Option (List KT)
 | [], _ => some []
 | f :: l, i => match cellT P f.type, plainFields P l (i + 1) with
  | some t, some ts => if f.offset = i ∧ f.name ≠ "_" then some (t :: ts) else none
  | _, _ => none
/-- how the values of a type are compared -/
def keyT (P : Program) (t : TypeId) : Option KeyT :=
 match P.underlying t with
 | some .bool => some (.one .bool)
 | some (.int _) => some (.one .int)
 | some .string => some (.one .str)
 | some (.struct fs) => match plainFields P fs.toList 0 with
  | some ts => if P.stoodInHeld t = false then some (.many ts) else none
  | none => none
 | some (.array n e) => match cellT P e with
  | some u => if sizeT P e = some 1 then some (.many (List.replicate n u)) else none
  | none => none
 | _ => none
/-- how the keys of a map are compared (no structs) -/
def mapKeyT (P : Program) (t : TypeId) : Option KeyT :=
 match P.underlying t with
 | some (.struct _) => none
 | _ => keyT P t
def structParts (P : Program) (fs : Array Field) : List (Nat × Operand) → Option (List (Nat × Nat × AOpd))
 | [] => some []
 | (i, x) :: l => match fs[i]? with
  | some f => match sizeT P f.type, compOpd x, structParts P fs l with
   | some sz, some a, some r => some ((f.offset, sz, a) :: r)
   | _, _, _ => none
  | none => none
def arrParts (sz : Nat) : List (Nat × Operand) → Option (List (Nat × Nat × AOpd))
 | [] => some []
 | (i, x) :: l => match compOpd x, arrParts sz l with
  | some a, some r => some ((i * sz, sz, a) :: r)
  | _, _ => none
/-- all elements, in their order -/
def rowParts : List (Nat × Operand) → Nat → Option (List AOpd)
 | [], _ => some []
 | (j, x) :: l, i => if j = i then match compOpd x, rowParts l (i + 1) with
   | some a, some r => some (a :: r)
   | _, _ => none
  else none
def isEq : BinOp → Option Bool
 | .eql => some false
 | .neq => some true
 | _ => none
def compBin (P : Program) (op : BinOp) (t : TypeId) (x y : AOpd) : Option AOp :=
 match P.underlying t with
 | some (.int _) => some (.bin op x y)
 | some .string => some (.bin op x y)
 | some (.func _ _ _) => (isEq op).map fun n => .binNil true n x y
 | some (.pointer _) => (isEq op).map fun n => .binNil false n x y
 | _ => match isEq op, keyT P t with
  | some n, some k => if P.eqGuardType P.depth t then none else some (.binEq k n x y)
  | _, _ => none
def compConv (P : Program) (src dst : TypeId) (x : AOpd) : Option AOp :=
 match P.underlying src, P.underlying dst with
 | some (.int _), some (.int k) => some (.convInt k x)
 | some (.int _), some .string => some (.convRune x)
 | some .string, some .string => some (.convStr x)
 | some (.slice e), some .string => match P.underlying e with
  | some (.int .u8) => some (.convBytes x)
  | _ => none
 | _, _ => none
def compLen (P : Program) (t : TypeId) (x : AOpd) : Option AOp :=
 match P.underlying t with
 | some .string => some (.lenOf true x)
 | some (.slice _) => some (.lenOf false x)
 | some (.map _ _) => some (.lenMap x)
 | some (.array n _) => some (.move (.val (.int .i64 n)))
 | _ => none
def compAppend (P : Program) (k : Nat) (t u : TypeId) (x y : AOpd) : Option AOp :=
 match P.underlying t, P.underlying u with
 | some (.slice _), some (.int _) => none
 | some (.slice e), some _ => match sizeT P e, bytesT P e, zeroVal P e with
  | some sz, some bytes, some z => if sz ≠ 0 ∧ bytes ≠ 0 ∧ z.cells.size = sz then some (.append k sz bytes x y) else none
  | _, _, _ => none
 | _, _ => none
def compCall (P : Program) (k : Nat) (c : Call) : Option AOp :=
 match c.callee with
 | .value f => match compOpd f, compOpds c.args.toList with
  | some a, some l => some (.call a l)
  | _, _ => none
 | .builtin .len => match c.args.toList, c.argTypes.toList with
  | [x], [t] => (compOpd x).bind (compLen P t)
  | _, _ => none
 | .builtin .append => match c.args.toList, c.argTypes.toList with
  | [x, y], [t, u] => match compOpd x, compOpd y with
   | some a, some b => compAppend P k t u a b
   | _, _ => none
  | _, _ => none
 | .builtin .max => match c.args.toList with
  | [x, y] => match compOpd x, compOpd y with
   | some a, some b => some (.mx true a b)
   | _, _ => none
  | _ => none
 | .builtin .min => match c.args.toList with
  | [x, y] => match compOpd x, compOpd y with
   | some a, some b => some (.mx false a b)
   | _, _ => none
  | _ => none
 | _ => none
def compSlice (P : Program) (t : TypeId) (x : AOpd) (lo hi : Option AOpd) : Option AOp :=
 match P.underlying t with
 | some .string => some (.sliceStr x lo hi)
 | some (.slice e) => (sizeT P e).map fun sz => .sliceSl sz x lo hi
 | some (.array n e) => (sizeT P e).map fun sz => .sliceArr n sz x lo hi
 | _ => none
def compOp (P : Program) (k : Nat) : Op → Option AOp
 | .move x => (compOpd x).map .move
 | .assign x => (compOpd x).map .move
 | .pick c a b => match compOpd c, compOpd a, compOpd b with
  | some c, some a, some b => some (.pick c a b)
  | _, _, _ => none
 | .alloc t => match zeroCs P t with
  | some z => some (.alloc k z)
  | none => none
 | .box t x => match compOpd x, sizeT P t with
  | some x, some _ => some (.box k x)
  | _, _ => none
 | .build t parts => match P.underlying t, zeroCs P t with
  | some (.struct fs), some z => if fs.toList.all (fun f => (sizeT P f.type).isSome) then (structParts P fs parts.toList).map fun ps => .build z ps else none
  | some (.array _ e), some z => match sizeT P e with
   | some sz => (arrParts sz parts.toList).map fun ps => .build z ps
   | none => none
  | _, _ => none
 | .buildSlice t len parts => match P.underlying t with
  | some (.slice e) => match sizeT P e, zeroVal P e with
   | some sz, some z => if parts.size = len ∧ len * sz ≤ 16777216 ∧ sz ≠ 0 ∧ z.cells.size = sz then (rowParts parts.toList 0).map fun ps => .buildSlice sz ps else none
   | _, _ => none
  | _ => none
 | .load t x => match aggT P t, sizeT P t, compOpd x with
  | some g, some sz, some x => if g || sz == 1 then some (.load g sz x) else none
  | _, _, _ => none
 | .store t a x => match sizeT P t, compOpd a, compOpd x with
  | some sz, some a, some x => some (.store sz a x)
  | _, _, _ => none
 | .nilCheck x => (compOpd x).map .nilCheck
 | .binOp op t x y _ => match compOpd x, compOpd y with
  | some x, some y => compBin P op t x y
  | _, _ => none
 | .unOp op _ x => (compOpd x).map (.un op)
 | .convert src dst x => (compOpd x).bind (compConv P src dst)
 | .makeFunc (.func f) first captured => match compOpds first.toList, compOpds captured.toList with
  | some a, some b => some (.mkfunc f a b)
  | _, _ => none
 | .makeMap _ none => some (.mkmap k)
 | .slice t x lo hi none => match compOpd x, compOpt lo, compOpt hi with
  | some x, some lo, some hi => compSlice P t x lo hi
  | _, _, _ => none
 | .fieldAddr s x f => match P.underlying s, compOpd x with
  | some (.struct fs), some x => match fs[f]? with
   | some fd => match sizeT P fd.type with
    | some sz => if sz ≠ 0 then some (.fieldAddr fd.offset x) else none
    | none => none
   | none => none
  | _, _ => none
 | .field t x f => match P.underlying t, compOpd x with
  | some (.struct fs), some x => match fs[f]? with
   | some fd => match aggT P fd.type, sizeT P fd.type with
    | some g, some sz => some (.field g sz fd.offset x)
    | _, _ => none
   | none => none
  | _, _ => none
 | .indexAddr t x i => match P.underlying t, compOpd x, compOpd i with
  | some (.slice e), some x, some i => (sizeT P e).map fun sz => .idxAddr sz x i
  | some (.array n e), some x, some i => (sizeT P e).map fun sz => .idxAddrArr n sz x i
  | _, _, _ => none
 | .index t x i => match P.underlying t, compOpd x, compOpd i with
  | some .string, some x, some i => some (.idxStr x i)
  | some (.array n e), some x, some i => match aggT P e, sizeT P e with
   | some g, some sz => some (.idxArr n g sz x i)
   | _, _ => none
  | _, _, _ => none
 | .lookup t m i ok => match P.underlying t, compOpd m, compOpd i with
  | some (.map kt et), some m, some i => match mapKeyT P kt, zeroAV P et with
   | some t, some z => some (.lookup t z ok m i)
   | _, _ => none
  | _, _, _ => none
 | .mapUpdate t m i x => match P.underlying t, compOpd m, compOpd i, compOpd x with
  | some (.map kt _), some m, some i, some x => (mapKeyT P kt).map fun t => .mapUpd t m i x
  | _, _, _, _ => none
 | .insert t m i x => match P.underlying t, compOpd m, compOpd i, compOpd x with
  | some (.map kt _), some m, some i, some x => (mapKeyT P kt).map fun t => .mapUpd t m i x
  | _, _, _, _ => none
 | .mapEntry t m i => match P.underlying t, compOpd m, compOpd i with
  | some (.map kt et), some m, some i => match mapKeyT P kt, zeroAV P et with
   | some t, some z => some (.mapTouch t z m i)
   | _, _ => none
  | _, _, _ => none
 | .entryStore _ m n x => match compOpd m, compOpd n, compOpd x with
  | some m, some n, some x => some (.entrySet m n x)
  | _, _, _ => none
 | .extract x n => (compOpd x).map (.extract n)
 | .call c => compCall P k c
 | .defer c => match c.callee with
  | .value f => match compOpd f, compOpds c.args.toList with
   | some a, some l => some (.defer a l)
   | _, _ => none
  | _ => none
 | _ => none
/-- how many objects of its own an operation makes -/
def AOp.own : AOp → Nat
 | .alloc .. => 1
 | .box .. => 1
 | .mkmap .. => 1
 | .append .. => 1
 | _ => 0
def slotOf (ops : Array Oper) (j : Nat) : Option Nat := (ops[j]?).bind (·.dst)
def compGuard (ops : Array Oper) : Option (Nat × Bool) → Option (Option (Nat × Bool))
 | none => some none
 | some (j, want) => (slotOf ops j).map fun t => some (t, want)
def dstOK (nt : Nat) : Option Nat → Bool
 | some d => decide (d < nt)
 | none => true
def compOper (P : Program) (ops : Array Oper) (nt k : Nat) (o : Oper) : Option AOper :=
 match compOp P k o.op, compGuard ops o.guard with
 | some a, some g => if dstOK nt o.dst then some ⟨o.dst, g, a⟩ else none
 | _, _ => none
def compOps (P : Program) (ops : Array Oper) (nt : Nat) : List Oper → Nat → Option (List AOper)
 | [], _ => some []
 | o :: l, k => match compOper P ops nt k o with
  | some a => (compOps P ops nt l (k + a.op.own)).map (a :: ·)
  | none => none
def ownSum : List AOper → Nat
 | [] => 0
 | o :: l => o.op.own + ownSum l
def preOf : List AOper → List (Nat × List AV)
 | [] => []
 | o :: l => match o.op with
  | .alloc k z => (k, z) :: preOf l
  | _ => preOf l
/-! ### Open orders -/
def edgesOf (o : Oper) : List Nat := (o.after.toList.filter (Region.binds .any)).map (·.on)
/-- for each operation all that must be ahead of it -/
def ancsFrom : List Oper → List (List Nat) → List (List Nat)
 | [], acc => acc
 | o :: l, acc => ancsFrom l (acc ++ [(edgesOf o ++ (edgesOf o).flatMap fun j => acc.getD j []).eraseDups])
def AOp.looks : AOp → Bool
 | .alloc .. => true
 | .load .. => true
 | .convBytes .. => true
 | .lookup .. => true
 | .lenMap .. => true
 | _ => false
def AOp.turns (o : AOp) : Bool :=
 match o.kd with
 | .v => false
 | _ => true
def anc (A : List (List Nat)) (i j : Nat) : Bool := (A.getD i []).contains j
/-- what an operation looks at -/
def AOp.opds : AOp → List AOpd
 | .move x => [x]
 | .pick c a b => [c, a, b]
 | .alloc _ _ => []
 | .box _ x => [x]
 | .build _ parts => parts.map (·.2.2)
 | .buildSlice _ parts => parts
 | .load _ _ x => [x]
 | .store _ a x => [a, x]
 | .nilCheck x => [x]
 | .bin _ x y => [x, y]
 | .binNil _ _ x y => [x, y]
 | .binEq _ _ x y => [x, y]
 | .un _ x => [x]
 | .convInt _ x => [x]
 | .convRune x => [x]
 | .convStr x => [x]
 | .convBytes x => [x]
 | .mkfunc _ first captured => first ++ captured
 | .mkmap _ => []
 | .sliceStr x lo hi => x :: (lo.toList ++ hi.toList)
 | .sliceSl _ x lo hi => x :: (lo.toList ++ hi.toList)
 | .sliceArr _ _ x lo hi => x :: (lo.toList ++ hi.toList)
 | .fieldAddr _ x => [x]
 | .field _ _ _ x => [x]
 | .idxAddr _ x i => [x, i]
 | .idxAddrArr _ _ x i => [x, i]
 | .idxStr x i => [x, i]
 | .idxArr _ _ _ x i => [x, i]
 | .lookup _ _ _ m i => [m, i]
 | .mapUpd _ m k v => [m, k, v]
 | .mapTouch _ _ m k => [m, k]
 | .entrySet m n v => [m, n, v]
 | .extract _ x => [x]
 | .call f args => f :: args
 | .append _ _ _ s x => [s, x]
 | .lenOf _ x => [x]
 | .lenMap x => [x]
 | .mx _ x y => [x, y]
 | .defer f args => f :: args
def tmpOf : AOpd → Option Nat
 | .tmp t => some t
 | .val _ => none
def AOper.reads (o : AOper) : List Nat := o.op.opds.filterMap tmpOf ++ match o.guard with
 | some (t, _) => [t]
 | none => []
/-- what two operations (i ahead of j in the text) must be to one another -/
def pairOK (A : List (List Nat)) (i j : Nat) (a b : AOper) : Bool :=
 (match a.dst with
  | some d => (!b.reads.contains d || anc A j i) && b.dst != some d
  | none => true)
 && (match b.dst with
  | some d => !a.reads.contains d || anc A j i
  | none => true)
 && (!(a.op.turns && b.op.turns) || anc A j i)
def drawOK (A : List (List Nat)) (ops : List Oper) (l : List AOper) : Bool :=
 (List.range l.length).all fun j => (match ops[j]? with
   | some o => (edgesOf o).all (fun e => decide (e < j))
   | none => false) &&
  (List.range j).all fun i => match l[i]?, l[j]? with
   | some a, some b => pairOK A i j a b
   | _, _ => false
/-- a look and a turn, in open order -/
def openPairs (A : List (List Nat)) (l : List AOper) : List (Nat × Nat) :=
 (List.range l.length).flatMap fun i => (List.range l.length).filterMap fun j =>
  match l[i]?, l[j]? with
  | some a, some b => if a.op.looks && b.op.turns && !anc A i j && !anc A j i then some (i, j) else none
  | _, _ => none
/-- the number, in its region, of the object that an operation makes -/
def AOp.num : AOp → Option Nat
 | .alloc k _ => some k
 | .box k _ => some k
 | .mkmap k => some k
 | .append k _ _ _ _ => some k
 | _ => none
def numsOK : List AOper → Nat → Bool
 | [], _ => true
 | o :: l, k => (match o.op.num with
   | some i => i == k
   | none => true) && numsOK l (k + o.op.own)
def compRegion (P : Program) (nt : Nat) (ops : Array Oper) (draw : Bool) : Option ACode :=
 match compOps P ops nt ops.toList 0 with
 | some l =>
  if numsOK l 0 = false then none else
  if draw then
   let A := ancsFrom ops.toList []
   if drawOK A ops.toList l then some (.region (ownSum l) (preOf l) l (openPairs A l)) else none
  else some (.region (ownSum l) (preOf l) l [])
 | none => none
def compile (P : Program) (nt : Nat) : Code → Option ACode
 | .skip => some .skip
 | .region _ ops draw => compRegion P nt ops draw
 | .seq a b => match compile P nt a, compile P nt b with
  | some a, some b => some (.seq a b)
  | _, _ => none
 | .cond x a b => match compOpd x, compile P nt a, compile P nt b with
  | some x, some a, some b => some (.cond x a b)
  | _, _, _ => none
 | .block id b => (compile P nt b).map (.block id)
 | .loop b => (compile P nt b).map .loop
 | .exit id => some (.exit id)
 | .scope b => (compile P nt b).map .scope
 | .label _ => some .skip
 | .ret => some .ret
 | _ => none
def compRes (P : Program) : List ResultVar → Option (List ARes)
 | [] => some []
 | .tmp t :: l => (compRes P l).map (.tmp t :: ·)
 | .cell t ty :: l => match aggT P ty, sizeT P ty, compRes P l with
  | some g, some sz, some r => if g || sz == 1 then some (.cell t g sz :: r) else none
  | _, _, _ => none
def compFn (P : Program) (fn : Func) : Option AFun :=
 match fn.body with
 | some c => match compile P fn.ntmps c, compRes P fn.results.toList with
  | some b, some r => if fn.name == "runtime.NumGoroutine" then none else some ⟨fn.ntmps, r, b⟩
  | _, _ => none
 | none => none
end Go.Proofs.YtdohdncgjendkaaDoor.Abs
set_option linter.unusedVariables false
namespace Go.Proofs.YtdohdncgjendkaaDoor.Abs
open Go.RowKit
/-- Which block an object is; cells that never turn any more; rows that are appended to: their number, an element's size, their capacity. -/
structure Gh where
 ρ : Nat → Option Nat
 C : Addr → Option Value
 I : Nat → Option (Nat × Nat × Nat)
structure Gh.Le (G G' : Gh) : Prop where
 ρ : ∀ i b, G.ρ i = some b → G'.ρ i = some b
 C : ∀ a v, G.C a = some v → G'.C a = some v
 I : ∀ b x, G.I b = some x → G'.I b = some x
theorem Gh.Le.refl (G : Gh) : G.Le G := ⟨fun _ _ h => h, fun _ _ h => h, fun _ _ h => h⟩
theorem Gh.Le.trans {G G' G'' : Gh} (h : G.Le G') (k : G'.Le G'') : G.Le G'' :=
 ⟨fun _ _ x => k.ρ _ _ (h.ρ _ _ x), fun _ _ x => k.C _ _ (h.C _ _ x), fun _ _ x => k.I _ _ (h.I _ _ x)⟩
def SlOK (G : Gh) (sz : Nat) : Own → Nat → Option Addr → Nat → Prop
 | .full, n, _, cap => cap = n
 | .foreign, n, _, cap => n ≤ cap
 | .own id, n, A, cap => n ≤ cap ∧ ∃ b, A = some ⟨b, 0, none⟩ ∧ G.I b = some (id, sz, cap)
theorem SlOK.mono {G G' : Gh} (h : G.Le G') {sz : Nat} {o : Own} {n : Nat} {A : Option Addr} {cap : Nat} (k : SlOK G sz o n A cap) : SlOK G' sz o n A cap := by
 cases o with
 | full => exact k
 | foreign => exact k
 | own id => obtain ⟨h1, b, h2, h3⟩ := k; exact ⟨h1, b, h2, h.I _ _ h3⟩
theorem SlOK.le {G : Gh} {sz : Nat} {o : Own} {n : Nat} {A : Option Addr} {cap : Nat} (k : SlOK G sz o n A cap) : n ≤ cap := by
 cases o with
 | full => exact Nat.le_of_eq k.symm
 | foreign => exact k
 | own id => exact k.1
/-- A number that is no object's yet. -/
def Gh.Fresh (G : Gh) (i : Nat) : Prop := G.ρ i = none ∧ ∀ b x, G.I b = some x → x.1 ≠ i
/-- Numbers below n that are no object's stay so (but for one). -/
def Gh.Keep (G : Gh) (n : Nat) (own : Option Nat) (G' : Gh) : Prop := ∀ i, i < n → own ≠ some i → G.Fresh i → G'.Fresh i
theorem Gh.Keep.same {G G' : Gh} (n : Nat) (own : Option Nat) (h1 : G'.ρ = G.ρ) (h2 : G'.I = G.I) : G.Keep n own G' := fun i _ _ hf => ⟨by rw [h1]; exact hf.1, by rw [h2]; exact hf.2⟩
theorem Gh.Keep.refl (G : Gh) (n : Nat) (own : Option Nat) : G.Keep n own G := .same n own rfl rfl
/-- A value of the abstract machine, and one of the model. -/
inductive VR (G : Gh) : AV → Value → Prop
 | bool (b : Bool) : VR G (.bool b) (.bool b)
 | int (k : IntKind) (n : Int) : VR G (.int k n) (.int k n)
 | str (s : List UInt8) : VR G (.str s) (.string ⟨s.toArray⟩)
 | nilp : VR G .nilp (.pointer none)
 | ptr {id off b : Nat} : G.ρ id = some b → VR G (.ptr id off) (.pointer (some ⟨b, off, none⟩))
 | eref {cells : List AV} {ad : Addr} (cv : Nat → Value) : (∀ j, j < cells.length → G.C (ad.add j) = some (cv j)) →
   (∀ (j : Nat) (a : AV), cells[j]? = some a → VR G a (cv j)) → (∀ x ∈ cells, x.isCell = true) → VR G (.eref cells) (.pointer (some ad))
 | slice {o : Own} {es : List AV} {A : Option Addr} {n cap : Nat} (sz : Nat) (cv : Nat → Value) : n = es.length → SlOK G sz o n A cap → (∀ e ∈ es, e.okc = true ∧ e.cells.length = sz ∧ ∀ x ∈ e.cells, x.isCell = true) →
   (0 < es.length → A.isSome = true) → (∀ ad, A = some ad → ∀ j, j < es.length * sz → G.C (ad.add j) = some (cv j)) →
   (∀ (i : Nat) (e : AV) (j : Nat) (a : AV), es[i]? = some e → e.cells[j]? = some a → VR G a (cv (i * sz + j))) → VR G (.slice o es) (.slice A n cap)
 | mslice {id off len cap b off' : Nat} : G.ρ id = some b → (cap ≠ 0 → off' = off) → len ≤ cap → VR G (.mslice id off len cap) (.slice (some ⟨b, off', none⟩) len cap)
 | map {id b : Nat} : G.ρ id = some b → VR G (.map id) (.map (some b))
 | nilmap : VR G .nilmap (.map none)
 | func {f : Nat} {first captured : List AV} (a b : Array Value) : a.size = first.length → (∀ (j : Nat) (x : AV) (y : Value), first[j]? = some x → a[j]? = some y → VR G x y) →
   b.size = captured.length → (∀ (j : Nat) (x : AV) (y : Value), captured[j]? = some x → b[j]? = some y → VR G x y) → VR G (.func f first captured) (.func (.func f) a b)
 | nilfunc : VR G .nilfunc .nilFunc
 | agg {l : List AV} (a : Array Value) : a.size = l.length → (∀ (j : Nat) (x : AV) (y : Value), l[j]? = some x → a[j]? = some y → VR G x y) → (∀ x ∈ l, x.isCell = true) → VR G (.agg l) (.agg a)
 | tuple {l : List AV} (a : Array Value) : a.size = l.length → (∀ (j : Nat) (x : AV) (y : Value), l[j]? = some x → a[j]? = some y → VR G x y) → VR G (.tuple l) (.tuple a)
theorem VR.mono {G G' : Gh} (h : G.Le G') {v : AV} {c : Value} (k : VR G v c) : VR G' v c := by
 induction k with
 | bool b => exact .bool b
 | int k n => exact .int k n
 | str s => exact .str s
 | nilp => exact .nilp
 | ptr h1 => exact .ptr (h.ρ _ _ h1)
 | eref cv h1 _ h3 ih => exact .eref cv (fun j hj => h.C _ _ (h1 j hj)) ih h3
 | slice sz cv h0 h1 h2 h3 h4 _ ih => exact .slice sz cv h0 (h1.mono h) h2 h3 (fun ad e j hj => h.C _ _ (h4 ad e j hj)) ih
 | mslice h1 h2 h3 => exact .mslice (h.ρ _ _ h1) h2 h3
 | map h1 => exact .map (h.ρ _ _ h1)
 | nilmap => exact .nilmap
 | func a b h1 _ h3 _ ih1 ih2 => exact .func a b h1 ih1 h3 ih2
 | nilfunc => exact .nilfunc
 | agg a h1 _ h3 ih => exact .agg a h1 ih h3
 | tuple a h1 _ ih => exact .tuple a h1 ih
/-- Lists of values, one by one. -/
def VRs (G : Gh) (l : List AV) (c : List Value) : Prop := c.length = l.length ∧ ∀ (j : Nat) (x : AV) (y : Value), l[j]? = some x → c[j]? = some y → VR G x y
theorem VRs.mono {G G' : Gh} (h : G.Le G') {l : List AV} {c : List Value} (k : VRs G l c) : VRs G' l c := ⟨k.1, fun j x y a b => (k.2 j x y a b).mono h⟩
theorem VRs.nil (G : Gh) : VRs G [] [] := ⟨rfl, fun j x y h => by simp at h⟩
theorem VRs.cons {G : Gh} {x : AV} {y : Value} {l : List AV} {c : List Value} (h : VR G x y) (k : VRs G l c) : VRs G (x :: l) (y :: c) := by
 refine ⟨by simp [k.1], fun j a b ha hb => ?_⟩
 cases j with
 | zero => simp at ha hb; subst ha hb; exact h
 | succ j => exact k.2 j a b (by simpa using ha) (by simpa using hb)
theorem VRs.head {G : Gh} {x : AV} {y : Value} {l : List AV} {c : List Value} (k : VRs G (x :: l) (y :: c)) : VR G x y := k.2 0 x y rfl rfl
theorem VRs.tail {G : Gh} {x : AV} {y : Value} {l : List AV} {c : List Value} (k : VRs G (x :: l) (y :: c)) : VRs G l c :=
 ⟨by have := k.1; simpa using this, fun j a b ha hb => k.2 (j + 1) a b (by simpa using ha) (by simpa using hb)⟩
theorem VRs.cons_inv {G : Gh} {x : AV} {l : List AV} {c : List Value} (k : VRs G (x :: l) c) : ∃ y c', c = y :: c' ∧ VR G x y ∧ VRs G l c' := by
 cases c with
 | nil => have := k.1; simp at this
 | cons y c => exact ⟨y, c, rfl, k.head, k.tail⟩
theorem VRs.nil_inv {G : Gh} {c : List Value} (k : VRs G [] c) : c = [] := by have := k.1; simpa using this
theorem VRs.append {G : Gh} {l m : List AV} {c d : List Value} (h : VRs G l c) (k : VRs G m d) : VRs G (l ++ m) (c ++ d) := by
 refine ⟨by simp [h.1, k.1], fun j x y hx hy => ?_⟩
 by_cases hj : j < l.length
 ·rw [List.getElem?_append_left hj] at hx
  rw [List.getElem?_append_left (by rw [h.1]; exact hj)] at hy
  exact h.2 j x y hx hy
 ·rw [List.getElem?_append_right (by omega)] at hx
  rw [List.getElem?_append_right (by rw [h.1]; omega), h.1] at hy
  exact k.2 _ x y hx hy
theorem VRs.take {G : Gh} {l : List AV} {c : List Value} (h : VRs G l c) (n : Nat) : VRs G (l.take n) (c.take n) := by
 refine ⟨by simp [h.1], fun j x y hx hy => ?_⟩
 rw [List.getElem?_take] at hx hy
 split at hx
 ·rename_i hj; rw [if_pos hj] at hy; exact h.2 j x y hx hy
 ·simp at hx
theorem VRs.drop {G : Gh} {l : List AV} {c : List Value} (h : VRs G l c) (n : Nat) : VRs G (l.drop n) (c.drop n) := by
 refine ⟨by simp [h.1], fun j x y hx hy => ?_⟩
 rw [List.getElem?_drop] at hx hy
 exact h.2 _ x y hx hy
theorem VRs.get {G : Gh} {l : List AV} {c : List Value} (h : VRs G l c) {j : Nat} {x : AV} (hx : l[j]? = some x) : ∃ y, c[j]? = some y ∧ VR G x y := by
 have hj : j < l.length := by
  rcases Nat.lt_or_ge j l.length with h' | h'
  ·exact h'
  ·rw [List.getElem?_eq_none h'] at hx; simp at hx
 have hj' : j < c.length := by rw [h.1]; exact hj
 exact ⟨c[j], List.getElem?_eq_getElem hj', h.2 j x _ hx (List.getElem?_eq_getElem hj')⟩
theorem VR.agg' {G : Gh} {l : List AV} {a : Array Value} (h : VRs G l a.toList) (hc : ∀ x ∈ l, x.isCell = true) : VR G (.agg l) (.agg a) :=
 .agg a (by have := h.1; simpa using this) (fun j x y hx hy => h.2 j x y hx (by simpa using hy)) hc
theorem VR.tuple' {G : Gh} {l : List AV} {a : Array Value} (h : VRs G l a.toList) : VR G (.tuple l) (.tuple a) :=
 .tuple a (by have := h.1; simpa using this) (fun j x y hx hy => h.2 j x y hx (by simpa using hy))
theorem VR.agg_inv {G : Gh} {l : List AV} {c : Value} (h : VR G (.agg l) c) : ∃ a : Array Value, c = .agg a ∧ VRs G l a.toList ∧ ∀ x ∈ l, x.isCell = true := by
 cases h with
 | agg a h1 h2 h3 => exact ⟨a, rfl, ⟨by simpa using h1, fun j x y hx hy => h2 j x y hx (by simpa using hy)⟩, h3⟩
theorem VR.tuple_inv {G : Gh} {l : List AV} {c : Value} (h : VR G (.tuple l) c) : ∃ a : Array Value, c = .tuple a ∧ VRs G l a.toList := by
 cases h with
 | tuple a h1 h2 => exact ⟨a, rfl, by simpa using h1, fun j x y hx hy => h2 j x y hx (by simpa using hy)⟩
theorem VR.func_inv {G : Gh} {f : Nat} {first captured : List AV} {c : Value} (h : VR G (.func f first captured) c) :
  ∃ a b : Array Value, c = .func (.func f) a b ∧ VRs G first a.toList ∧ VRs G captured b.toList := by
 cases h with
 | func a b h1 h2 h3 h4 => exact ⟨a, b, rfl, ⟨by simpa using h1, fun j x y hx hy => h2 j x y hx (by simpa using hy)⟩, ⟨by simpa using h3, fun j x y hx hy => h4 j x y hx (by simpa using hy)⟩⟩
theorem VR.func' {G : Gh} {f : Nat} {first captured : List AV} {a b : Array Value} (h : VRs G first a.toList) (k : VRs G captured b.toList) : VR G (.func f first captured) (.func (.func f) a b) :=
 .func a b (by simpa using h.1) (fun j x y hx hy => h.2 j x y hx (by simpa using hy)) (by simpa using k.1) (fun j x y hx hy => k.2 j x y hx (by simpa using hy))
theorem VR.udf_ {G : Gh} : VR G udf undef := .tuple #[] rfl (fun j x y h => by simp at h)
/-- The cells of a value. -/
theorem VR.cells_ {G : Gh} {v : AV} {c : Value} (h : VR G v c) : VRs G v.cells c.cells.toList := by
 cases h with
 | agg a h1 h2 _ => exact ⟨by simpa [AV.cells, Value.cells] using h1, fun j x y hx hy => h2 j x y (by simpa [AV.cells] using hx) (by simpa [Value.cells] using hy)⟩
 | bool b => exact VRs.cons (.bool b) (VRs.nil G)
 | int k n => exact VRs.cons (.int k n) (VRs.nil G)
 | str s => exact VRs.cons (.str s) (VRs.nil G)
 | nilp => exact VRs.cons .nilp (VRs.nil G)
 | ptr h1 => exact VRs.cons (.ptr h1) (VRs.nil G)
 | eref cv h1 h2 h3 => exact VRs.cons (.eref cv h1 h2 h3) (VRs.nil G)
 | slice sz cv h0 h1 h2 h3 h4 h5 => exact VRs.cons (.slice sz cv h0 h1 h2 h3 h4 h5) (VRs.nil G)
 | mslice h1 h2 h3 => exact VRs.cons (.mslice h1 h2 h3) (VRs.nil G)
 | map h1 => exact VRs.cons (.map h1) (VRs.nil G)
 | nilmap => exact VRs.cons .nilmap (VRs.nil G)
 | func a b h1 h2 h3 h4 => exact VRs.cons (.func a b h1 h2 h3 h4) (VRs.nil G)
 | nilfunc => exact VRs.cons .nilfunc (VRs.nil G)
 | tuple a h1 h2 => exact VRs.cons (.tuple a h1 h2) (VRs.nil G)
/-- The cells of a value are single ones. -/
theorem VR.cells_ok {G : Gh} {v : AV} {c : Value} (h : VR G v c) (ho : v.okc = true) : ∀ x ∈ v.cells, x.isCell = true := by
 cases h with
 | agg a h1 h2 h3 => exact h3
 | tuple a h1 h2 => simp [AV.okc] at ho
 | _ => intro x hx; simp only [AV.cells, List.mem_singleton] at hx; subst hx; rfl
theorem VR.one {G : Gh} {v : AV} {c : Value} (h : VR G v c) (ho : v.isCell = true) : c.oneCell' = true := by
 cases h with
 | agg a h1 h2 h3 => simp [AV.isCell] at ho
 | tuple a h1 h2 => simp [AV.isCell] at ho
 | _ => rfl
def EntR (G : Gh) (es : List (AV × AV × Nat)) (ces : List MapEntry) : Prop :=
 ces.length = es.length ∧ ∀ (j : Nat) (k v : AV) (n : Nat) (y : MapEntry), es[j]? = some (k, v, n) → ces[j]? = some y → VR G k y.key ∧ VR G v y.val ∧ y.born = n
theorem EntR.mono {G G' : Gh} (h : G.Le G') {es : List (AV × AV × Nat)} {ces : List MapEntry} (k : EntR G es ces) : EntR G' es ces :=
 ⟨k.1, fun j a b n y h1 h2 => let ⟨p, q, r⟩ := k.2 j a b n y h1 h2; ⟨p.mono h, q.mono h, r⟩⟩
/-- Deferred calls. -/
def DfrR (G : Gh) : List (Nat × List AV) → List Deferred → Prop
 | [], [] => True
 | (f, l) :: r, d :: ds => (∃ cap, d.target = .fn (.func f) cap ∧ VRs G l (d.args ++ cap).toList) ∧ DfrR G r ds
 | _, _ => False
theorem DfrR.mono {G G' : Gh} (h : G.Le G') : ∀ {l : List (Nat × List AV)} {ds : List Deferred}, DfrR G l ds → DfrR G' l ds
 | [], [], _ => trivial
 | (f, l) :: r, d :: ds, ⟨⟨cap, h1, h2⟩, h3⟩ => ⟨⟨cap, h1, h2.mono h⟩, DfrR.mono h h3⟩
 | [], _ :: _, k => k.elim
 | _ :: _, [], k => k.elim
/-- An object, and a block. -/
inductive ObjR (G : Gh) : AObj → Obj → Prop
 | cells {l : List AV} {cs : Array Value} {t : TypeId} : VRs G l cs.toList → (∀ x ∈ l, x.isCell = true) → ObjR G (.cells l) (.cells cs t (0, 0))
 | map {es : List (AV × AV × Nat)} {ces : Array MapEntry} {c : Nat} : EntR G es ces.toList → ObjR G (.map es c) (.map ces c)
theorem ObjR.mono {G G' : Gh} (h : G.Le G') {o : AObj} {b : Obj} (k : ObjR G o b) : ObjR G' o b := by
 cases k with
 | cells h1 h2 => exact .cells (h1.mono h) h2
 | map h1 => exact .map (h1.mono h)
structure Sim (B : Nat) (w0 : World) (G : Gh) (s : ASt) (w : World) : Prop where
 below : Below B w0 w
 hB : B ≤ w0.heap.size
 num : ∀ i b, G.ρ i = some b → i < s.ctr
 inj : ∀ i j b, G.ρ i = some b → G.ρ j = some b → i = j
 obj : ∀ i b, G.ρ i = some b → B ≤ b ∧ G.I b = none ∧ (∀ a, a.block = b → G.C a = none) ∧ ∃ o x, s.heap i = some o ∧ w.heap[b]? = some x ∧ ObjR G o x
 comm : ∀ a v, G.C a = some v → w.cell? a = some v
 own : ∀ b i sz cap, G.I b = some (i, sz, cap) → B ≤ b ∧ i < s.ctr ∧ (∃ m, s.heap i = some (.arr m sz) ∧ ∀ a, a.block = b → (G.C a).isSome = true → a.off < m * sz) ∧
  ∃ cs t, w.heap[b]? = some (.cells cs t (0, 0)) ∧ cs.size = cap * sz
theorem lt_of_get {α : Type} {a : Array α} {i : Nat} {x : α} (h : a[i]? = some x) : i < a.size := by
 rcases Nat.lt_or_ge i a.size with h' | h'
 ·exact h'
 ·simp [Array.getElem?_eq_none h'] at h
section
variable {B : Nat} {w0 : World} {G : Gh} {s : ASt} {w : World}
theorem Sim.le (h : Sim B w0 G s w) : B ≤ w.heap.size := Nat.le_trans h.hB h.below.size
theorem Sim.blk_lt (h : Sim B w0 G s w) {i b : Nat} (hi : G.ρ i = some b) : b < w.heap.size := by
 obtain ⟨_, _, _, o, x, _, hx, _⟩ := h.obj i b hi
 exact lt_of_get hx
theorem Sim.com_lt (h : Sim B w0 G s w) {a : Addr} {v : Value} (hi : G.C a = some v) : a.block < w.heap.size := World.block_lt_of_cell? w a (h.comm a v hi)
theorem Sim.own_lt (h : Sim B w0 G s w) {b : Nat} {x : Nat × Nat × Nat} (hi : G.I b = some x) : b < w.heap.size := by
 obtain ⟨i, sz, cap⟩ := x
 obtain ⟨_, _, _, cs, t, hx, _⟩ := h.own b i sz cap hi
 exact lt_of_get hx
/-- A draw. -/
theorem Sim.drew (h : Sim B w0 G s w) : Sim B w0 G s { w with drawn := w.drawn + 1 } :=
 ⟨⟨h.below.os, h.below.tape, h.below.output, h.below.size, h.below.block⟩, h.hB, h.num, h.inj, h.obj, h.comm, h.own⟩
/-- Only what is kept of a state matters. -/
theorem Sim.state (h : Sim B w0 G s w) {s' : ASt} (hc : s.ctr ≤ s'.ctr) (hh : ∀ i, i < s.ctr → ¬ G.Fresh i → s'.heap i = s.heap i) : Sim B w0 G s' w := by
 refine ⟨h.below, h.hB, fun i b hi => Nat.lt_of_lt_of_le (h.num i b hi) hc, h.inj, fun i b hi => ?_, h.comm, fun b i sz cap hi => ?_⟩
 ·obtain ⟨h1, h2, h3, o, x, ho, hx, hr⟩ := h.obj i b hi
  exact ⟨h1, h2, h3, o, x, by rw [hh i (h.num i b hi) (fun hf => by have := hf.1; rw [hi] at this; cases this)]; exact ho, hx, hr⟩
 ·obtain ⟨h1, h2, ⟨m, h3, h4⟩, h5⟩ := h.own b i sz cap hi
  exact ⟨h1, Nat.lt_of_lt_of_le h2 hc, ⟨m, by rw [hh i h2 (fun hf => hf.2 b _ hi rfl)]; exact h3, h4⟩, h5⟩
theorem Sim.set_fresh (h : Sim B w0 G s w) {i : Nat} (hf : G.Fresh i) (o : AObj) : Sim B w0 G (s.set i o) w :=
 h.state (Nat.le_refl _) fun j _ hj => by simp only [ASt.set]; rw [if_neg (by rintro rfl; exact hj hf)]
/-- Numbers that are none's are no objects. -/
theorem Sim.fresh_ge (h : Sim B w0 G s w) {i : Nat} (hi : s.ctr ≤ i) : G.Fresh i := by
 refine ⟨?_, fun b x hb e => ?_⟩
 ·cases hρ : G.ρ i with
  | none => rfl
  | some b => have := h.num i b hρ; omega
 ·obtain ⟨i', sz, cap⟩ := x
  have := (h.own b i' sz cap hb).2.1
  simp only at e; omega
theorem heap_push_lt (w : World) (o : Obj) {k : Nat} (h : k < w.heap.size) : (w.heap.push o)[k]? = w.heap[k]? := by
 rw [Array.getElem?_push, if_neg (by omega)]
theorem heap_push_eq (w : World) (o : Obj) : (w.heap.push o)[w.heap.size]? = some o := by
 rw [Array.getElem?_push, if_pos rfl]
theorem cell_push_lt (w : World) (o : Obj) {a : Addr} (h : a.block < w.heap.size) : ({ w with heap := w.heap.push o } : World).cell? a = w.cell? a := by
 simp only [World.cell?, heap_push_lt w o h]
theorem Below.push (h : Below B w0 w) (hB : B ≤ w.heap.size) (o : Obj) : Below B w0 { w with heap := w.heap.push o } := by
 refine ⟨h.os, h.tape, h.output, ?_, fun k hk => ?_⟩
 ·simp only [Array.size_push]; have := h.size; omega
 ·show (w.heap.push o)[k]? = _
  rw [heap_push_lt w o (by omega)]; exact h.block k hk
/-- A new object of one's own. -/
theorem Sim.fresh (h : Sim B w0 G s w) (i : Nat) (hi : i < s.ctr) (hn : G.ρ i = none) (ob : AObj) (o : Obj)
  (hs : s.heap i = some ob) (hr : ObjR G ob o) : ∃ G', G.Le G' ∧ Sim B w0 G' s { w with heap := w.heap.push o } ∧ G'.ρ i = some w.heap.size ∧ (∀ j, j ≠ i → G'.ρ j = G.ρ j) ∧ G'.I = G.I := by
 let G' : Gh := { G with ρ := fun j => if j = i then some w.heap.size else G.ρ j }
 have hle : G.Le G' := ⟨fun j b hj => by
  show (if j = i then _ else _) = _
  rw [if_neg (by rintro rfl; rw [hn] at hj; cases hj)]; exact hj, fun _ _ x => x, fun _ _ x => x⟩
 refine ⟨G', hle, ⟨Below.push h.below h.le o, h.hB, fun j b hj => ?_, fun j k b hj hk => ?_, fun j b hj => ?_, fun a v ha => ?_, fun b j sz cap hb => ?_⟩, by simp [G'], fun j hj => by simp [G', hj], rfl⟩
 ·by_cases e : j = i
  ·subst e; exact hi
  ·simp only [G', if_neg e] at hj; exact h.num j b hj
 ·by_cases e : j = i
  ·by_cases e' : k = i
   ·rw [e, e']
   ·simp only [G', if_pos e, if_neg e'] at hj hk
    injection hj with hj; subst hj
    exact absurd (h.blk_lt hk) (by omega)
  ·by_cases e' : k = i
   ·simp only [G', if_neg e, if_pos e'] at hj hk
    injection hk with hk; subst hk
    exact absurd (h.blk_lt hj) (by omega)
   ·simp only [G', if_neg e, if_neg e'] at hj hk
    exact h.inj j k b hj hk
 ·by_cases e : j = i
  ·subst e
   simp only [G', if_true] at hj
   injection hj with hj; subst hj
   refine ⟨h.le, ?_, ?_, ob, o, hs, heap_push_eq w o, hr.mono hle⟩
   ·cases hI : G.I w.heap.size with
    | none => rfl
    | some x => exact absurd (h.own_lt hI) (by omega)
   ·intro a ha
    cases hC : G.C a with
    | none => rfl
    | some v => exact absurd (h.com_lt hC) (by omega)
  ·simp only [G', if_neg e] at hj
   obtain ⟨h1, h2, h3, o', x, ho, hx, hr'⟩ := h.obj j b hj
   exact ⟨h1, h2, h3, o', x, ho, by rw [heap_push_lt w o (h.blk_lt hj)]; exact hx, hr'.mono hle⟩
 ·rw [cell_push_lt w o (h.com_lt ha)]; exact h.comm a v ha
 ·obtain ⟨h1, h2, h3, cs, t, hx, h5⟩ := h.own b j sz cap hb
  exact ⟨h1, h2, h3, cs, t, by rw [heap_push_lt w o (h.own_lt hb)]; exact hx, h5⟩
/-- New cells that never turn. -/
theorem Sim.commit (h : Sim B w0 G s w) (cs : Array Value) (t : TypeId) (fr : Nat × Nat) :
  ∃ G', G.Le G' ∧ Sim B w0 G' s { w with heap := w.heap.push (.cells cs t fr) } ∧ (∀ j v, cs[j]? = some v → G'.C ⟨w.heap.size, j, none⟩ = some v) ∧ G'.ρ = G.ρ ∧ G'.I = G.I := by
 let G' : Gh := { G with C := fun a => if a.block = w.heap.size then (if a.spot.isSome then none else cs[a.off]?) else G.C a }
 have hnone : ∀ a : Addr, a.block = w.heap.size → G.C a = none := fun a ha => by
  cases hC : G.C a with
  | none => rfl
  | some v => exact absurd (h.com_lt hC) (by omega)
 have hle : G.Le G' := ⟨fun _ _ x => x, fun a v ha => by
  show (if a.block = w.heap.size then _ else _) = _
  rw [if_neg (by intro e; rw [hnone a e] at ha; cases ha)]; exact ha, fun _ _ x => x⟩
 refine ⟨G', hle, ⟨Below.push h.below h.le _, h.hB, h.num, h.inj, fun j b hj => ?_, fun a v ha => ?_, fun b j sz cap hb => ?_⟩, fun j v hj => by simp [G', hj], rfl, rfl⟩
 ·obtain ⟨h1, h2, h3, o', x, ho, hx, hr'⟩ := h.obj j b hj
  have := h.blk_lt hj
  refine ⟨h1, h2, fun a ha => ?_, o', x, ho, by rw [heap_push_lt w _ (h.blk_lt hj)]; exact hx, hr'.mono hle⟩
  simp only [G']; rw [if_neg (by omega)]; exact h3 a ha
 ·simp only [G'] at ha
  by_cases e : a.block = w.heap.size
  ·rw [if_pos e] at ha
   split at ha
   ·cases ha
   ·rename_i hs'
    simp only [World.cell?, e, heap_push_eq]
    rw [if_neg hs']; exact ha
  ·rw [if_neg e] at ha
   rw [cell_push_lt w _ (h.com_lt ha)]; exact h.comm a v ha
 ·obtain ⟨h1, h2, ⟨m, h3, h4⟩, cs', t', hx, h5⟩ := h.own b j sz cap hb
  have := h.own_lt hb
  refine ⟨h1, h2, ⟨m, h3, fun a ha hs' => h4 a ha ?_⟩, cs', t', by rw [heap_push_lt w _ (h.own_lt hb)]; exact hx, h5⟩
  simp only [G'] at hs'; rw [if_neg (by omega)] at hs'; exact hs'
/-- A block of one's own is another one. -/
theorem Sim.turn (h : Sim B w0 G s w) (i b : Nat) (hi : G.ρ i = some b) (ob : AObj) (o : Obj) (hr : ObjR G ob o) :
  Sim B w0 G (s.set i ob) { w with heap := w.heap.setIfInBounds b o } := by
 have hb := h.blk_lt hi
 obtain ⟨hB1, hI1, hC1, o1, x1, ho1, hx1, hr1⟩ := h.obj i b hi
 have hne : ∀ k, k ≠ b → (w.heap.setIfInBounds b o)[k]? = w.heap[k]? := fun k hk => by
  rw [Array.getElem?_setIfInBounds, if_neg (by omega)]
 have heq : (w.heap.setIfInBounds b o)[b]? = some o := by
  rw [Array.getElem?_setIfInBounds, if_pos rfl, if_pos hb]
 refine ⟨⟨h.below.os, h.below.tape, h.below.output, ?_, fun k hk => ?_⟩, h.hB, h.num, h.inj, fun j b' hj => ?_, fun a v ha => ?_, fun b' j sz cap hb' => ?_⟩
 ·simp only [Array.size_setIfInBounds]; exact h.below.size
 ·show (w.heap.setIfInBounds b o)[k]? = _
  rw [hne k (by omega)]; exact h.below.block k hk
 ·obtain ⟨h1, h2, h3, o', x, ho, hx, hr'⟩ := h.obj j b' hj
  by_cases e : j = i
  ·subst e
   rw [hi] at hj; injection hj with hj; subst hj
   exact ⟨h1, h2, h3, ob, o, by simp [ASt.set], heq, hr⟩
  ·have : b' ≠ b := by rintro rfl; exact e (h.inj j i b' hj hi)
   exact ⟨h1, h2, h3, o', x, by simp only [ASt.set, if_neg e]; exact ho, by show (w.heap.setIfInBounds b o)[b']? = _; rw [hne b' this]; exact hx, hr'⟩
 ·have : a.block ≠ b := by intro e; rw [hC1 a e] at ha; cases ha
  have h2 := h.comm a v ha
  simp only [World.cell?] at h2 ⊢
  rw [hne a.block this]; exact h2
 ·obtain ⟨h1, h2, ⟨m, h3, h4⟩, cs', t', hx, h5⟩ := h.own b' j sz cap hb'
  have hbb : b' ≠ b := by rintro rfl; rw [hI1] at hb'; cases hb'
  have hji : j ≠ i := by
   rintro rfl
   rw [ho1] at h3
   injection h3 with h3
   subst h3
   cases hr1
  exact ⟨h1, h2, ⟨m, by simp only [ASt.set, if_neg hji]; exact h3, h4⟩, cs', t', by show (w.heap.setIfInBounds b o)[b']? = _; rw [hne b' hbb]; exact hx, h5⟩
/-- cells from 'off' on are others -/
def putCells (cs : Array Value) (off : Nat) : List Value → Array Value
 | [] => cs
 | v :: vs => putCells (cs.setIfInBounds off v) (off + 1) vs
theorem putCells_size (cs : Array Value) (off : Nat) (vs : List Value) : (putCells cs off vs).size = cs.size := by
 induction vs generalizing cs off with
 | nil => rfl
 | cons v vs ih => simp [putCells, ih]
theorem putCells_get (cs : Array Value) (off : Nat) (vs : List Value) (j : Nat) (hs : off + vs.length ≤ cs.size) :
  (putCells cs off vs)[j]? = if off ≤ j ∧ j < off + vs.length then vs[j - off]? else cs[j]? := by
 induction vs generalizing cs off with
 | nil => simp only [putCells, List.length_nil]; rw [if_neg (by omega)]
 | cons v vs ih =>
  simp only [List.length_cons] at hs
  simp only [putCells]
  rw [ih _ _ (by simp; omega), List.length_cons]
  by_cases h1 : off + 1 ≤ j ∧ j < off + 1 + vs.length
  ·rw [if_pos h1, if_pos (by omega)]
   obtain ⟨k, rfl⟩ : ∃ k, j = off + 1 + k := ⟨j - off - 1, by omega⟩
   rw [show off + 1 + k - (off + 1) = k from by omega, show off + 1 + k - off = k + 1 from by omega]
   rfl
  ·rw [if_neg h1, Array.getElem?_setIfInBounds]
   by_cases h2 : off = j
   ·subst h2
    rw [if_pos rfl, if_pos (by omega), if_pos (by omega)]
    simp
   ·rw [if_neg h2, if_neg (by omega)]
theorem setCell_at (w : World) (b off : Nat) (v : Value) (cs : Array Value) (t : TypeId) (fz : Nat × Nat) (h : w.heap[b]? = some (.cells cs t fz)) :
  w.setCell ⟨b, off, none⟩ v = { w with heap := w.heap.setIfInBounds b (.cells (cs.setIfInBounds off v) t fz) } := by
 have hb := lt_of_get h
 unfold World.setCell
 congr 1
 apply Array.ext_getElem?
 intro i
 rw [Array.getElem?_modify, Array.getElem?_setIfInBounds]
 by_cases e : b = i
 ·subst e
  rw [if_pos rfl, if_pos rfl, if_pos hb, h]
  rfl
 ·rw [if_neg e, if_neg e]
theorem setIn_setIn (w : World) (b : Nat) (x y : Obj) : ({ w with heap := (w.heap.setIfInBounds b x).setIfInBounds b y } : World) = { w with heap := w.heap.setIfInBounds b y } := by
 congr 1
 apply Array.ext_getElem?
 intro i
 simp only [Array.getElem?_setIfInBounds, Array.size_setIfInBounds]
 split <;> rfl
theorem setIn_same (w : World) (b : Nat) (x : Obj) (h : w.heap[b]? = some x) : ({ w with heap := w.heap.setIfInBounds b x } : World) = w := by
 have : w.heap.setIfInBounds b x = w.heap := by
  apply Array.ext_getElem?
  intro i
  rw [Array.getElem?_setIfInBounds]
  by_cases e : b = i
  ·subst e
   rw [if_pos rfl, if_pos (lt_of_get h), h]
  ·rw [if_neg e]
 rw [this]
theorem heap_setIn (w : World) (b : Nat) (x y : Obj) (h : w.heap[b]? = some y) : (w.heap.setIfInBounds b x)[b]? = some x := by
 rw [Array.getElem?_setIfInBounds, if_pos rfl, if_pos (lt_of_get h)]
theorem add_at (b off i : Nat) : (⟨b, off, none⟩ : Addr).add i = ⟨b, off + i, none⟩ := by
 unfold Addr.add; split
 ·rename_i h; subst h; rfl
 ·rfl
/-- Cells of one block, not frozen, are stored into. -/
theorem run_storeCells (P : Program) (b off : Nat) (t : TypeId) : ∀ (vs : List Value) (i : Nat) (w : World) (cs : Array Value), w.heap[b]? = some (.cells cs t (0, 0)) →
  off + i + vs.length ≤ cs.size → (∀ v ∈ vs, v.oneCell' = true) →
  (storeCells ⟨b, off, none⟩ vs i).run P w = .ok () { w with heap := w.heap.setIfInBounds b (.cells (putCells cs (off + i) vs) t (0, 0)) } := by
 intro vs
 induction vs with
 | nil =>
  intro i w cs h hs hv
  simp only [storeCells, Sem.run_pure, putCells]
  rw [setIn_same w b _ h]
 | cons v vs ih =>
  intro i w cs h hs hv
  simp only [List.length_cons] at hs
  have hc : w.cell? ⟨b, off + i, none⟩ = some cs[off + i] := by
   simp only [World.cell?, h]
   rw [Array.getElem?_eq_getElem (by omega)]; rfl
  have hf : w.frozen? ⟨b, off + i, none⟩ = false := by simp [World.frozen?, h]
  simp only [storeCells, Sem.run_bind, add_at]
  rw [run_store P w _ v .plain (hv v (by simp)), hc]
  simp only [hf, Bool.false_eq_true, if_false, Result.andThen_ok]
  rw [setCell_at w b (off + i) v cs t (0, 0) h]
  rw [ih (i + 1) _ (cs.setIfInBounds (off + i) v) (heap_setIn w b _ _ h) (by simp; omega) (fun u hu => hv u (by simp [hu]))]
  simp only [setIn_setIn, putCells]
  rw [show off + (i + 1) = off + i + 1 from by omega]
/-- An append in place. -/
theorem Sim.extend (h : Sim B w0 G s w) {b i sz cap m k : Nat} {cs : Array Value} {t : TypeId} (hI : G.I b = some (i, sz, cap)) (hm : s.heap i = some (.arr m sz))
  (hx : w.heap[b]? = some (.cells cs t (0, 0))) (vs : List Value) (hv : vs.length = k * sz) (hcap : m + k ≤ cap) :
  ∃ G', G.Le G' ∧ Sim B w0 G' (s.set i (.arr (m + k) sz)) { w with heap := w.heap.setIfInBounds b (.cells (putCells cs (m * sz) vs) t (0, 0)) } ∧
   (∀ j v, vs[j]? = some v → G'.C ⟨b, m * sz + j, none⟩ = some v) ∧ G'.ρ = G.ρ ∧ G'.I = G.I := by
 obtain ⟨hB, hi, ⟨m', hm', hC⟩, cs', t', hx', hsz⟩ := h.own b i sz cap hI
 rw [hx] at hx'; injection hx' with hx'; injection hx' with e1 e2; subst e1; subst e2
 rw [hm] at hm'; injection hm' with hm'; injection hm' with hm'; subst hm'
 have hb := lt_of_get hx
 have hroom : m * sz + vs.length ≤ cs.size := by rw [hv, hsz, ← Nat.add_mul]; exact Nat.mul_le_mul_right _ hcap
 let inNew : Addr → Bool := fun a => a.block == b && a.spot.isNone && decide (m * sz ≤ a.off ∧ a.off < m * sz + vs.length)
 let G' : Gh := { G with C := fun a => if inNew a then vs[a.off - m * sz]? else G.C a }
 have hnone : ∀ a : Addr, inNew a = true → G.C a = none := fun a ha => by
  simp only [inNew, Bool.and_eq_true, beq_iff_eq, decide_eq_true_eq] at ha
  cases hc : G.C a with
  | none => rfl
  | some v => exact absurd (hC a ha.1.1 (by simp [hc])) (by omega)
 have hle : G.Le G' := ⟨fun _ _ x => x, fun a v ha => by
  show (if inNew a then _ else _) = _
  rw [if_neg (by intro e; rw [hnone a e] at ha; cases ha)]; exact ha, fun _ _ x => x⟩
 have hne : ∀ k', k' ≠ b → (w.heap.setIfInBounds b (.cells (putCells cs (m * sz) vs) t (0, 0)))[k']? = w.heap[k']? := fun k' hk => by
  rw [Array.getElem?_setIfInBounds, if_neg (by omega)]
 have heq := heap_setIn w b (.cells (putCells cs (m * sz) vs) t (0, 0)) _ hx
 refine ⟨G', hle, ⟨⟨h.below.os, h.below.tape, h.below.output, ?_, fun k' hk => ?_⟩, h.hB, h.num, h.inj, fun j b' hj => ?_, fun a v ha => ?_, fun b' j sz' cap' hb' => ?_⟩, fun j v hj => ?_, rfl, rfl⟩
 ·simp only [Array.size_setIfInBounds]; exact h.below.size
 ·show (w.heap.setIfInBounds b _)[k']? = _
  rw [hne k' (by omega)]; exact h.below.block k' hk
 ·obtain ⟨h1, h2, h3, o', x, ho, hx', hr'⟩ := h.obj j b' hj
  have hbb : b' ≠ b := by rintro rfl; rw [hI] at h2; cases h2
  have hji : j ≠ i := by
   rintro rfl
   rw [hm] at ho; injection ho with ho; subst ho; cases hr'
  refine ⟨h1, h2, fun a ha => ?_, o', x, by simp only [ASt.set, if_neg hji]; exact ho, by show (w.heap.setIfInBounds b _)[b']? = _; rw [hne b' hbb]; exact hx', hr'.mono hle⟩
  simp only [G']
  rw [if_neg (by simp only [inNew, Bool.and_eq_true, beq_iff_eq]; rintro ⟨⟨e, _⟩, _⟩; omega)]
  exact h3 a ha
 ·simp only [G'] at ha
  by_cases e : inNew a = true
  ·rw [if_pos e] at ha
   simp only [inNew, Bool.and_eq_true, beq_iff_eq, decide_eq_true_eq, Option.isNone_iff_eq_none] at e
   obtain ⟨⟨e1, e2⟩, e3⟩ := e
   simp only [World.cell?, e1, e2, heq]
   simp only [Option.isSome_none, Bool.false_eq_true, if_false]
   rw [putCells_get _ _ _ _ hroom, if_pos e3]; exact ha
  ·rw [if_neg e] at ha
   have h2 := h.comm a v ha
   by_cases e1 : a.block = b
   ·simp only [World.cell?, e1, heq]
    simp only [World.cell?, e1, hx] at h2
    by_cases e2 : a.spot.isSome = true
    ·rw [if_pos e2] at h2; cases h2
    ·rw [if_neg e2] at h2 ⊢
     rw [putCells_get _ _ _ _ hroom, if_neg]
     ·exact h2
     ·intro e3
      apply e
      simp only [inNew, Bool.and_eq_true, beq_iff_eq, decide_eq_true_eq]
      exact ⟨⟨e1, by simpa using e2⟩, e3⟩
   ·simp only [World.cell?] at h2 ⊢
    rw [hne a.block e1]; exact h2
 ·obtain ⟨h1, h2, ⟨m', h3, h4⟩, cs', t', hx', h5⟩ := h.own b' j sz' cap' hb'
  by_cases hji : j = i
  ·subst hji
   rw [hm] at h3; injection h3 with h3; injection h3 with h3 h3'; subst h3; subst h3'
   refine ⟨h1, h2, ⟨m + k, by simp [ASt.set], fun a ha hs' => ?_⟩, ?_⟩
   ·simp only [G'] at hs'
    by_cases e : inNew a = true
    ·simp only [inNew, Bool.and_eq_true, decide_eq_true_eq] at e
     rw [Nat.add_mul, ← hv]; exact e.2.2
    ·rw [if_neg e] at hs'
     have := h4 a ha hs'
     have h6 : m * sz ≤ (m + k) * sz := Nat.mul_le_mul_right _ (by omega)
     omega
   ·by_cases e : b' = b
    ·subst e
     refine ⟨_, t, heq, ?_⟩
     rw [hI] at hb'; injection hb' with hb'; injection hb' with _ hb'; injection hb' with _ hb'
     rw [putCells_size, hsz, hb']
    ·exact ⟨cs', t', by show (w.heap.setIfInBounds b _)[b']? = _; rw [hne b' e]; exact hx', h5⟩
  ·have e : b' ≠ b := by rintro rfl; rw [hI] at hb'; injection hb' with hb'; injection hb' with hb' _; exact hji hb'.symm
   refine ⟨h1, h2, ⟨m', by simp only [ASt.set, if_neg hji]; exact h3, fun a ha hs' => h4 a ha ?_⟩, cs', t', by show (w.heap.setIfInBounds b _)[b']? = _; rw [hne b' e]; exact hx', h5⟩
   simp only [G'] at hs'
   rw [if_neg (by simp only [inNew, Bool.and_eq_true, beq_iff_eq]; rintro ⟨⟨e', _⟩, _⟩; omega)] at hs'
   exact hs'
 ·simp only [G']
  have hj' : j < vs.length := by
   rcases Nat.lt_or_ge j vs.length with h' | h'
   ·exact h'
   ·rw [List.getElem?_eq_none h'] at hj; cases hj
  rw [if_pos (by simp only [inNew, Bool.and_eq_true, beq_iff_eq, decide_eq_true_eq]; exact ⟨⟨trivial, rfl⟩, by omega, by omega⟩)]
  rw [show m * sz + j - m * sz = j from by omega]; exact hj
/-- A row that is grown: a new block. 'm' elements stand in it; it may grow on. -/
theorem Sim.grow (h : Sim B w0 G s w) {i sz m cap : Nat} (cs : Array Value) (t : TypeId) (hi : i < s.ctr)
  (hold : ∀ b sz' cap', G.I b = some (i, sz', cap') → ∀ m', s.heap i = some (.arr m' sz') → m' ≤ m ∧ sz' = sz) (hn : G.ρ i = none)
  (hsz : cs.size = cap * sz) :
  ∃ G', G.Le G' ∧ Sim B w0 G' (s.set i (.arr m sz)) { w with heap := w.heap.push (.cells cs t (0, 0)) } ∧ G'.I w.heap.size = some (i, sz, cap) ∧
   (∀ j v, j < m * sz → cs[j]? = some v → G'.C ⟨w.heap.size, j, none⟩ = some v) ∧ G'.ρ = G.ρ ∧ (∀ b, b ≠ w.heap.size → G'.I b = G.I b) := by
 let newC : Addr → Option Value := fun a => if a.block = w.heap.size then (if a.spot.isSome then none else if a.off < m * sz then cs[a.off]? else none) else G.C a
 let G' : Gh := { ρ := G.ρ, I := fun b => if b = w.heap.size then some (i, sz, cap) else G.I b, C := newC }
 have hnone : ∀ a : Addr, a.block = w.heap.size → G.C a = none := fun a ha => by
  cases hC : G.C a with
  | none => rfl
  | some v => exact absurd (h.com_lt hC) (by omega)
 have hle : G.Le G' := ⟨fun _ _ x => x, fun a v ha => by
  show (if a.block = w.heap.size then _ else _) = _
  rw [if_neg (by intro e; rw [hnone a e] at ha; cases ha)]; exact ha, fun b x hb => by
  show (if b = w.heap.size then _ else _) = _
  rw [if_neg (by intro e; have := h.own_lt hb; omega)]; exact hb⟩
 refine ⟨G', hle, ⟨Below.push h.below h.le _, h.hB, h.num, h.inj, fun j b hj => ?_, fun a v ha => ?_, fun b j sz' cap' hb => ?_⟩, by simp [G'], fun j v hj hv => by simp [G', newC, hj, hv], rfl, fun b hb => by simp [G', hb]⟩
 ·obtain ⟨h1, h2, h3, o', x, ho, hx, hr'⟩ := h.obj j b hj
  have := h.blk_lt hj
  have hji : j ≠ i := by rintro rfl; rw [hn] at hj; cases hj
  refine ⟨h1, ?_, fun a ha => ?_, o', x, by simp only [ASt.set, if_neg hji]; exact ho, by rw [heap_push_lt w _ (h.blk_lt hj)]; exact hx, hr'.mono hle⟩
  ·simp only [G']; rw [if_neg (by omega)]; exact h2
  ·simp only [G', newC]; rw [if_neg (by omega)]; exact h3 a ha
 ·simp only [G', newC] at ha
  by_cases e : a.block = w.heap.size
  ·rw [if_pos e] at ha
   split at ha
   ·cases ha
   ·rename_i hs'
    split at ha
    ·simp only [World.cell?, e, heap_push_eq]
     rw [if_neg hs']; exact ha
    ·cases ha
  ·rw [if_neg e] at ha
   rw [cell_push_lt w _ (h.com_lt ha)]; exact h.comm a v ha
 ·simp only [G'] at hb
  by_cases e : b = w.heap.size
  ·rw [if_pos e] at hb
   injection hb with hb; injection hb with e1 hb; injection hb with e2 e3
   subst e1; subst e2; subst e3; subst e
   refine ⟨h.le, hi, ⟨m, by simp [ASt.set], fun a ha hs' => ?_⟩, cs, t, heap_push_eq w _, hsz⟩
   simp only [G', newC] at hs'
   rw [if_pos ha] at hs'
   split at hs'
   ·simp at hs'
   ·split at hs'
    ·assumption
    ·simp at hs'
  ·rw [if_neg e] at hb
   obtain ⟨h1, h2, ⟨m', h3, h4⟩, cs', t', hx, h5⟩ := h.own b j sz' cap' hb
   have := h.own_lt hb
   refine ⟨h1, h2, ?_, cs', t', by rw [heap_push_lt w _ (h.own_lt hb)]; exact hx, h5⟩
   by_cases hji : j = i
   ·subst hji
    obtain ⟨hle', hsz'⟩ := hold b sz' cap' hb m' h3
    subst hsz'
    refine ⟨m, by simp [ASt.set], fun a ha hs' => ?_⟩
    simp only [G', newC] at hs'
    rw [if_neg (by omega)] at hs'
    have h6 := h4 a ha hs'
    have h7 : m' * sz' ≤ m * sz' := Nat.mul_le_mul_right _ hle'
    omega
   ·refine ⟨m', by simp only [ASt.set, if_neg hji]; exact h3, fun a ha hs' => h4 a ha ?_⟩
    simp only [G', newC] at hs'
    rw [if_neg (by omega)] at hs'
    exact hs'
end
end Go.Proofs.YtdohdncgjendkaaDoor.Abs
set_option linter.unusedSimpArgs false
namespace Go.Proofs.YtdohdncgjendkaaDoor.Abs
open Go.RowKit
section
variable {P : Program} {w : World}
theorem r_und {t : TypeId} {d : TypeDesc} (h : P.underlying t = some d) : (underlying t).run P w = .ok d w := by
 simp [underlying, h]
theorem r_info {t : TypeId} {i : TypeInfo} (h : P.info? t = some i) : (typeInfo t).run P w = .ok i w := by
 simp [typeInfo, h]
theorem r_size {t : TypeId} {n : Nat} (h : sizeT P t = some n) : (sizeOf t).run P w = .ok n w := by
 unfold sizeT at h
 cases hi : P.info? t with
 | none => rw [hi] at h; cases h
 | some i => rw [hi] at h; injection h with h; subst h; simp [sizeOf, r_info hi]
theorem r_bytes {t : TypeId} {n : Nat} (h : bytesT P t = some n) : ∃ i, P.info? t = some i ∧ i.bytes = n := by
 unfold bytesT at h
 cases hi : P.info? t with
 | none => rw [hi] at h; cases h
 | some i => rw [hi] at h; injection h with h; exact ⟨i, rfl, h⟩
theorem r_zero {t : TypeId} {v : Value} (h : zeroVal P t = some v) : (zeroValue t).run P w = .ok v w := by
 unfold zeroVal at h
 cases hi : P.info? t with
 | none => rw [hi] at h; cases h
 | some i => rw [hi] at h; simp only [Option.bind_some] at h; simp [zeroValue, r_info hi, h]
theorem r_agg {t : TypeId} {g : Bool} (h : aggT P t = some g) : (isAgg t).run P w = .ok g w := by
 unfold aggT at h
 cases hi : P.underlying t with
 | none => rw [hi] at h; cases h
 | some d =>
  rw [hi] at h; injection h with h; subst h
  simp only [isAgg, Sem.run_bind, r_und hi, Result.andThen_ok]
  cases d <;> rfl
theorem ofCell_VR {G : Gh} {c : Value} {v : AV} (h : ofCell c = some v) : VR G v c ∧ v.isCell = true := by
 cases c with
 | bool b => simp only [ofCell] at h; injection h with h; subst h; exact ⟨.bool b, rfl⟩
 | int k n => simp only [ofCell] at h; injection h with h; subst h; exact ⟨.int k n, rfl⟩
 | string s =>
  simp only [ofCell] at h; injection h with h; subst h
  refine ⟨?_, rfl⟩
  have : (⟨s.data.toList.toArray⟩ : ByteArray) = s := by simp
  rw [← this]; simpa using VR.str (G := G) s.data.toList
 | pointer a =>
  cases a with
  | none => simp only [ofCell] at h; injection h with h; subst h; exact ⟨.nilp, rfl⟩
  | some a => simp [ofCell] at h
 | slice a n c =>
  cases a with
  | some a => simp [ofCell] at h
  | none =>
   unfold ofCell at h
   split at h <;> try (simp at h; done)
   all_goals first
    | (rename_i heq; injection heq; done)
    | skip
   rename_i heq
   injection heq with _ e1 e2; subst e1; subst e2
   injection h with h; subst h
   exact ⟨.slice 0 (fun _ => undef) rfl rfl (by simp) (by simp) (by simp) (by simp), rfl⟩
 | map r =>
  cases r with
  | none => simp only [ofCell] at h; injection h with h; subst h; exact ⟨.nilmap, rfl⟩
  | some a => simp [ofCell] at h
 | nilFunc => simp only [ofCell] at h; injection h with h; subst h; exact ⟨.nilfunc, rfl⟩
 | func fn a b =>
  unfold ofCell at h
  split at h <;> try (simp at h; done)
  all_goals first
   | (rename_i heq; injection heq; done)
   | skip
  rename_i heq
  injection heq with e1 e2 e3; subst e1; subst e2; subst e3
  injection h with h; subst h
  exact ⟨.func #[] #[] rfl (by simp) rfl (by simp), rfl⟩
 | _ => simp [ofCell] at h
theorem ofCells_VRs {G : Gh} : ∀ {cs : List Value} {l : List AV}, ofCells cs = some l → VRs G l cs ∧ ∀ x ∈ l, x.isCell = true
 | [], l, h => by simp only [ofCells] at h; injection h with h; subst h; exact ⟨VRs.nil G, by simp⟩
 | c :: cs, l, h => by
  simp only [ofCells] at h
  split at h
  ·rename_i a r ha hr
   injection h with h; subst h
   obtain ⟨h1, h2⟩ := ofCell_VR (G := G) ha
   obtain ⟨h3, h4⟩ := ofCells_VRs (G := G) hr
   exact ⟨.cons h1 h3, by intro x hx; cases hx with | head => exact h2 | tail _ hx => exact h4 x hx⟩
  ·cases h
theorem ofVal_VR {G : Gh} {c : Value} {v : AV} (h : ofVal c = some v) : VR G v c := by
 unfold ofVal at h
 split at h
 ·rename_i cs
  cases ho : ofCells cs.toList with
  | none => rw [ho] at h; cases h
  | some l =>
   rw [ho] at h; injection h with h; subst h
   obtain ⟨h1, h2⟩ := ofCells_VRs (G := G) ho
   exact VR.agg' h1 h2
 ·rename_i cs
  cases ho : ofCells cs.toList with
  | none => rw [ho] at h; cases h
  | some l =>
   rw [ho] at h; injection h with h; subst h
   exact VR.tuple' (ofCells_VRs (G := G) ho).1
 ·exact (ofCell_VR h).1
/-- The operands of an operation, seen by both. -/
def OpdR (G : Gh) (e : AEnv) (a : Act) : Prop := ∀ t, VR G (e.get t) (a.tmps.getD t undef)
theorem OpdR.opd {G : Gh} {e : AEnv} {a : Act} (h : OpdR G e a) {x : Operand} {y : AOpd} (hc : compOpd x = some y) : VR G (ev e y) (a.eval x) := by
 cases x with
 | tmp t => simp only [compOpd] at hc; injection hc with hc; subst hc; exact h t
 | const v =>
  simp only [compOpd] at hc
  cases ho : ofVal v with
  | none => rw [ho] at hc; cases hc
  | some u => rw [ho] at hc; injection hc with hc; subst hc; exact ofVal_VR ho
 | func f => simp only [compOpd] at hc; injection hc with hc; subst hc; exact .func #[] #[] rfl (by simp) rfl (by simp)
 | global g => simp [compOpd] at hc
theorem OpdR.mono {G G' : Gh} (k : G.Le G') {e : AEnv} {a : Act} (h : OpdR G e a) : OpdR G' e a := fun t => (h t).mono k
theorem OpdR.opds {G : Gh} {e : AEnv} {a : Act} (h : OpdR G e a) : ∀ {xs : List Operand} {ys : List AOpd}, compOpds xs = some ys → VRs G (ys.map (ev e)) (xs.map a.eval)
 | [], ys, hc => by simp only [compOpds] at hc; injection hc with hc; subst hc; exact VRs.nil G
 | x :: xs, ys, hc => by
  simp only [compOpds] at hc
  split at hc
  ·rename_i b r hb hr
   injection hc with hc; subst hc
   exact .cons (h.opd hb) (h.opds hr)
  ·cases hc
/-! ### Cells that are read -/
theorem ldCells_VR {G : Gh} {g : Bool} {sz : Nat} {l : List AV} {v : AV} (h : ldCells g sz l = some v) {cs : List Value} (hr : VRs G l cs) (hc : ∀ x ∈ l, x.isCell = true) :
  (g = true ∧ sz ≤ l.length ∧ VR G v (.agg (cs.take sz).toArray)) ∨ (g = false ∧ ∃ c, cs[0]? = some c ∧ VR G v c) := by
 unfold ldCells at h
 cases g with
 | true =>
  simp only [if_true] at h
  split at h
  ·rename_i hs
   injection h with h; subst h
   exact .inl ⟨rfl, hs, VR.agg' (by simpa using hr.take sz) (fun x hx => hc x (List.mem_of_mem_take hx))⟩
  ·cases h
 | false =>
  simp only [Bool.false_eq_true, if_false] at h
  rw [List.head?_eq_getElem?] at h
  obtain ⟨c, h1, h2⟩ := hr.get h
  exact .inr ⟨rfl, c, h1, h2⟩
theorem r_loadVar {G : Gh} {t : TypeId} {g : Bool} {sz : Nat} (hg : aggT P t = some g) (hs : sizeT P t = some sz) {ad : Addr} {l : List AV} {v : AV} {cs : List Value}
  (h : ldCells g sz l = some v) (hr : VRs G l cs) (hc : ∀ x ∈ l, x.isCell = true) (hm : ∀ j c, cs[j]? = some c → w.cell? (ad.add j) = some c) :
  ∃ cv, (loadVar t ad).run P w = .ok cv w ∧ VR G v cv := by
 simp only [loadVar, Sem.run_bind, r_agg hg, Result.andThen_ok]
 rcases ldCells_VR h hr hc with ⟨rfl, hsz, hv⟩ | ⟨rfl, c, h0, hv⟩
 ·have hl : (cs.take sz).length = sz := by rw [List.length_take, hr.1]; omega
  have := run_loadCells_list (P := P) w ad (cs.take sz) (fun j c hj => by
   rw [List.getElem?_take] at hj
   split at hj
   ·exact hm j c hj
   ·cases hj)
  rw [hl] at this
  exact ⟨_, by simp [r_size hs, this], hv⟩
 ·have := hm 0 c h0
  have e : ad.add 0 = ad := by simp [Addr.add]
  rw [e] at this
  exact ⟨c, by simp [run_load, this], hv⟩
/-! ### New cells, stored cells -/
theorem fold_putCells (off : Nat) : ∀ (vs : List Value) (n : Nat) (cs : Array Value),
  (vs.zipIdx n).foldl (fun cs (p : Value × Nat) => cs.setIfInBounds (off + p.2) p.1) cs = putCells cs (off + n) vs
 | [], n, cs => rfl
 | v :: vs, n, cs => by
  rw [List.zipIdx_cons, List.foldl_cons, fold_putCells off vs (n + 1)]
  rfl
theorem putCells_VRs {G : Gh} {l new : List AV} {cs : Array Value} {vs : List Value} {off : Nat} (hr : VRs G l cs.toList) (hn : VRs G new vs) (hf : off + new.length ≤ l.length) :
  VRs G (overlay l off new) (putCells cs off vs).toList := by
 have hl : cs.size = l.length := by have := hr.1; simpa using this
 refine ⟨?_, fun j x y hx hy => ?_⟩
 ·rw [Array.length_toList, putCells_size]
  simp only [overlay, List.length_append, List.length_take, List.length_drop]; omega
 ·rw [Array.getElem?_toList, putCells_get _ _ _ _ (by rw [hn.1]; omega), hn.1] at hy
  unfold overlay at hx
  have hlt : (l.take off).length = off := by rw [List.length_take]; omega
  by_cases h1 : j < off
  ·rw [if_neg (by omega)] at hy
   rw [List.append_assoc, List.getElem?_append_left (by omega), List.getElem?_take, if_pos h1] at hx
   exact hr.2 j x y hx (by simpa using hy)
  ·by_cases h2 : j < off + new.length
   ·rw [if_pos ⟨by omega, h2⟩] at hy
    rw [List.append_assoc, List.getElem?_append_right (by omega), hlt, List.getElem?_append_left (by omega)] at hx
    exact hn.2 _ x y hx hy
   ·rw [if_neg (by omega)] at hy
    rw [List.getElem?_append_right (by simp only [List.length_append]; omega), List.length_append, hlt, List.getElem?_drop] at hx
    rw [show off + new.length + (j - (off + new.length)) = j from by omega] at hx
    exact hr.2 j x y hx (by simpa using hy)
theorem fill_VR {G : Gh} {e : AEnv} {a : Act} (hop : OpdR G e a) (place : Nat → Option (Nat × Nat)) : ∀ (xs : List (Nat × Operand)) (ps : List (Nat × Nat × AOpd)) (l l' : List AV) (cs : Array Value),
  (ps.length = xs.length ∧ ∀ (j : Nat) (i : Nat) (x : Operand) (off sz : Nat) (y : AOpd), xs[j]? = some (i, x) → ps[j]? = some (off, sz, y) → place i = some (off, sz) ∧ compOpd x = some y) →
  fillV (ev e) l ps = some l' → VRs G l cs.toList → (∀ x ∈ l, x.isCell = true) →
  ∃ cs', Instr.fill place cs (xs.map fun q => (q.1, a.eval q.2)) = some cs' ∧ VRs G l' cs'.toList ∧ ∀ x ∈ l', x.isCell = true
 | [], ps, l, l', cs, hp, h, hr, hc => by
  have : ps = [] := by have := hp.1; simpa using this
  subst this
  simp only [fillV] at h; injection h with h; subst h
  exact ⟨cs, by simp [Instr.fill], hr, hc⟩
 | (i, x) :: xs, [], l, l', cs, hp, h, hr, hc => by have := hp.1; simp at this
 | (i, x) :: xs, (off, sz, y) :: ps, l, l', cs, hp, h, hr, hc => by
  obtain ⟨hpl, hcx⟩ := hp.2 0 i x off sz y rfl rfl
  simp only [fillV] at h
  split at h
  ·rename_i hcond
   obtain ⟨hok, hsz, hfit⟩ := hcond
   have hv := hop.opd hcx
   have hcv := hv.cells_
   have hlen : (a.eval x).cells.size = sz := by have := hcv.1; simp only [Array.length_toList] at this; omega
   have hcl : cs.size = l.length := by have := hr.1; simpa using this
   simp only [List.map_cons, Instr.fill, hpl]
   rw [if_neg (by simp only [Bool.or_eq_true, decide_eq_true_eq]; omega)]
   have hr' : VRs G (overlay l off (ev e y).cells) (((a.eval x).cells.zipIdx.foldl (fun cs (p : Value × Nat) => cs.setIfInBounds (off + p.2) p.1) cs)).toList := by
    have e1 : (a.eval x).cells.zipIdx.foldl (fun cs (p : Value × Nat) => cs.setIfInBounds (off + p.2) p.1) cs = putCells cs off (a.eval x).cells.toList := by
     have h0 := fold_putCells off (a.eval x).cells.toList 0 cs
     rw [Nat.add_zero] at h0
     rw [← h0, ← Array.foldl_toList]
     simp
    rw [e1]
    exact putCells_VRs hr hcv (by omega)
   have hc' : ∀ z ∈ overlay l off (ev e y).cells, z.isCell = true := by
    intro z hz
    unfold overlay at hz
    simp only [List.mem_append] at hz
    rcases hz with (hz | hz) | hz
    ·exact hc z (List.mem_of_mem_take hz)
    ·exact hv.cells_ok hok z hz
    ·exact hc z (List.mem_of_mem_drop hz)
   exact fill_VR hop place xs ps _ l' _ ⟨by have := hp.1; simpa using this, fun j i' x' off' sz' y' h1 h2 => hp.2 (j + 1) i' x' off' sz' y' (by simpa using h1) (by simpa using h2)⟩ h hr' hc'
  ·cases h
termination_by xs => xs.length
end
section
variable {P : Program} {w : World} {G : Gh}
theorem VR.int_inv {k : IntKind} {n : Int} {c : Value} (h : VR G (.int k n) c) : c = .int k n := by cases h; rfl
theorem VR.str_inv {s : List UInt8} {c : Value} (h : VR G (.str s) c) : c = .string ⟨s.toArray⟩ := by cases h; rfl
theorem VR.bool_inv {b : Bool} {c : Value} (h : VR G (.bool b) c) : c = .bool b := by cases h; rfl
theorem eqT_sound {u : KT} {t : TypeId} (hu : cellT P t = some u) {a b : AV} {r : Bool} (h : eqT u a b = some r) {x y : Value} (hx : VR G a x) (hy : VR G b y) (d : Nat) :
  (Op.equalIn (d + 1) t x y).run P w = .ok r w := by
 unfold cellT at hu
 cases hd : P.underlying t with
 | none => rw [hd] at hu; cases hu
 | some td =>
  rw [hd] at hu
  cases td with
  | bool =>
   injection hu with hu; subst hu
   cases a <;> cases b <;> simp [eqT] at h
   rename_i p q; rw [hx.bool_inv, hy.bool_inv, run_equalIn_bool' w d t p q hd, ← h]; cases p <;> cases q <;> rfl
  | int k =>
   injection hu with hu; subst hu
   cases a <;> cases b <;> simp [eqT] at h
   rename_i k1 p k2 q
   obtain ⟨e, h⟩ := h
   subst e
   rw [hx.int_inv, hy.int_inv, run_equalIn_int w d t k1 k p q hd, ← h]; rfl
  | string =>
   injection hu with hu; subst hu
   cases a <;> cases b <;> simp [eqT] at h
   rename_i p q
   rw [hx.str_inv, hy.str_inv, run_equalIn_string w d t _ _ hd, ← h]
   congr 1
   rw [ByteArray.toList_eq, ByteArray.toList_eq]
   rw [Bool.eq_iff_iff]; simp
  | _ => cases hu
theorem eqTs_len : ∀ {ts : List KT} {l m : List AV} {r : Bool}, eqTs ts l m = some r → l.length = ts.length ∧ m.length = ts.length
 | [], [], [], _, _ => ⟨rfl, rfl⟩
 | t :: ts, a :: l, b :: m, r, h => by
  simp only [eqTs] at h
  split at h
  ·obtain ⟨h1, h2⟩ := eqTs_len h
   exact ⟨by simp [h1], by simp [h2]⟩
  ·split at h
   ·rename_i hc; exact ⟨by simp [hc.1], by simp [hc.2]⟩
   ·cases h
  ·cases h
 | [], [], _ :: _, _, h => by simp [eqTs] at h
 | [], _ :: _, _, _, h => by simp [eqTs] at h
 | _ :: _, [], _, _, h => by simp [eqTs] at h
 | _ :: _, _ :: _, [], _, h => by simp [eqTs] at h
theorem cellT_agg {t : TypeId} {u : KT} (hu : cellT P t = some u) : aggT P t = some false := by
 unfold cellT at hu
 unfold aggT
 cases hd : P.underlying t with
 | none => rw [hd] at hu; cases hu
 | some td => rw [hd] at hu; cases td <;> first | rfl | cases hu
theorem r_part {t : TypeId} {u : KT} (hu : cellT P t = some u) {cs : Array Value} {off : Nat} {c : Value} (hc : cs[off]? = some c) : (part t cs off).run P w = .ok c w := by
 simp [part, r_agg (cellT_agg hu), hc]
theorem eqFields_sound (d : Nat) (xs ys : Array Value) : ∀ (fs : List Field) (i : Nat) (ts : List KT) (l m : List AV) (r : Bool), plainFields P fs i = some ts →
  eqTs ts l m = some r → VRs G l (xs.toList.drop i) → VRs G m (ys.toList.drop i) → (Op.eqFields (d + 1) xs ys fs).run P w = .ok r w
 | [], i, ts, l, m, r, hp, h, _, _ => by
  simp only [plainFields] at hp; injection hp with hp; subst hp
  cases l <;> cases m <;> simp [eqTs] at h
  subst h; simp [Op.eqFields]
 | f :: fs, i, ts, l, m, r, hp, h, hl, hm => by
  simp only [plainFields] at hp
  split at hp
  ·rename_i u us hu hus
   split at hp
   ·rename_i hc
    injection hp with hp; subst hp
    cases l with
    | nil => simp [eqTs] at h
    | cons a l =>
     cases m with
     | nil => simp [eqTs] at h
     | cons b m =>
      have hx := hl.get (j := 0) rfl
      have hy := hm.get (j := 0) rfl
      obtain ⟨x, hx, vx⟩ := hx
      obtain ⟨y, hy, vy⟩ := hy
      rw [List.getElem?_drop, Nat.add_zero] at hx hy
      have hl' : VRs G l (xs.toList.drop (i + 1)) := by have := hl.drop 1; simpa using this
      have hm' : VRs G m (ys.toList.drop (i + 1)) := by have := hm.drop 1; simpa using this
      simp only [Op.eqFields, Sem.run_bind, Sem.run_ite]
      rw [if_pos hc.2, hc.1]
      simp only [r_part hu (c := x) (by simpa using hx), r_part hu (c := y) (by simpa using hy), Result.andThen_ok]
      simp only [eqTs] at h
      split at h
      ·rename_i he
       rw [eqT_sound hu he vx vy d]
       simp only [Result.andThen_ok, Bool.not_true, Bool.false_eq_true, if_false]
       exact eqFields_sound d xs ys fs (i + 1) us l m r hus h hl' hm'
      ·rename_i he
       rw [eqT_sound hu he vx vy d]
       split at h
       ·injection h with h; subst h
        simp
       ·cases h
      ·cases h
   ·cases hp
  ·cases hp
theorem eqArr_sound (d : Nat) (e : TypeId) (u : KT) (hu : cellT P e = some u) (xs ys : Array Value) : ∀ (n i : Nat) (l m : List AV) (r : Bool),
  eqTs (List.replicate n u) l m = some r → VRs G l (xs.toList.drop i) → VRs G m (ys.toList.drop i) →
  (forIn (List.range' i n) ((none, ()) : Option Bool × Unit) fun i _ => do
    let a ← part e xs (i * 1)
    let b ← part e ys (i * 1)
    let q ← Op.equalIn (d + 1) e a b
    if (!q) = true then pure (ForInStep.done (some false, ())) else pure (ForInStep.yield (none, ())) : Sem (Option Bool × Unit)).run P w = .ok (if r then (none, ()) else (some false, ())) w
 | 0, i, l, m, r, h, _, _ => by
  cases l <;> cases m <;> simp [eqTs] at h
  subst h; simp
 | n + 1, i, l, m, r, h, hl, hm => by
  rw [List.replicate_succ] at h
  cases l with
  | nil => simp [eqTs] at h
  | cons a l =>
   cases m with
   | nil => simp [eqTs] at h
   | cons b m =>
    obtain ⟨x, hx, vx⟩ := hl.get (j := 0) rfl
    obtain ⟨y, hy, vy⟩ := hm.get (j := 0) rfl
    rw [List.getElem?_drop, Nat.add_zero] at hx hy
    have hl' : VRs G l (xs.toList.drop (i + 1)) := by have := hl.drop 1; simpa using this
    have hm' : VRs G m (ys.toList.drop (i + 1)) := by have := hm.drop 1; simpa using this
    rw [List.range'_succ, List.forIn_cons]
    simp only [Sem.run_bind, Nat.mul_one, r_part hu (c := x) (by simpa using hx), r_part hu (c := y) (by simpa using hy), Result.andThen_ok]
    simp only [eqTs] at h
    split at h
    ·rename_i he
     rw [eqT_sound hu he vx vy d]
     have ih := eqArr_sound d e u hu xs ys n (i + 1) l m r h hl' hm'
     simp only [Nat.mul_one] at ih
     simp only [Result.andThen_ok, Bool.not_true, Bool.false_eq_true, if_false, Sem.run_pure]
     exact ih
    ·rename_i he
     rw [eqT_sound hu he vx vy d]
     split at h
     ·injection h with h; subst h
      simp
     ·cases h
    ·cases h
theorem equalIn_arr (d : Nat) {t e : TypeId} {n : Nat} (hd : P.underlying t = some (.array n e)) (hsz : sizeT P e = some 1) {u : KT} (hu : cellT P e = some u)
  {xs ys : Array Value} {l m : List AV} {r : Bool} (h : eqTs (List.replicate n u) l m = some r) (hl : VRs G l xs.toList) (hm : VRs G m ys.toList) :
  (Op.equalIn (d + 1 + 1) t (.agg xs) (.agg ys)).run P w = .ok r w := by
 have := eqArr_sound (w := w) (P := P) (G := G) d e u hu xs ys n 0 l m r h (by simpa using hl) (by simpa using hm)
 unfold Op.equalIn
 simp only [Sem.run_bind, r_und hd, r_size hsz, Result.andThen_ok, Std.Legacy.Range.forIn_eq_forIn_range', Std.Legacy.Range.size, Nat.sub_zero, Nat.add_sub_cancel, Nat.div_one]
 have h2 := this
 simp only [Nat.mul_one] at h2 ⊢
 rw [h2]
 cases r <;> rfl
theorem key_sound {t : TypeId} {k : KeyT} (hk : keyT P t = some k) {a b : AV} {r : Bool} (h : eqKey k a b = some r) {x y : Value} (hx : VR G a x) (hy : VR G b y) :
  (Op.equal t x y).run P w = .ok r w := by
 unfold keyT at hk
 have hone : ∀ u, cellT P t = some u → k = .one u → (Op.equal t x y).run P w = .ok r w := by
  intro u hu e
  subst e
  exact eqT_sound hu h hx hy 9999
 cases hd : P.underlying t with
 | none => rw [hd] at hk; cases hk
 | some td =>
  rw [hd] at hk
  cases td with
  | bool => injection hk with hk; exact hone .bool (by simp [cellT, hd]) hk.symm
  | int k' => injection hk with hk; exact hone .int (by simp [cellT, hd]) hk.symm
  | string => injection hk with hk; exact hone .str (by simp [cellT, hd]) hk.symm
  | struct fs =>
   simp only at hk
   split at hk
   ·rename_i ts hts
    split at hk
    ·rename_i hp
     injection hk with hk; subst hk
     cases a <;> cases b <;> simp [eqKey] at h
     rename_i l m
     obtain ⟨xs, rfl, hxs, _⟩ := hx.agg_inv
     obtain ⟨ys, rfl, hys, _⟩ := hy.agg_inv
     have hf : P.fieldsOf t = fs := by simp [Program.fieldsOf, hd]
     show (Op.equalIn (9999 + 1) t (.agg xs) (.agg ys)).run P w = _
     rw [run_equalIn_struct w 9999 t xs ys (by rw [hf]; exact hd) hp, hf]
     exact eqFields_sound 9998 xs ys fs.toList 0 ts l m r hts h (by simpa using hxs) (by simpa using hys)
    ·cases hk
   ·cases hk
  | array n e =>
   simp only at hk
   split at hk
   ·rename_i u hu
    split at hk
    ·rename_i hsz
     injection hk with hk; subst hk
     cases a <;> cases b <;> simp [eqKey] at h
     rename_i l m
     obtain ⟨xs, rfl, hxs, _⟩ := hx.agg_inv
     obtain ⟨ys, rfl, hys, _⟩ := hy.agg_inv
     exact equalIn_arr 9998 hd hsz hu h hxs hys
    ·cases hk
   ·cases hk
  | _ => cases hk
theorem checkKey_arr (empty : Bool) (d : Nat) (e : TypeId) (hsz : sizeT P e = some 1) (u : KT) (hu : cellT P e = some u) (xs : Array Value) : ∀ (n i : Nat), i + n ≤ xs.size →
  (forIn (List.range' i n) PUnit.unit fun i _ => do
    let z ← sizeOf e
    let a ← part e xs (i * z)
    Instr.checkKey empty (d + 1) e a
    pure (ForInStep.yield PUnit.unit) : Sem PUnit).run P w = .ok PUnit.unit w
 | 0, i, _ => by simp
 | n + 1, i, h => by
  obtain ⟨x, hx⟩ : ∃ x, xs[i]? = some x := ⟨xs[i], Array.getElem?_eq_getElem (by omega)⟩
  have hc : (Instr.checkKey empty (d + 1) e x).run P w = .ok () w := by
   unfold cellT at hu
   cases hd : P.underlying e with
   | none => rw [hd] at hu; cases hu
   | some td =>
    rw [hd] at hu
    cases td <;> first | (cases hu; done) | (unfold Instr.checkKey; simp only [Sem.run_bind, r_und hd, Result.andThen_ok]; cases x <;> rfl)
  rw [List.range'_succ, List.forIn_cons]
  simp only [Sem.run_bind, r_size hsz, Nat.mul_one, r_part hu hx, Result.andThen_ok, hc, Sem.run_pure]
  have ih := checkKey_arr empty d e hsz u hu xs n (i + 1) (by omega)
  exact ih
theorem r_checkKey {t : TypeId} {k : KeyT} (hk : mapKeyT P t = some k) {a b : AV} {r : Bool} (h : eqKey k a b = some r) {x : Value} (hx : VR G a x) (empty : Bool) (d : Nat) :
  (Instr.checkKey empty (d + 1 + 1) t x).run P w = .ok () w := by
 unfold mapKeyT at hk
 cases hd : P.underlying t with
 | none => rw [hd] at hk; simp [keyT, hd] at hk
 | some td =>
  rw [hd] at hk
  cases td with
  | struct fs => cases hk
  | array n e =>
   simp only [keyT, hd] at hk
   split at hk
   ·rename_i u hu
    split at hk
    ·rename_i hsz
     injection hk with hk; subst hk
     cases a <;> simp [eqKey] at h
     rename_i l
     cases b <;> simp at h
     rename_i m
     obtain ⟨xs, rfl, hxs, _⟩ := hx.agg_inv
     have hl := (eqTs_len h).1
     rw [List.length_replicate] at hl
     have hs : xs.size = n := by have := hxs.1; simp only [Array.length_toList] at this; omega
     have := checkKey_arr (w := w) (P := P) empty d e hsz u hu xs n 0 (by omega)
     unfold Instr.checkKey
     simp only [Sem.run_bind, r_und hd, Result.andThen_ok, Std.Legacy.Range.forIn_eq_forIn_range', Std.Legacy.Range.size, Nat.sub_zero, Nat.add_sub_cancel, Nat.div_one] at this ⊢
     rw [this]
     rfl
    ·cases hk
   ·cases hk
  | bool => unfold Instr.checkKey; simp only [Sem.run_bind, r_und hd, Result.andThen_ok]; cases x <;> rfl
  | int k' => unfold Instr.checkKey; simp only [Sem.run_bind, r_und hd, Result.andThen_ok]; cases x <;> rfl
  | string => unfold Instr.checkKey; simp only [Sem.run_bind, r_und hd, Result.andThen_ok]; cases x <;> rfl
  | _ => simp [keyT, hd] at hk
end
/-- The place of the first entry of this key. -/
def idxE (t : KeyT) (k : AV) : List (AV × AV × Nat) → Option (Option Nat)
 | [] => some none
 | (k', _, _) :: es => match eqKey t k k' with
  | some true => some (some 0)
  | some false => (idxE t k es).map fun r => r.map (· + 1)
  | none => none
theorem findE_idx {t : KeyT} {k : AV} : ∀ {es : List (AV × AV × Nat)} {r : Option AV}, findE t k es = some r →
  (r = none ∧ idxE t k es = some none) ∨ ∃ i k' v b, r = some v ∧ idxE t k es = some (some i) ∧ es[i]? = some (k', v, b)
 | [], r, h => by simp only [findE] at h; injection h with h; exact .inl ⟨h.symm, rfl⟩
 | (k', v, b) :: es, r, h => by
  simp only [findE] at h
  split at h
  ·rename_i he
   injection h with h; subst h
   exact .inr ⟨0, k', v, b, rfl, by simp [idxE, he], rfl⟩
  ·rename_i he
   rcases findE_idx h with ⟨h1, h2⟩ | ⟨i, k'', v', b', h1, h2, h3⟩
   ·exact .inl ⟨h1, by simp [idxE, he, h2]⟩
   ·exact .inr ⟨i + 1, k'', v', b', h1, by simp [idxE, he, h2], by simpa using h3⟩
  ·cases h
theorem putE_idx {t : KeyT} {k v : AV} {c : Nat} : ∀ {es : List (AV × AV × Nat)} {r : List (AV × AV × Nat) × Nat}, putE t k v c es = some r →
  (idxE t k es = some none ∧ r = (es ++ [(k, v, c)], c + 1)) ∨ ∃ i k' v' b, idxE t k es = some (some i) ∧ es[i]? = some (k', v', b) ∧ eqKey t k k' = some true ∧ r = (es.set i (k, v, b), c)
 | [], r, h => by simp only [putE] at h; injection h with h; exact .inl ⟨rfl, by simp [← h]⟩
 | (k', v', b) :: es, r, h => by
  simp only [putE] at h
  split at h
  ·rename_i he
   injection h with h; subst h
   exact .inr ⟨0, k', v', b, by simp [idxE, he], rfl, he, by simp⟩
  ·rename_i he
   cases hp : putE t k v c es with
   | none => rw [hp] at h; cases h
   | some q =>
    rw [hp] at h; injection h with h; subst h
    rcases putE_idx hp with ⟨h1, h2⟩ | ⟨i, k'', v'', b', h1, h2, h3, h4⟩
    ·exact .inl ⟨by simp [idxE, he, h1], by simp [h2]⟩
    ·exact .inr ⟨i + 1, k'', v'', b', by simp [idxE, he, h1], by simpa using h2, h3, by simp [h4]⟩
  ·cases h
theorem touchE_idx {t : KeyT} {k z : AV} {c : Nat} : ∀ {es : List (AV × AV × Nat)} {r : AV × Nat × List (AV × AV × Nat) × Nat}, touchE t k z c es = some r →
  (idxE t k es = some none ∧ r = (z, c, es ++ [(k, z, c)], c + 1)) ∨ ∃ i k' v' b, idxE t k es = some (some i) ∧ es[i]? = some (k', v', b) ∧ eqKey t k k' = some true ∧ r = (v', b, es.set i (k, v', b), c)
 | [], r, h => by simp only [touchE] at h; injection h with h; exact .inl ⟨rfl, by simp [← h]⟩
 | (k', v', b) :: es, r, h => by
  simp only [touchE] at h
  split at h
  ·rename_i he
   injection h with h; subst h
   exact .inr ⟨0, k', v', b, by simp [idxE, he], rfl, he, by simp⟩
  ·rename_i he
   cases hp : touchE t k z c es with
   | none => rw [hp] at h; cases h
   | some q =>
    rw [hp] at h; injection h with h; subst h
    rcases touchE_idx hp with ⟨h1, h2⟩ | ⟨i, k'', v'', b', h1, h2, h3, h4⟩
    ·exact .inl ⟨by simp [idxE, he, h1], by simp [h2]⟩
    ·exact .inr ⟨i + 1, k'', v'', b', by simp [idxE, he, h1], by simpa using h2, h3, by simp [h4]⟩
  ·cases h
section
variable {P : Program} {w : World} {G : Gh}
theorem EntR.head {es : List (AV × AV × Nat)} {k v : AV} {b : Nat} {ces : List MapEntry} (h : EntR G ((k, v, b) :: es) ces) : ∃ y c, ces = y :: c ∧ VR G k y.key ∧ VR G v y.val ∧ y.born = b ∧ EntR G es c := by
 cases ces with
 | nil => have := h.1; simp at this
 | cons y c =>
  obtain ⟨h1, h2, h3⟩ := h.2 0 k v b y rfl rfl
  exact ⟨y, c, rfl, h1, h2, h3, by have := h.1; simpa using this, fun j k' v' n y' a1 a2 => h.2 (j + 1) k' v' n y' (by simpa using a1) (by simpa using a2)⟩
theorem findAsking_sound {kt : TypeId} {t : KeyT} (hk : keyT P kt = some t) {k : AV} {ck : Value} (hv : VR G k ck) : ∀ (es : List (AV × AV × Nat)) (ces : List MapEntry) (n : Nat) (oi : Option Nat),
  EntR G es ces → idxE t k es = some oi → (Instr.findAsking kt ck ces n).run P w = .ok (oi.map fun i => (n + i, ((ces[i]?).map (·.val)).getD undef)) w
 | [], ces, n, oi, he, h => by
  have : ces = [] := by have := he.1; simpa using this
  subst this
  simp only [idxE] at h; injection h with h; subst h
  simp [Instr.findAsking]
 | (k', v, b) :: es, ces, n, oi, he, h => by
  obtain ⟨y, c, rfl, h1, h2, h3, h4⟩ := he.head
  simp only [idxE] at h
  simp only [Instr.findAsking, Sem.run_bind]
  split at h
  ·rename_i hq
   injection h with h; subst h
   rw [key_sound hk hq hv h1]
   simp
  ·rename_i hq
   rw [key_sound hk hq hv h1]
   cases hi : idxE t k es with
   | none => rw [hi] at h; cases h
   | some oi' =>
    rw [hi] at h; injection h with h; subst h
    simp only [Result.andThen_ok, Bool.false_eq_true, if_false]
    rw [findAsking_sound hk hv es c (n + 1) oi' h4 hi]
    cases oi' with
    | none => rfl
    | some i => simp; omega
  ·cases h
theorem findNow_sound {kt : TypeId} {u : KT} {td : TypeDesc} (hd : P.underlying kt = some td) (hu : cellT P kt = some u) {k : AV} {ck : Value} (hv : VR G k ck) : ∀ (es : List (AV × AV × Nat)) (ces : List MapEntry) (n : Nat) (oi : Option Nat),
  EntR G es ces → idxE (.one u) k es = some oi → Instr.findNow td ck ces n = some (oi.map fun i => (n + i, ((ces[i]?).map (·.val)).getD undef))
 | [], ces, n, oi, he, h => by
  have : ces = [] := by have := he.1; simpa using this
  subst this
  simp only [idxE] at h; injection h with h; subst h
  simp [Instr.findNow]
 | (k', v, b) :: es, ces, n, oi, he, h => by
  obtain ⟨y, c, rfl, h1, h2, h3, h4⟩ := he.head
  have hs : ∀ q, eqKey (.one u) k k' = some q → Instr.sameNow td ck y.key = some q := by
   intro q hq
   simp only [eqKey] at hq
   unfold cellT at hu
   rw [hd] at hu
   cases td with
   | bool =>
    injection hu with hu; subst hu
    cases k <;> cases k' <;> simp [eqT] at hq
    rw [hv.bool_inv, h1.bool_inv]; simp only [Instr.sameNow]; rw [← hq]; rename_i a b'; cases a <;> cases b' <;> rfl
   | int kk =>
    injection hu with hu; subst hu
    cases k <;> cases k' <;> simp [eqT] at hq
    obtain ⟨e, hq⟩ := hq; subst e
    rw [hv.int_inv, h1.int_inv]; simp only [Instr.sameNow, if_true]; rw [← hq]; rfl
   | string =>
    injection hu with hu; subst hu
    cases k <;> cases k' <;> simp [eqT] at hq
    rw [hv.str_inv, h1.str_inv]; simp only [Instr.sameNow]; rw [← hq]; congr 1
    rw [beq_toListBytes, ByteArray.toList_eq, ByteArray.toList_eq, Bool.eq_iff_iff]; simp
   | _ => cases hu
  simp only [idxE] at h
  simp only [Instr.findNow]
  split at h
  ·rename_i hq
   injection h with h; subst h
   rw [hs true hq]
   simp
  ·rename_i hq
   rw [hs false hq]
   cases hi : idxE (.one u) k es with
   | none => rw [hi] at h; cases h
   | some oi' =>
    rw [hi] at h; injection h with h; subst h
    simp only
    rw [findNow_sound hd hu hv es c (n + 1) oi' h4 hi]
    cases oi' with
    | none => rfl
    | some i => simp; omega
  ·cases h
theorem r_findKey {kt : TypeId} {t : KeyT} (hk : mapKeyT P kt = some t) {k : AV} {ck : Value} (hv : VR G k ck) {es : List (AV × AV × Nat)} {ces : List MapEntry} {oi : Option Nat}
  (he : EntR G es ces) (h : idxE t k es = some oi) : (Instr.findKey kt ck ces).run P w = .ok (oi.map fun i => (i, ((ces[i]?).map (·.val)).getD undef)) w := by
 have hk0 : keyT P kt = some t := by
  unfold mapKeyT at hk
  split at hk
  ·cases hk
  ·exact hk
 have hask := fun (n : Nat) => findAsking_sound (w := w) hk0 hv es ces n oi he h
 cases hd : P.underlying kt with
 | none => simp [keyT, hd] at hk0
 | some td =>
  have hone : ∀ u, cellT P kt = some u → t = .one u → (Instr.findKey kt ck ces).run P w = .ok (oi.map fun i => (i, ((ces[i]?).map (·.val)).getD undef)) w := by
   intro u hu e
   subst e
   have := findNow_sound hd hu hv es ces 0 oi he h
   simp only [Instr.findKey, Sem.run_bind, r_und hd, Result.andThen_ok, this, Nat.zero_add, Sem.run_pure]
  cases td with
  | bool => simp only [keyT, hd] at hk0; injection hk0 with hk0; exact hone .bool (by simp [cellT, hd]) hk0.symm
  | int k' => simp only [keyT, hd] at hk0; injection hk0 with hk0; exact hone .int (by simp [cellT, hd]) hk0.symm
  | string => simp only [keyT, hd] at hk0; injection hk0 with hk0; exact hone .str (by simp [cellT, hd]) hk0.symm
  | struct fs => simp only [mapKeyT, hd] at hk; cases hk
  | array n e =>
   have hq : ∀ y : Value, Instr.sameNow (.array n e) ck y = none := fun y => by cases ck <;> cases y <;> rfl
   cases ces with
   | nil =>
    have : es = [] := by have := he.1; simpa using this.symm
    subst this
    simp only [idxE] at h; injection h with h; subst h
    simp [Instr.findKey, r_und hd, Instr.findNow]
   | cons y c =>
    have hn : Instr.findNow (.array n e) ck (y :: c) 0 = none := by simp [Instr.findNow, hq]
    have := hask 0
    simp only [Instr.findKey, Sem.run_bind, r_und hd, Result.andThen_ok, hn, this, Nat.zero_add]
  | _ => simp [keyT, hd] at hk0
theorem sameBits_eq {t : KeyT} {k k' : AV} (h : eqKey t k k' = some true) {x y : Value} (hx : VR G k x) (hy : VR G k' y) (d : Nat) : Instr.sameBits (d + 1) y x = true := by
 have hcell : ∀ {u : KT} {a b : AV} {x y : Value} (d : Nat), eqT u a b = some true → VR G a x → VR G b y → Instr.sameBits d y x = true := by
  intro u a b x y d h hx hy
  cases u <;> cases a <;> cases b <;> simp [eqT] at h
  ·obtain ⟨e1, e2⟩ := h; subst e1; subst e2
   rw [hx.int_inv, hy.int_inv]; cases d <;> simp [Instr.sameBits]
  ·subst h; rw [hx.str_inv, hy.str_inv]; cases d <;> simp [Instr.sameBits, beq_toListBytes]
  ·subst h; rw [hx.bool_inv, hy.bool_inv]; cases d <;> simp [Instr.sameBits]
 cases t with
 | one u => exact hcell (d + 1) h hx hy
 | many ts =>
  cases k <;> cases k' <;> simp [eqKey] at h
  rename_i l m
  obtain ⟨xs, rfl, hxs, _⟩ := hx.agg_inv
  obtain ⟨ys, rfl, hys, _⟩ := hy.agg_inv
  have hl := eqTs_len h
  simp only [Instr.sameBits, Bool.and_eq_true, beq_iff_eq]
  refine ⟨by have h1 := hxs.1; have h2 := hys.1; simp only [Array.length_toList] at h1 h2; omega, ?_⟩
  have key : ∀ (ts : List KT) (l m : List AV) (c e : List Value), eqTs ts l m = some true → VRs G l c → VRs G m e → ((e.zip c).all fun (p : Value × Value) => Instr.sameBits d p.1 p.2) = true := by
   intro ts
   induction ts with
   | nil => intro l m c e h hc he; cases l <;> cases m <;> simp [eqTs] at h; rw [hc.nil_inv, he.nil_inv]; rfl
   | cons t ts ih =>
    intro l m c e h hc he
    cases l with
    | nil => simp [eqTs] at h
    | cons a l =>
     cases m with
     | nil => simp [eqTs] at h
     | cons b m =>
      obtain ⟨x, c', rfl, v1, hc'⟩ := hc.cons_inv
      obtain ⟨y, e', rfl, v2, he'⟩ := he.cons_inv
      simp only [eqTs] at h
      split at h
      ·rename_i hq
       simp only [List.zip_cons_cons, List.all_cons, Bool.and_eq_true]
       exact ⟨hcell d hq v1 v2, ih l m c' e' h hc' he'⟩
      ·split at h <;> simp at h
      ·cases h
  exact key ts l m xs.toList ys.toList h hxs hys
/-! ### Numbers, bounds -/
theorem natOf_sound {v : AV} {n : Nat} (h : natOf v = some n) {c : Value} (hv : VR G v c) : ∃ k i, c = .int k i ∧ 0 ≤ i ∧ i.toNat = n := by
 cases v <;> simp [natOf] at h
 rename_i k i
 obtain ⟨h0, h1⟩ := h
 exact ⟨k, i, hv.int_inv, h0, h1⟩
theorem r_sliceBound {v : AV} {n y : Nat} (h : natOf v = some n) (hn : n ≤ y) {c : Value} (hv : VR G v c) (code : BoundsCode) : (Instr.sliceBound c y code).run P w = .ok n w := by
 obtain ⟨k, i, rfl, h0, h1⟩ := natOf_sound h hv
 simp only [Instr.sliceBound, asIntOf, Sem.run_bind, Sem.run_pure, Result.andThen_ok, Sem.run_ite]
 rw [if_pos ⟨h0, by omega⟩, h1]
theorem compOpt_sound {e : AEnv} {a : Act} (hop : OpdR G e a) {x : Option Operand} {y : Option AOpd} (h : compOpt x = some y) :
  (x = none ∧ y = none) ∨ ∃ x' y', x = some x' ∧ y = some y' ∧ VR G (ev e y') (a.eval x') := by
 cases x with
 | none => simp only [compOpt] at h; injection h with h; exact .inl ⟨rfl, h.symm⟩
 | some x =>
  simp only [compOpt] at h
  cases hc : compOpd x with
  | none => rw [hc] at h; cases h
  | some y' => rw [hc] at h; injection h with h; exact .inr ⟨x, y', rfl, h.symm, hop.opd hc⟩
theorem r_bounds {e : AEnv} {a : Act} (hop : OpdR G e a) {lo hi : Option Operand} {lo' hi' : Option AOpd} (h1 : compOpt lo = some lo') (h2 : compOpt hi = some hi') {len cap cap' l h : Nat}
  (hb : boundsV (ev e) len cap lo' hi' = some (l, h)) (hlen : len ≤ cap') (hcap : cap ≤ cap') (isSl : Bool) :
  (Instr.sliceBounds isSl len cap' (lo.map a.eval) (hi.map a.eval) none).run P w = .ok (l, h, cap') w ∧ l ≤ h ∧ h ≤ cap := by
 unfold boundsV at hb
 have hh : ∃ h0, (match hi' with | some x => natOf (ev e x) | none => some len) = some h0 ∧ h0 ≤ cap ∧ ∃ l0, (match lo' with | some x => natOf (ev e x) | none => some 0) = some l0 ∧ l0 ≤ h0 ∧ l0 = l ∧ h0 = h := by
  split at hb
  ·rename_i h0 hh0
   split at hb
   ·rename_i hc
    split at hb
    ·rename_i l0 hl0
     split at hb
     ·rename_i hle
      injection hb with hb; injection hb with e1 e2
      exact ⟨h0, hh0, hc, l0, hl0, hle, e1, e2⟩
     ·cases hb
    ·cases hb
   ·cases hb
  ·cases hb
 obtain ⟨h0, hh0, hc, l0, hl0, hle, rfl, rfl⟩ := hh
 refine ⟨?_, hle, hc⟩
 rcases compOpt_sound hop h2 with ⟨rfl, rfl⟩ | ⟨x, y, rfl, rfl, hv⟩
 ·have hh0' : len = h0 := by simpa using hh0
  subst hh0'
  rcases compOpt_sound hop h1 with ⟨rfl, rfl⟩ | ⟨x, y, rfl, rfl, hv⟩
  ·have hl0' : 0 = l0 := by simpa using hl0
   subst hl0'
   simp [Instr.sliceBounds]
  ·have hl0' : natOf (ev e y) = some l0 := by simpa using hl0
   simp [Instr.sliceBounds, r_sliceBound hl0' hle hv]
 ·have hh0' : natOf (ev e y) = some h0 := by simpa using hh0
  rcases compOpt_sound hop h1 with ⟨rfl, rfl⟩ | ⟨x', y', rfl, rfl, hv'⟩
  ·have hl0' : 0 = l0 := by simpa using hl0
   subst hl0'
   simp [Instr.sliceBounds, r_sliceBound hh0' (Nat.le_trans hc hcap) hv]
  ·have hl0' : natOf (ev e y') = some l0 := by simpa using hl0
   simp [Instr.sliceBounds, r_sliceBound hh0' (Nat.le_trans hc hcap) hv, r_sliceBound hl0' hle hv']
/-! ### Sums and the like -/
def noAgg : Value → Prop
 | .nilIface => False
 | .agg _ => False
 | _ => True
def noNum : Value → Prop
 | .int _ _ => False
 | .float _ _ => False
 | .complex _ _ _ => False
 | .string _ => False
 | _ => True
theorem r_eqGuard_scalar {op : BinOp} {t : TypeId} {x y : Operand} {a b : Value} (h : noAgg a) : (eqGuard op t x y a b).run P w = .ok () w := by
 unfold eqGuard
 cases op <;> first
  | rfl
  | (cases a <;> first | (exact h.elim) | rfl | (cases b <;> rfl))
theorem intV_sound {op : BinOp} {k : IntKind} {a b : Int} {v : AV} (h : intV op k a b = some v) (hs : op ≠ .shl) (hs' : op ≠ .shr) (t : TypeId) : ∃ c, (binOp op t (.int k a) (.int k b)).run P w = .ok c w ∧ VR G v c := by
 cases op <;> simp [intV] at h <;> first | (exact absurd rfl hs) | (exact absurd rfl hs') | skip
 case add => subst h; exact ⟨_, by simp [binOp, Op.intArith], .int _ _⟩
 case sub => subst h; exact ⟨_, by simp [binOp, Op.intArith], .int _ _⟩
 case mul => subst h; exact ⟨_, by simp [binOp, Op.intArith], .int _ _⟩
 case quo => obtain ⟨h0, rfl⟩ := h; exact ⟨_, by simp [binOp, Op.intDiv, h0], .int _ _⟩
 case rem => obtain ⟨h0, rfl⟩ := h; exact ⟨_, by simp [binOp, Op.intDiv, h0], .int _ _⟩
 case and => subst h; exact ⟨_, by simp [binOp, Op.intBits] <;> rfl, .int _ _⟩
 case or => subst h; exact ⟨_, by simp [binOp, Op.intBits] <;> rfl, .int _ _⟩
 case xor => subst h; exact ⟨_, by simp [binOp, Op.intBits] <;> rfl, .int _ _⟩
 case andNot => subst h; exact ⟨_, by simp [binOp, Op.intBits] <;> rfl, .int _ _⟩
 case eql => subst h; exact ⟨.bool (decide (a = b)), by simp [binOp, Op.intCmp] <;> rfl, .bool _⟩
 case neq => subst h; exact ⟨.bool (!decide (a = b)), by simp [binOp, Op.intCmp] <;> rfl, .bool _⟩
 case lss => subst h; exact ⟨_, by simp [binOp, Op.intCmp] <;> rfl, .bool _⟩
 case leq => subst h; exact ⟨_, by simp [binOp, Op.intCmp] <;> rfl, .bool _⟩
 case gtr => subst h; exact ⟨_, by simp [binOp, Op.intCmp] <;> rfl, .bool _⟩
 case geq => subst h; exact ⟨_, by simp [binOp, Op.intCmp] <;> rfl, .bool _⟩
theorem binV_sound {op : BinOp} {x y v : AV} (h : binV op x y = some v) {a b : Value} (hx : VR G x a) (hy : VR G y b) (t : TypeId) :
  ((∃ k n, a = .int k n) ∨ ∃ s, a = .string s) ∧ ∃ c, (binOp op t a b).run P w = .ok c w ∧ VR G v c := by
 cases x <;> simp [binV] at h
 ·cases y <;> simp at h
  rename_i k n k' m
  rw [hx.int_inv, hy.int_inv]
  refine ⟨.inl ⟨k, n, rfl⟩, ?_⟩
  by_cases hs : op = .shl
  ·subst hs
   simp only [shV] at h
   split at h
   ·cases h
   ·rename_i hb
    injection h with h; subst h
    exact ⟨_, by simp [binOp, Op.shift, hb] <;> rfl, .int _ _⟩
  ·by_cases hs' : op = .shr
   ·subst hs'
    simp only [shV] at h
    split at h
    ·cases h
    ·rename_i hb
     injection h with h; subst h
     exact ⟨_, by simp [binOp, Op.shift, hb] <;> rfl, .int _ _⟩
   ·have h' : (if k = k' then intV op k n m else none) = some v := by
     cases op <;> first | exact h | (exact absurd rfl hs) | (exact absurd rfl hs')
    split at h'
    ·rename_i e; subst e
     exact intV_sound h' hs hs' t
    ·cases h'
 ·cases y <;> simp at h
  rename_i s s'
  rw [hx.str_inv, hy.str_inv]
  refine ⟨.inr ⟨_, rfl⟩, ?_⟩
  have hsz : ∀ l : List UInt8, (⟨l.toArray⟩ : ByteArray).size = l.length := fun l => by simp [ByteArray.size]
  cases op <;> simp [strV] at h
  case add =>
   obtain ⟨h0, rfl⟩ := h
   refine ⟨.string ⟨(s ++ s').toArray⟩, ?_, .str _⟩
   simp only [binOp, Op.stringOp, hsz, Sem.run_ite]
   rw [if_neg (by simp [IntKind.max, IntKind.bits, IntKind.signed]; omega)]
   simp only [Sem.run_pure]
   congr 2
  case eql =>
   subst h
   refine ⟨_, ?_, .bool _⟩
   simp only [binOp, Op.stringOp, Sem.run_pure, ByteArray.toList_eq]
   congr 2
   rw [Bool.eq_iff_iff]; simp
  case neq =>
   subst h
   refine ⟨_, ?_, .bool _⟩
   simp only [binOp, Op.stringOp, Sem.run_pure, ByteArray.toList_eq]
   congr 2
   rw [Bool.eq_iff_iff]; simp
  case lss =>
   subst h
   refine ⟨_, ?_, .bool _⟩
   simp only [binOp, Op.stringOp, Sem.run_pure, ByteArray.toList_eq]
theorem nilV_func {t : TypeId} {a1 a2 : Array TypeId} {vr : Bool} (hd : P.underlying t = some (.func a1 a2 vr)) {x y : AV} {r : Bool} (h : nilV true x y = some r) {a b : Value} (hx : VR G x a) (hy : VR G y b) :
  (Op.equal t a b).run P w = .ok r w ∧ noAgg a ∧ noNum a := by
 show (Op.equalIn (9999 + 1) t a b).run P w = _ ∧ _ ∧ _
 generalize 9999 = d
 cases x <;> cases y <;> simp [nilV] at h <;> subst h <;> cases hx <;> cases hy <;> (refine ⟨?_, trivial, trivial⟩; unfold Op.equalIn; simp [r_und hd])
theorem nilV_ptr {t e : TypeId} (hd : P.underlying t = some (.pointer e)) {x y : AV} {r : Bool} (h : nilV false x y = some r) {a b : Value} (hx : VR G x a) (hy : VR G y b) :
  (Op.equal t a b).run P w = .ok r w ∧ noAgg a ∧ noNum a := by
 show (Op.equalIn (9999 + 1) t a b).run P w = _ ∧ _ ∧ _
 generalize 9999 = d
 cases x <;> cases y <;> simp [nilV] at h <;> subst h <;> cases hx <;> cases hy <;> (refine ⟨?_, trivial, trivial⟩; unfold Op.equalIn; simp [r_und hd])
end
section
variable {P : Program} {B : Nat} {w0 : World} {G : Gh} {s : ASt} {w : World}
/-- What an operation comes to: a value into its slot, a world, deferred calls. -/
def OpOK (P : Program) (B : Nat) (w0 : World) (G : Gh) (s : ASt) (w : World) (o : Oper) (a : Act) (own : Option Nat) (v : AV) (s' : ASt) : Prop :=
 ∃ cv w' G' ds, (∀ next Q, next (({ a with defers := ds } : Act).put o.dst cv) w' → o.upon P a next Q ((execOp a.eval o).run P w)) ∧ VR G' v cv ∧ G.Le G' ∧ Sim B w0 G' s' w' ∧ DfrR G' s'.dfr ds ∧ G.Keep s.ctr own G'
theorem OpOK.val {o : Oper} {a : Act} {own : Option Nat} {v : AV} (h : Sim B w0 G s w) (hd : DfrR G s.dfr a.defers) {cv : Value} (hr : (execOp a.eval o).run P w = .ok (.value cv) w) (hv : VR G v cv) : OpOK P B w0 G s w o a own v s :=
 ⟨cv, w, G, a.defers, fun next Q hn => by rw [hr]; exact hn, hv, .refl G, h, hd, .refl G _ _⟩
/-- Numbers are added as they stand. -/
theorem add_add (a : Addr) (i j : Nat) : (a.add i).add j = a.add (i + j) := by
 unfold Addr.add
 by_cases h1 : i = 0 <;> by_cases h2 : j = 0 <;> simp [h1, h2, Nat.add_assoc]
/-- Cells that are read through an address. -/
theorem ld_sound (h : Sim B w0 G s w) {t : TypeId} {g : Bool} {sz : Nat} (hg : aggT P t = some g) (hs : sizeT P t = some sz) {x v : AV} (hv : ldV g sz s.heap x = some v) {c : Value} (hx : VR G x c) :
  ∃ ad cv, c = .pointer (some ad) ∧ (loadVar t ad).run P w = .ok cv w ∧ VR G v cv := by
 cases x <;> simp [ldV] at hv
 ·rename_i id off
  cases hx with
  | ptr hb =>
   rename_i b
   obtain ⟨_, _, _, o, x, ho, hx, hr⟩ := h.obj id b hb
   rw [ho] at hv
   cases hr with
   | cells h1 h2 =>
    rename_i l cs ty
    simp only [ldObj] at hv
    obtain ⟨cv, h3, h4⟩ := r_loadVar (w := w) hg hs (ad := ⟨b, off, none⟩) hv (h1.drop off) (fun x hx => h2 x (List.mem_of_mem_drop hx)) (fun j c hj => by
     rw [add_at]
     rw [List.getElem?_drop] at hj
     simp only [World.cell?, hx]
     simpa using hj)
    exact ⟨_, cv, rfl, h3, h4⟩
   | map h1 => simp [ldObj] at hv
 ·rename_i cells
  cases hx with
  | eref cv h1 h2 h3 =>
   rename_i ad
   obtain ⟨cv', h4, h5⟩ := r_loadVar (w := w) hg hs (ad := ad) hv (cs := (List.range cells.length).map cv) ⟨by simp, fun j x y hx hy => by
     have hj : j < cells.length := by
      rcases Nat.lt_or_ge j cells.length with h' | h'
      ·exact h'
      ·rw [List.getElem?_eq_none h'] at hx; cases hx
     simp [List.getElem?_map, List.getElem?_range hj] at hy
     subst hy
     exact h2 j x hx⟩ h3 (fun j c hj => by
     have hj' : j < cells.length := by
      rcases Nat.lt_or_ge j cells.length with h' | h'
      ·exact h'
      ·rw [List.getElem?_eq_none (by simpa using h')] at hj; cases hj
     simp [List.getElem?_map, List.getElem?_range hj'] at hj
     subst hj
     exact h.comm _ _ (h1 j hj'))
   exact ⟨ad, cv', rfl, h4, h5⟩
theorem rowParts_sound {e : AEnv} {a : Act} (hop : OpdR G e a) {sz : Nat} : ∀ (xs : List (Nat × Operand)) (i : Nat) (ps : List AOpd) (es : List AV), rowParts xs i = some ps → partsV (ev e) sz ps = some es →
  (∀ (j k : Nat) (x : Operand), xs[j]? = some (k, x) → k = i + j) ∧ es.length = xs.length ∧ (∀ (j k : Nat) (x : Operand) (z : AV), xs[j]? = some (k, x) → es[j]? = some z → VR G z (a.eval x)) ∧
  ∀ z ∈ es, z.okc = true ∧ z.cells.length = sz
 | [], i, ps, es, h, hp => by
  simp only [rowParts] at h; injection h with h; subst h
  simp only [partsV] at hp; injection hp with hp; subst hp
  simp
 | (k, x) :: xs, i, ps, es, h, hp => by
  simp only [rowParts] at h
  split at h
  ·rename_i e
   subst e
   split at h
   ·rename_i y r hy hr
    injection h with h; subst h
    simp only [partsV] at hp
    split at hp
    ·rename_i hc
     cases hq : partsV (ev e) sz r with
     | none => rw [hq] at hp; cases hp
     | some q =>
      rw [hq] at hp; injection hp with hp; subst hp
      obtain ⟨h1, h2, h3, h4⟩ := rowParts_sound hop xs (k + 1) r q hr hq
      refine ⟨fun j k' x' hj => ?_, by simp [h2], fun j k' x' z hj hz => ?_, fun z hz => ?_⟩
      ·cases j with
       | zero => simp at hj; rw [hj.1]; rfl
       | succ j => have := h1 j k' x' (by simpa using hj); omega
      ·cases j with
       | zero => simp at hj hz; rw [← hz, ← hj.2]; exact hop.opd hy
       | succ j => exact h3 j k' x' z (by simpa using hj) (by simpa using hz)
      ·cases hz with
       | head => exact hc
       | tail _ hz => exact h4 z hz
    ·cases hp
   ·cases h
  ·cases h
/-- rows of one size, one behind the other -/
theorem flat_get {α : Type} (f : α → List Value) (sz : Nat) : ∀ (l : List α), (∀ x ∈ l, (f x).length = sz) → (l.flatMap f).length = l.length * sz ∧ ∀ i x j, l[i]? = some x → j < sz → (l.flatMap f)[i * sz + j]? = (f x)[j]?
 | [], _ => ⟨by simp, by simp⟩
 | y :: l, h => by
  obtain ⟨h1, h2⟩ := flat_get f sz l (fun x hx => h x (List.mem_cons_of_mem _ hx))
  have hy := h y (List.mem_cons_self ..)
  refine ⟨by rw [List.flatMap_cons, List.length_append, hy, h1, List.length_cons, Nat.succ_mul]; omega, fun i x j hi hj => ?_⟩
  rw [List.flatMap_cons]
  cases i with
  | zero =>
   simp at hi; subst hi
   rw [Nat.zero_mul, Nat.zero_add, List.getElem?_append_left (by omega)]
  | succ i =>
   rw [List.getElem?_append_right (by rw [hy, Nat.succ_mul]; omega), hy]
   rw [show (i + 1) * sz + j - sz = i * sz + j from by rw [Nat.succ_mul]; omega]
   exact h2 i x j (by simpa using hi) hj
theorem fill_row {P : Program} (sz : Nat) (hz : sz ≠ 0) : ∀ (vs : List Value) (i : Nat) (cs : Array Value), (∀ v ∈ vs, v.cells.size = sz) → (i + vs.length) * sz ≤ cs.size →
  Instr.fill (fun i => some (i * sz, sz)) cs ((vs.zipIdx i).map fun p => (p.2, p.1)) = some (putCells cs (i * sz) (vs.flatMap fun v => v.cells.toList))
 | [], i, cs, _, _ => rfl
 | v :: vs, i, cs, h, hs => by
  have hv := h v (List.mem_cons_self ..)
  simp only [List.length_cons] at hs
  have hs' : i * sz + sz ≤ cs.size := by rw [← Nat.succ_mul]; exact Nat.le_trans (Nat.mul_le_mul_right _ (by omega)) hs
  rw [List.zipIdx_cons, List.map_cons]
  simp only [Instr.fill]
  rw [if_neg (by simp only [Bool.or_eq_true, decide_eq_true_eq]; omega)]
  have e1 : v.cells.zipIdx.foldl (fun cs (p : Value × Nat) => cs.setIfInBounds (i * sz + p.2) p.1) cs = putCells cs (i * sz) v.cells.toList := by
   have h0 := fold_putCells (i * sz) v.cells.toList 0 cs
   rw [Nat.add_zero] at h0
   rw [← h0, ← Array.foldl_toList]
   simp
  have e2 : ∀ (a b : List Value) (off : Nat) (cs : Array Value), putCells (putCells cs off a) (off + a.length) b = putCells cs off (a ++ b) := by
   intro a
   induction a with
   | nil => intro b off cs; rfl
   | cons x a ih => intro b off cs; simp only [putCells, List.length_cons, List.cons_append]; rw [show off + (a.length + 1) = off + 1 + a.length from by omega]; exact ih b (off + 1) _
  have ih := fill_row (P := P) sz hz vs (i + 1) (putCells cs (i * sz) v.cells.toList) (fun u hu => h u (List.mem_cons_of_mem _ hu)) (by rw [putCells_size]; rw [show i + 1 + vs.length = i + (vs.length + 1) from by omega]; exact hs)
  have e3 : (fun cs (p : Value × Nat) => match p with | (c, j) => cs.setIfInBounds (i * sz + j) c) = fun (cs : Array Value) (p : Value × Nat) => cs.setIfInBounds (i * sz + p.2) p.1 := by funext cs p; rfl
  show Instr.fill _ (v.cells.zipIdx.foldl (fun cs (p : Value × Nat) => cs.setIfInBounds (i * sz + p.2) p.1) cs) _ = _
  rw [e1, ih, List.flatMap_cons]
  congr 1
  have h5 : (i + 1) * sz = i * sz + v.cells.toList.length := by rw [Nat.succ_mul, Array.length_toList, hv]
  rw [h5, e2]
/-- A row that is written out. -/
theorem buildSlice_sound (h : Sim B w0 G s w) {e : AEnv} {a : Act} (hop : OpdR G e a) {t el : TypeId} {len sz : Nat} {z : Value} {parts : Array (Nat × Operand)} (hd : P.underlying t = some (.slice el)) (hs : sizeT P el = some sz)
  (hz : zeroVal P el = some z) (hlen : parts.size = len) (hmax : len * sz ≤ 16777216) (hsz : sz ≠ 0) (hzs : z.cells.size = sz) {ps : List AOpd} (hp : rowParts parts.toList 0 = some ps) {es : List AV} (he : partsV (ev e) sz ps = some es) :
  ∃ cv w' G', (Instr.buildSlice t len (parts.map fun (i, x) => (i, a.eval x))).run P w = .ok cv w' ∧ VR G' (.slice .full es) cv ∧ G.Le G' ∧ Sim B w0 G' s w' ∧ G'.ρ = G.ρ ∧ G'.I = G.I := by
 obtain ⟨h1, h2, h3, h4⟩ := rowParts_sound hop parts.toList 0 ps es hp he
 have hpl : parts.toList.length = len := by simpa using hlen
 rw [hpl] at h2
 let vs : List Value := parts.toList.map fun q => a.eval q.2
 have hvl : vs.length = len := by simp [vs, hlen]
 have hvs : ∀ v ∈ vs, v.cells.size = sz := by
  intro v hv
  obtain ⟨j, hj⟩ := List.getElem?_of_mem hv
  simp only [vs, List.getElem?_map] at hj
  cases hq : parts.toList[j]? with
  | none => rw [hq] at hj; cases hj
  | some q =>
   rw [hq] at hj; injection hj with hj; subst hj
   have hjl : j < es.length := by
    have : j < parts.toList.length := by
     rcases Nat.lt_or_ge j parts.toList.length with h' | h'
     ·exact h'
     ·rw [List.getElem?_eq_none h'] at hq; cases hq
    omega
   have hv := h3 j q.1 q.2 es[j] hq (List.getElem?_eq_getElem hjl)
   have := (h4 es[j] (List.getElem_mem hjl)).2
   have h6 := hv.cells_.1
   rw [Array.length_toList] at h6
   show (a.eval q.2).cells.size = sz
   omega
 let zero : Array Value := if len * sz = 0 then #[] else z.cells
 let base : Array Value := (Array.range (len * sz)).map (zero[· % zero.size]!)
 have hbase : base.size = len * sz := by simp [base]
 have hpe : (parts.map fun (q : Nat × Operand) => (q.1, a.eval q.2)).toList = (vs.zipIdx 0).map fun p => (p.2, p.1) := by
  apply List.ext_getElem?
  intro j
  simp only [Array.toList_map, List.getElem?_map, vs, List.getElem?_zipIdx]
  cases hq : parts.toList[j]? with
  | none => simp
  | some q =>
   have := h1 j q.1 q.2 hq
   simp [this]
 have hfill := fill_row (P := P) sz hsz vs 0 base hvs (by rw [hbase, Nat.zero_add, hvl]; exact Nat.le_refl _)
 rw [Nat.zero_mul] at hfill
 obtain ⟨hfl, hfg⟩ := flat_get (fun v : Value => v.cells.toList) sz vs (fun v hv => by rw [Array.length_toList]; exact hvs v hv)
 obtain ⟨G', hle, hsim, hC, hρ, hI⟩ := h.commit (putCells base 0 (vs.flatMap fun v => v.cells.toList)) el (0, 0)
 have hcell : ∀ i v j, vs[i]? = some v → j < sz → (putCells base 0 (vs.flatMap fun v => v.cells.toList))[i * sz + j]? = v.cells.toList[j]? := by
  intro i v j hi hj
  have hil : i < vs.length := by
   rcases Nat.lt_or_ge i vs.length with h' | h'
   ·exact h'
   ·rw [List.getElem?_eq_none h'] at hi; cases hi
  have hlt : i * sz + j < vs.length * sz := by
   have : (i + 1) * sz ≤ vs.length * sz := Nat.mul_le_mul_right _ hil
   rw [Nat.succ_mul] at this; omega
  rw [putCells_get _ _ _ _ (by rw [hfl, hbase, hvl]; omega), if_pos ⟨Nat.zero_le _, by rw [hfl]; omega⟩]
  rw [Nat.sub_zero]
  exact hfg i v j hi hj
 refine ⟨.slice (some ⟨w.heap.size, 0, none⟩) len len, _, G', ?_, ?_, hle, hsim, hρ, hI⟩
 ·simp only [Instr.buildSlice, Sem.run_bind, r_und hd, r_size hs, Result.andThen_ok, Sem.run_ite]
  rw [if_neg (by omega)]
  have hpe' : (Array.map (fun (x : Nat × Operand) => (x.1, a.eval x.2)) parts).toList = (vs.zipIdx 0).map fun p => (p.2, p.1) := hpe
  have hfill' : Instr.fill (fun i => some (i * sz, sz)) (Array.map (fun x => zero[x % zero.size]!) (Array.range (len * sz))) (Array.map (fun (x : Nat × Operand) => (x.1, a.eval x.2)) parts).toList = some (putCells base 0 (vs.flatMap fun v => v.cells.toList)) := by
   rw [hpe']; exact hfill
  by_cases hq : len * sz = 0
  ·have hz0 : zero = #[] := if_pos hq
   rw [hz0] at hfill'
   simp only [if_pos hq, Sem.run_pure, Result.andThen_ok]
   rw [hfill']
   simp [newRow]
  ·have hz0 : zero = z.cells := if_neg hq
   rw [hz0] at hfill'
   simp only [if_neg hq, r_zero hz, Sem.run_pure, Result.andThen_ok]
   rw [hfill']
   simp [newRow]
 ·refine .slice sz (fun j => (putCells base 0 (vs.flatMap fun v => v.cells.toList)).getD j undef) h2.symm rfl (fun z hz' => ?_) (fun _ => rfl) (fun ad ha j hj => ?_) (fun i z j x hi hj => ?_)
  ·obtain ⟨j, hj⟩ := List.getElem?_of_mem hz'
   have hjl : j < es.length := by
    rcases Nat.lt_or_ge j es.length with h' | h'
    ·exact h'
    ·rw [List.getElem?_eq_none h'] at hj; cases hj
   obtain ⟨q, hq⟩ : ∃ q, parts.toList[j]? = some q := ⟨parts.toList[j]'(by omega), List.getElem?_eq_getElem _⟩
   exact ⟨(h4 z hz').1, (h4 z hz').2, (h3 j q.1 q.2 z hq hj).cells_ok (h4 z hz').1⟩
  ·injection ha with ha; subst ha
   rw [add_at, Nat.zero_add]
   refine hC j _ ?_
   have : j < (putCells base 0 (vs.flatMap fun v => v.cells.toList)).size := by rw [putCells_size, hbase, ← h2]; exact hj
   rw [Array.getElem?_eq_getElem this]
   simp [this]
  ·have hil : i < es.length := by
    rcases Nat.lt_or_ge i es.length with h' | h'
    ·exact h'
    ·rw [List.getElem?_eq_none h'] at hi; cases hi
   obtain ⟨q, hq⟩ : ∃ q, parts.toList[i]? = some q := ⟨parts.toList[i]'(by omega), List.getElem?_eq_getElem _⟩
   have hv := (h3 i q.1 q.2 z hq hi).mono hle
   obtain ⟨y, hy, vy⟩ := hv.cells_.get hj
   have hjs : j < sz := by
    have := (h4 z (List.mem_of_getElem? hi)).2
    rcases Nat.lt_or_ge j z.cells.length with h' | h'
    ·omega
    ·rw [List.getElem?_eq_none h'] at hj; cases hj
   have := hcell i (a.eval q.2) j (by simp [vs, hq]) hjs
   rw [hy] at this
   have e : (putCells base 0 (vs.flatMap fun v => v.cells.toList)).getD (i * sz + j) undef = y := by
    rw [Array.getD_eq_getD_getElem?, this]; rfl
   rw [e]; exact vy
end
end Go.Proofs.YtdohdncgjendkaaDoor.Abs
