/- From the model's code to the abstract machine's: the types' numbers are looked up once. -/
import Derived.Test.YtggdpckdlcngpaaDoorAbs0
namespace Go.Proofs.YtggdpckdlcngpaaDoor.Abs

def ofCell : Value → Option AV
  | .bool b => some (.bool b)
  | .int k n => some (.int k n)
  | .string s => some (.str s.data.toList)
  | .pointer none => some .nilp
  | .slice none 0 0 => some (.slice .full [])
  | .map none => some .nilmap
  | .nilFunc => some .nilfunc
  | .func (.func f) ⟨[]⟩ ⟨[]⟩ => some (.func f [] [])
  | _ => none

def ofCells : List Value → Option (List AV)
  | [] => some []
  | v :: l => match ofCell v, ofCells l with
    | some a, some r => some (a :: r)
    | _, _ => none

def ofVal : Value → Option AV
  | .agg cs => (ofCells cs.toList).map .agg
  | .tuple cs => (ofCells cs.toList).map .tuple
  | v => ofCell v

def zeroVal (P : Program) (t : TypeId) : Option Value := (P.info? t).bind (·.zero)
def zeroCs (P : Program) (t : TypeId) : Option (List AV) := (zeroVal P t).bind fun v => ofCells v.cells.toList
def zeroAV (P : Program) (t : TypeId) : Option AV := (zeroVal P t).bind ofVal
def sizeT (P : Program) (t : TypeId) : Option Nat := (P.info? t).map (·.size)
def bytesT (P : Program) (t : TypeId) : Option Nat := (P.info? t).map (·.bytes)

def isAggD : TypeDesc → Bool
  | .struct _ => true
  | .array _ _ => true
  | _ => false

def aggT (P : Program) (t : TypeId) : Option Bool := (P.underlying t).map isAggD

def compOpd : Operand → Option AOpd
  | .tmp t => some (.tmp t)
  | .const v => (ofVal v).map .val
  | .func f => some (.val (.func f [] []))
  | .global _ => none

def compOpds : List Operand → Option (List AOpd)
  | [] => some []
  | x :: l => match compOpd x, compOpds l with
    | some a, some r => some (a :: r)
    | _, _ => none

def compOpt : Option Operand → Option (Option AOpd)
  | none => some none
  | some x => (compOpd x).map some

/-- a type of one cell that is compared by sight -/
def cellT (P : Program) (t : TypeId) : Option KT :=
  match P.underlying t with
  | some .bool => some .bool
  | some (.int _) => some .int
  | some .string => some .str
  | _ => none

/-- fields of one cell each, one behind the other, all compared -/
def plainFields (P : Program) : List Field → Nat → Option (List KT)
  | [], _ => some []
  | f :: l, i => match cellT P f.type, plainFields P l (i + 1) with
    | some t, some ts => if f.offset = i ∧ f.name ≠ "_" then some (t :: ts) else none
    | _, _ => none

/-- how the values of a type are compared -/
def keyT (P : Program) (t : TypeId) : Option KeyT :=
  match P.underlying t with
  | some .bool => some (.one .bool)
  | some (.int _) => some (.one .int)
  | some .string => some (.one .str)
  | some (.struct fs) => match plainFields P fs.toList 0 with
    | some ts => if P.stoodInHeld t = false then some (.many ts) else none
    | none => none
  | some (.array n e) => match cellT P e with
    | some u => if sizeT P e = some 1 then some (.many (List.replicate n u)) else none
    | none => none
  | _ => none

/-- how the keys of a map are compared (no structs) -/
def mapKeyT (P : Program) (t : TypeId) : Option KeyT :=
  match P.underlying t with
  | some (.struct _) => none
  | _ => keyT P t

def structParts (P : Program) (fs : Array Field) : List (Nat × Operand) → Option (List (Nat × Nat × AOpd))
  | [] => some []
  | (i, x) :: l => match fs[i]? with
    | some f => match sizeT P f.type, compOpd x, structParts P fs l with
      | some sz, some a, some r => some ((f.offset, sz, a) :: r)
      | _, _, _ => none
    | none => none

def arrParts (sz : Nat) : List (Nat × Operand) → Option (List (Nat × Nat × AOpd))
  | [] => some []
  | (i, x) :: l => match compOpd x, arrParts sz l with
    | some a, some r => some ((i * sz, sz, a) :: r)
    | _, _ => none

/-- all elements, in their order -/
def rowParts : List (Nat × Operand) → Nat → Option (List AOpd)
  | [], _ => some []
  | (j, x) :: l, i => if j = i then match compOpd x, rowParts l (i + 1) with
      | some a, some r => some (a :: r)
      | _, _ => none
    else none

def isEq : BinOp → Option Bool
  | .eql => some false
  | .neq => some true
  | _ => none

def compBin (P : Program) (op : BinOp) (t : TypeId) (x y : AOpd) : Option AOp :=
  match P.underlying t with
  | some (.int _) => some (.bin op x y)
  | some .string => some (.bin op x y)
  | some (.func _ _ _) => (isEq op).map fun n => .binNil true n x y
  | some (.pointer _) => (isEq op).map fun n => .binNil false n x y
  | _ => match isEq op, keyT P t with
    | some n, some k => if P.eqGuardType P.depth t then none else some (.binEq k n x y)
    | _, _ => none

def compConv (P : Program) (src dst : TypeId) (x : AOpd) : Option AOp :=
  match P.underlying src, P.underlying dst with
  | some (.int _), some (.int k) => some (.convInt k x)
  | some (.int _), some .string => some (.convRune x)
  | some .string, some .string => some (.convStr x)
  | some (.slice e), some .string => match P.underlying e with
    | some (.int .u8) => some (.convBytes x)
    | _ => none
  | _, _ => none

def compLen (P : Program) (t : TypeId) (x : AOpd) : Option AOp :=
  match P.underlying t with
  | some .string => some (.lenOf true x)
  | some (.slice _) => some (.lenOf false x)
  | some (.map _ _) => some (.lenMap x)
  | some (.array n _) => some (.move (.val (.int .i64 n)))
  | _ => none

def compAppend (P : Program) (k : Nat) (t u : TypeId) (x y : AOpd) : Option AOp :=
  match P.underlying t, P.underlying u with
  | some (.slice _), some (.int _) => none
  | some (.slice e), some _ => match sizeT P e, bytesT P e, zeroVal P e with
    | some sz, some bytes, some z => if sz ≠ 0 ∧ bytes ≠ 0 ∧ z.cells.size = sz then some (.append k sz bytes x y) else none
    | _, _, _ => none
  | _, _ => none

def compCall (P : Program) (k : Nat) (c : Call) : Option AOp :=
  match c.callee with
  | .value f => match compOpd f, compOpds c.args.toList with
    | some a, some l => some (.call a l)
    | _, _ => none
  | .builtin .len => match c.args.toList, c.argTypes.toList with
    | [x], [t] => (compOpd x).bind (compLen P t)
    | _, _ => none
  | .builtin .append => match c.args.toList, c.argTypes.toList with
    | [x, y], [t, u] => match compOpd x, compOpd y with
      | some a, some b => compAppend P k t u a b
      | _, _ => none
    | _, _ => none
  | .builtin .max => match c.args.toList with
    | [x, y] => match compOpd x, compOpd y with
      | some a, some b => some (.mx true a b)
      | _, _ => none
    | _ => none
  | .builtin .min => match c.args.toList with
    | [x, y] => match compOpd x, compOpd y with
      | some a, some b => some (.mx false a b)
      | _, _ => none
    | _ => none
  | _ => none

def compSlice (P : Program) (t : TypeId) (x : AOpd) (lo hi : Option AOpd) : Option AOp :=
  match P.underlying t with
  | some .string => some (.sliceStr x lo hi)
  | some (.slice e) => (sizeT P e).map fun sz => .sliceSl sz x lo hi
  | some (.array n e) => (sizeT P e).map fun sz => .sliceArr n sz x lo hi
  | _ => none

def compOp (P : Program) (k : Nat) : Op → Option AOp
  | .move x => (compOpd x).map .move
  | .assign x => (compOpd x).map .move
  | .pick c a b => match compOpd c, compOpd a, compOpd b with
    | some c, some a, some b => some (.pick c a b)
    | _, _, _ => none
  | .alloc t => match zeroCs P t with
    | some z => some (.alloc k z)
    | none => none
  | .box t x => match compOpd x, sizeT P t with
    | some x, some _ => some (.box k x)
    | _, _ => none
  | .build t parts => match P.underlying t, zeroCs P t with
    | some (.struct fs), some z => if fs.toList.all (fun f => (sizeT P f.type).isSome) then (structParts P fs parts.toList).map fun ps => .build z ps else none
    | some (.array _ e), some z => match sizeT P e with
      | some sz => (arrParts sz parts.toList).map fun ps => .build z ps
      | none => none
    | _, _ => none
  | .buildSlice t len parts => match P.underlying t with
    | some (.slice e) => match sizeT P e, zeroVal P e with
      | some sz, some z => if parts.size = len ∧ len * sz ≤ 16777216 ∧ sz ≠ 0 ∧ z.cells.size = sz then (rowParts parts.toList 0).map fun ps => .buildSlice sz ps else none
      | _, _ => none
    | _ => none
  | .load t x => match aggT P t, sizeT P t, compOpd x with
    | some g, some sz, some x => if g || sz == 1 then some (.load g sz x) else none
    | _, _, _ => none
  | .store t a x => match sizeT P t, compOpd a, compOpd x with
    | some sz, some a, some x => some (.store sz a x)
    | _, _, _ => none
  | .nilCheck x => (compOpd x).map .nilCheck
  | .binOp op t x y _ => match compOpd x, compOpd y with
    | some x, some y => compBin P op t x y
    | _, _ => none
  | .unOp op _ x => (compOpd x).map (.un op)
  | .convert src dst x => (compOpd x).bind (compConv P src dst)
  | .makeFunc (.func f) first captured => match compOpds first.toList, compOpds captured.toList with
    | some a, some b => some (.mkfunc f a b)
    | _, _ => none
  | .makeMap _ none => some (.mkmap k)
  | .slice t x lo hi none => match compOpd x, compOpt lo, compOpt hi with
    | some x, some lo, some hi => compSlice P t x lo hi
    | _, _, _ => none
  | .fieldAddr s x f => match P.underlying s, compOpd x with
    | some (.struct fs), some x => match fs[f]? with
      | some fd => match sizeT P fd.type with
        | some sz => if sz ≠ 0 then some (.fieldAddr fd.offset x) else none
        | none => none
      | none => none
    | _, _ => none
  | .field t x f => match P.underlying t, compOpd x with
    | some (.struct fs), some x => match fs[f]? with
      | some fd => match aggT P fd.type, sizeT P fd.type with
        | some g, some sz => some (.field g sz fd.offset x)
        | _, _ => none
      | none => none
    | _, _ => none
  | .indexAddr t x i => match P.underlying t, compOpd x, compOpd i with
    | some (.slice e), some x, some i => (sizeT P e).map fun sz => .idxAddr sz x i
    | some (.array n e), some x, some i => (sizeT P e).map fun sz => .idxAddrArr n sz x i
    | _, _, _ => none
  | .index t x i => match P.underlying t, compOpd x, compOpd i with
    | some .string, some x, some i => some (.idxStr x i)
    | some (.array n e), some x, some i => match aggT P e, sizeT P e with
      | some g, some sz => some (.idxArr n g sz x i)
      | _, _ => none
    | _, _, _ => none
  | .lookup t m i ok => match P.underlying t, compOpd m, compOpd i with
    | some (.map kt et), some m, some i => match mapKeyT P kt, zeroAV P et with
      | some t, some z => some (.lookup t z ok m i)
      | _, _ => none
    | _, _, _ => none
  | .mapUpdate t m i x => match P.underlying t, compOpd m, compOpd i, compOpd x with
    | some (.map kt _), some m, some i, some x => (mapKeyT P kt).map fun t => .mapUpd t m i x
    | _, _, _, _ => none
  | .insert t m i x => match P.underlying t, compOpd m, compOpd i, compOpd x with
    | some (.map kt _), some m, some i, some x => (mapKeyT P kt).map fun t => .mapUpd t m i x
    | _, _, _, _ => none
  | .mapEntry t m i => match P.underlying t, compOpd m, compOpd i with
    | some (.map kt et), some m, some i => match mapKeyT P kt, zeroAV P et with
      | some t, some z => some (.mapTouch t z m i)
      | _, _ => none
    | _, _, _ => none
  | .entryStore _ m n x => match compOpd m, compOpd n, compOpd x with
    | some m, some n, some x => some (.entrySet m n x)
    | _, _, _ => none
  | .extract x n => (compOpd x).map (.extract n)
  | .call c => compCall P k c
  | .defer c => match c.callee with
    | .value f => match compOpd f, compOpds c.args.toList with
      | some a, some l => some (.defer a l)
      | _, _ => none
    | _ => none
  | _ => none

/-- how many objects of its own an operation makes -/
def AOp.own : AOp → Nat
  | .alloc .. => 1
  | .box .. => 1
  | .mkmap .. => 1
  | .append .. => 1
  | _ => 0

def slotOf (ops : Array Oper) (j : Nat) : Option Nat := (ops[j]?).bind (·.dst)

def compGuard (ops : Array Oper) : Option (Nat × Bool) → Option (Option (Nat × Bool))
  | none => some none
  | some (j, want) => (slotOf ops j).map fun t => some (t, want)

def dstOK (nt : Nat) : Option Nat → Bool
  | some d => decide (d < nt)
  | none => true

def compOper (P : Program) (ops : Array Oper) (nt k : Nat) (o : Oper) : Option AOper :=
  match compOp P k o.op, compGuard ops o.guard with
  | some a, some g => if dstOK nt o.dst then some ⟨o.dst, g, a⟩ else none
  | _, _ => none

def compOps (P : Program) (ops : Array Oper) (nt : Nat) : List Oper → Nat → Option (List AOper)
  | [], _ => some []
  | o :: l, k => match compOper P ops nt k o with
    | some a => (compOps P ops nt l (k + a.op.own)).map (a :: ·)
    | none => none

def ownSum : List AOper → Nat
  | [] => 0
  | o :: l => o.op.own + ownSum l

def preOf : List AOper → List (Nat × List AV)
  | [] => []
  | o :: l => match o.op with
    | .alloc k z => (k, z) :: preOf l
    | _ => preOf l

/-! ### Open orders -/

def edgesOf (o : Oper) : List Nat := (o.after.toList.filter (Region.binds .any)).map (·.on)

/-- for each operation all that must be ahead of it -/
def ancsFrom : List Oper → List (List Nat) → List (List Nat)
  | [], acc => acc
  | o :: l, acc => ancsFrom l (acc ++ [(edgesOf o ++ (edgesOf o).flatMap fun j => acc.getD j []).eraseDups])

def AOp.looks : AOp → Bool
  | .alloc .. => true
  | .load .. => true
  | .convBytes .. => true
  | .lookup .. => true
  | .lenMap .. => true
  | _ => false

def AOp.turns (o : AOp) : Bool :=
  match o.kd with
  | .v => false
  | _ => true

def anc (A : List (List Nat)) (i j : Nat) : Bool := (A.getD i []).contains j

/-- what an operation looks at -/
def AOp.opds : AOp → List AOpd
  | .move x => [x]
  | .pick c a b => [c, a, b]
  | .alloc _ _ => []
  | .box _ x => [x]
  | .build _ parts => parts.map (·.2.2)
  | .buildSlice _ parts => parts
  | .load _ _ x => [x]
  | .store _ a x => [a, x]
  | .nilCheck x => [x]
  | .bin _ x y => [x, y]
  | .binNil _ _ x y => [x, y]
  | .binEq _ _ x y => [x, y]
  | .un _ x => [x]
  | .convInt _ x => [x]
  | .convRune x => [x]
  | .convStr x => [x]
  | .convBytes x => [x]
  | .mkfunc _ first captured => first ++ captured
  | .mkmap _ => []
  | .sliceStr x lo hi => x :: (lo.toList ++ hi.toList)
  | .sliceSl _ x lo hi => x :: (lo.toList ++ hi.toList)
  | .sliceArr _ _ x lo hi => x :: (lo.toList ++ hi.toList)
  | .fieldAddr _ x => [x]
  | .field _ _ _ x => [x]
  | .idxAddr _ x i => [x, i]
  | .idxAddrArr _ _ x i => [x, i]
  | .idxStr x i => [x, i]
  | .idxArr _ _ _ x i => [x, i]
  | .lookup _ _ _ m i => [m, i]
  | .mapUpd _ m k v => [m, k, v]
  | .mapTouch _ _ m k => [m, k]
  | .entrySet m n v => [m, n, v]
  | .extract _ x => [x]
  | .call f args => f :: args
  | .append _ _ _ s x => [s, x]
  | .lenOf _ x => [x]
  | .lenMap x => [x]
  | .mx _ x y => [x, y]
  | .defer f args => f :: args

def tmpOf : AOpd → Option Nat
  | .tmp t => some t
  | .val _ => none

def AOper.reads (o : AOper) : List Nat := o.op.opds.filterMap tmpOf ++ match o.guard with
  | some (t, _) => [t]
  | none => []

/-- what two operations (i ahead of j in the text) must be to one another -/
def pairOK (A : List (List Nat)) (i j : Nat) (a b : AOper) : Bool :=
  (match a.dst with
    | some d => (!b.reads.contains d || anc A j i) && b.dst != some d
    | none => true)
  && (match b.dst with
    | some d => !a.reads.contains d || anc A j i
    | none => true)
  && (!(a.op.turns && b.op.turns) || anc A j i)

def drawOK (A : List (List Nat)) (ops : List Oper) (l : List AOper) : Bool :=
  (List.range l.length).all fun j => (match ops[j]? with
      | some o => (edgesOf o).all (fun e => decide (e < j))
      | none => false) &&
    (List.range j).all fun i => match l[i]?, l[j]? with
      | some a, some b => pairOK A i j a b
      | _, _ => false

/-- a look and a turn, in open order -/
def openPairs (A : List (List Nat)) (l : List AOper) : List (Nat × Nat) :=
  (List.range l.length).flatMap fun i => (List.range l.length).filterMap fun j =>
    match l[i]?, l[j]? with
    | some a, some b => if a.op.looks && b.op.turns && !anc A i j && !anc A j i then some (i, j) else none
    | _, _ => none

/-- the number, in its region, of the object that an operation makes -/
def AOp.num : AOp → Option Nat
  | .alloc k _ => some k
  | .box k _ => some k
  | .mkmap k => some k
  | .append k _ _ _ _ => some k
  | _ => none

def numsOK : List AOper → Nat → Bool
  | [], _ => true
  | o :: l, k => (match o.op.num with
      | some i => i == k
      | none => true) && numsOK l (k + o.op.own)

def compRegion (P : Program) (nt : Nat) (ops : Array Oper) (draw : Bool) : Option ACode :=
  match compOps P ops nt ops.toList 0 with
  | some l =>
    if numsOK l 0 = false then none else
    if draw then
      let A := ancsFrom ops.toList []
      if drawOK A ops.toList l then some (.region (ownSum l) (preOf l) l (openPairs A l)) else none
    else some (.region (ownSum l) (preOf l) l [])
  | none => none

def compile (P : Program) (nt : Nat) : Code → Option ACode
  | .skip => some .skip
  | .region _ ops draw => compRegion P nt ops draw
  | .seq a b => match compile P nt a, compile P nt b with
    | some a, some b => some (.seq a b)
    | _, _ => none
  | .cond x a b => match compOpd x, compile P nt a, compile P nt b with
    | some x, some a, some b => some (.cond x a b)
    | _, _, _ => none
  | .block id b => (compile P nt b).map (.block id)
  | .loop b => (compile P nt b).map .loop
  | .exit id => some (.exit id)
  | .scope b => (compile P nt b).map .scope
  | .label _ => some .skip
  | .ret => some .ret
  | _ => none

def compRes (P : Program) : List ResultVar → Option (List ARes)
  | [] => some []
  | .tmp t :: l => (compRes P l).map (.tmp t :: ·)
  | .cell t ty :: l => match aggT P ty, sizeT P ty, compRes P l with
    | some g, some sz, some r => if g || sz == 1 then some (.cell t g sz :: r) else none
    | _, _, _ => none

def compFn (P : Program) (fn : Func) : Option AFun :=
  match fn.body with
  | some c => match compile P fn.ntmps c, compRes P fn.results.toList with
    | some b, some r => if fn.name == "runtime.NumGoroutine" then none else some ⟨fn.ntmps, r, b⟩
    | _, _ => none
  | none => none

end Go.Proofs.YtggdpckdlcngpaaDoor.Abs
