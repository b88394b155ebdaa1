/- The abstract machine: a functional semantics of translated Go code over a heap without capacities, drawn orders and addresses. Definitions alone; nothing is assumed. -/
import Derived.RangeFuncIn
import Derived.RangeFuncLeaves
import Derived.OrdersIn
import Derived.CallsIn
import Derived.DefersIn
namespace Go.Proofs.YtdlfdieehioolaaDoor
open Go
set_option linter.unusedVariables false
/- ===== a map from numbers: a binary trie ===== -/
inductive Tr (α : Type) where
  | nil
  | node (l : Tr α) (v : Option α) (r : Tr α)
def Tr.get {α : Type} : Tr α → Nat → Option α
  | .nil, _ => none
  | .node _ v _, 0 => v
  | .node l _ r, k + 1 => bif Nat.beq (k % 2) 0 then l.get (k / 2) else r.get (k / 2)
def Tr.setF {α : Type} : Nat → Tr α → Nat → Option α → Tr α
  | 0, t, _, _ => t
  | _ + 1, .nil, 0, v => .node .nil v .nil
  | f + 1, .nil, k + 1, v => bif Nat.beq (k % 2) 0 then .node (Tr.setF f .nil (k / 2) v) none .nil else .node .nil none (Tr.setF f .nil (k / 2) v)
  | _ + 1, .node l _ r, 0, v => .node l v r
  | f + 1, .node l x r, k + 1, v => bif Nat.beq (k % 2) 0 then .node (Tr.setF f l (k / 2) v) x r else .node l x (Tr.setF f r (k / 2) v)
def Tr.set {α : Type} (t : Tr α) (k : Nat) (v : Option α) : Tr α := Tr.setF (k + 1) t k v
/- ===== code ===== -/
inductive EqK where
  | bool
  | ptr
  | slice
  | map
  | func
  | agg (shape : List Bool)
inductive AOp where
  | move (x : Operand)
  | pick (c a b : Operand)
  | alloc (zs : List Value)
  | box (x : Operand)
  | build (zs : List Value) (parts : List (Nat × Nat × Operand))
  | buildSlice (n : Nat) (es : Nat) (zs : List Value) (parts : List (Nat × Nat × Operand))
  | load (agg : Bool) (sz : Nat) (a : Operand)
  | store (sz : Nat) (a v : Operand)
  | nilCheck (x : Operand)
  | bin (op : BinOp) (x y : Operand)
  | eqv (neg : Bool) (k : EqK) (x y : Operand)
  | un (op : UnOp) (x : Operand)
  | conv (k : IntKind) (x : Operand)
  | toStr (x : Operand)
  | rangeM (x : Operand)
  | nextM (x : Operand)
  | toBytes (x : Operand)
  | markS (x : Operand)
  | bins (op : BinOp) (x y : Operand)
  | fieldAddr (off : Nat) (x : Operand)
  | idxSlice (es : Nat) (x i : Operand)
  | idxArr (n es : Nat) (x i : Operand)
  | slice (es : Nat) (x : Operand) (lo hi mx : Option Operand)
  | sliceArr (n es : Nat) (x : Operand) (lo hi mx : Option Operand)
  | field (agg : Bool) (off sz : Nat) (x : Operand)
  | index (agg : Bool) (n es : Nat) (x i : Operand)
  | indexStr (x i : Operand)
  | extract (x : Operand) (i : Nat)
  | lenS (x : Operand)
  | lenStr (x : Operand)
  | lenC (n : Nat)
  | lenM (x : Operand)
  | capS (x : Operand)
  | minmax (isMax : Bool) (xs : List Operand)
  | append (bytes : Nat) (es : Nat) (s x : Operand)
  | appendZ (bytes : Nat) (es : Nat) (zs : List Value) (s x : Operand)
  | copy (es : Nat) (d s : Operand)
  | clear (zs : List Value) (x : Operand)
  | makeSlice (bytes : Nat) (es : Nat) (zs : List Value) (len cap : Operand)
  | arrAt (n : Nat) (x : Operand)
  | makeFunc (f : Nat) (first captured : List Operand)
  | makeMap
  | lookup (k : IntKind) (zero : Value) (m key : Operand) (ok : Bool)
  | mapUpdate (k : IntKind) (m key v : Operand)
  | delete (k : IntKind) (m key : Operand)
  | loadS (agg : Bool) (sz : Nat) (a : Operand)
  | appendS (bytes : Nat) (es : Nat) (s x : Operand)
  | clrS
  | call (f : Nat) (args : List Operand)
  | callv (f : Operand) (args : List Operand)
structure AOper where
  dst : Option Nat
  op : AOp
  guard : Option (Nat × Bool)
structure DOper where
  i : Nat
  anc : List Nat
  big : Bool
  o : AOper
inductive AExit where
  | normal
  | exit (id : Nat)
  | ret
inductive AC where
  | skip
  | bad
  | reg (ops : List AOper)
  | regd (ops : List DOper)
  | seq (a b : AC)
  | cond (c : Operand) (a b : AC)
  | block (id : Nat) (b : AC)
  | loop (b : AC)
  | range (f : Operand) (ps : List Nat) (assign body : AC)
  | exit (id : Nat)
  | ret
inductive ARes where
  | tmp (t : Nat)
  | cell (agg : Bool) (sz : Nat) (t : Nat)
/- ===== the heap ===== -/
inductive AObj where
  | cells (cs : List Value) (ro : Bool) (es : Nat)
  | map (kvs : List (Value × Value))
  | iter (m : Option Nat)
  | loop (tm : Tr Value) (ps : List Nat) (assign body : AC) (st : LoopState) (pending : Option AExit)
  | defr
structure Heap where
  tr : Tr AObj
  next : Nat
  sh : List (Nat × Nat × List Value × Nat) := []
def Heap.get (H : Heap) (r : Nat) : Option AObj := H.tr.get r
def Heap.put (H : Heap) (r : Nat) (o : AObj) : Heap := { H with tr := H.tr.set r (some o) }
def Heap.drop (H : Heap) (r : Nat) : Heap := { H with tr := H.tr.set r none }
def Heap.new (H : Heap) (o : AObj) : Heap := { H with tr := H.tr.set H.next (some o), next := H.next + 1 }
abbrev Prim := List Value → Heap → Option (Value × Heap)
structure AFun where
  results : List ARes
  body : AC
  prim : Option Prim := none
structure St where
  tm : Tr Value
  h : Heap
  ds : List Nat
def St.val (tm : Tr Value) : Operand → Value
  | .tmp t => (tm.get t).getD undef
  | .const v => v
  | .global g => .pointer (some ⟨g, 0, none⟩)
  | .func f => .func (.func f) #[] #[]
def setDst (tm : Tr Value) : Option Nat → Value → Tr Value
  | none, _ => tm
  | some d, v => tm.set d (some v)
/- ===== operations ===== -/
def pureV : Sem Value → Option Value
  | .pure v => some v
  | _ => none
def cellsOf (v : Value) : List Value := v.cells.toList
def isTuple : Value → Bool
  | .tuple _ => true
  | _ => false
def isCell : Value → Bool
  | .agg _ | .tuple _ => false
  | _ => true
def isAtom : Value → Bool
  | .bool _ | .int _ _ | .string _ | .pointer _ | .slice _ _ _ | .map _ | .nilFunc | .nilIface => true
  | _ => false
def readCells (H : Heap) (r off n : Nat) : Option (List Value) :=
  match H.get r with
  | some (.cells cs _ _) => bif Nat.ble (off + n) cs.length then some ((cs.drop off).take n) else none
  | _ => none
def writeAt : List Value → Nat → List Value → List Value
  | cs, 0, [] => cs
  | _ :: cs, 0, v :: vs => v :: writeAt cs 0 vs
  | [], _, _ => []
  | c :: cs, k + 1, vs => c :: writeAt cs k vs
def writeCells (H : Heap) (r off : Nat) (vs : List Value) : Option Heap :=
  match H.get r with
  | some (.cells cs false es) => bif Nat.ble (off + vs.length) cs.length then some (H.put r (.cells (writeAt cs off vs) false es)) else none
  | _ => none
def fillL : List Value → List (Nat × Nat × Value) → Option (List Value)
  | cs, [] => some cs
  | cs, (off, sz, v) :: rest =>
    bif Nat.beq (cellsOf v).length sz && Nat.ble (off + sz) cs.length && (cellsOf v).all isCell then fillL (writeAt cs off (cellsOf v)) rest else none
def loadL (agg : Bool) (sz : Nat) (cs : List Value) : Option Value :=
  match agg, cs with
  | true, cs => some (.agg ⟨cs⟩)
  | false, [v] => some v
  | _, _ => none
def natIn (v : Value) (hi : Nat) : Option Nat :=
  match v with
  | .int _ n => match n with
    | .ofNat k => bif Nat.ble k hi then some k else none
    | .negSucc _ => none
  | _ => none
def bndMax (cap : Nat) : Option Value → Option Nat
  | some v => natIn v cap
  | none => some cap
def bndHi (len m : Nat) (mx : Bool) : Option Value → Option Nat
  | some v => natIn v m
  | none => bif mx then none else bif Nat.ble len m then some len else none
def bndLo (h : Nat) : Option Value → Option Nat
  | some v => natIn v h
  | none => some 0
def sliceBnds (len cap : Nat) (lo hi mx : Option Value) : Option (Nat × Nat × Nat) :=
  (bndMax cap mx).bind fun m => (bndHi len m mx.isSome hi).bind fun h => (bndLo h lo).bind fun l => some (l, h, m)
def eqCell : Bool → Value → Value → Option Bool
  | true, .bool a, .bool b => some (a == b)
  | false, .int j a, .int k b => if j = k then some (a == b) else none
  | _, _, _ => none
def eqCells : List Bool → List Value → List Value → Option Bool
  | [], [], [] => some true
  | t :: ts, a :: as, b :: bs => match eqCell t a b with
    | none => none
    | some e => match eqCells ts as bs with
      | none => none
      | some es => some (e && es)
  | _, _, _ => none
def alive (H : Heap) (r : Nat) : Bool :=
  match H.get r with
  | some (.cells _ false 0) => true
  | _ => false
def eqVals (H : Heap) : EqK → Value → Value → Option Bool
  | .bool, .bool a, .bool b => some (a == b)
  | .ptr, .pointer none, .pointer b => some b.isNone
  | .ptr, .pointer (some _), .pointer none => some false
  | .ptr, .pointer (some a), .pointer (some b) =>
    bif alive H a.block && alive H b.block then some (Nat.beq a.block b.block && Nat.beq a.off b.off) else none
  | .slice, .slice none _ _, .slice b _ _ => some b.isNone
  | .slice, .slice (some _) _ _, .slice none _ _ => some false
  | .map, .map none, .map b => some b.isNone
  | .map, .map (some _), .map none => some false
  | .func, .nilFunc, .nilFunc => some true
  | .func, .nilFunc, .func _ _ _ => some false
  | .func, .func _ _ _, .nilFunc => some false
  | .agg sh, .agg xs, .agg ys => eqCells sh xs.toList ys.toList
  | _, _, _ => none
def findKv (k : IntKind) (key : Int) : List (Value × Value) → Nat → Option (Option (Nat × Value))
  | [], _ => some none
  | (.int k' n, v) :: rest, i => if k' = k then (bif n == key then some (some (i, v)) else findKv k key rest (i + 1)) else none
  | _, _ => none
def srcCells (H : Heap) (b : Option Addr) (n : Nat) : Option (List Value) :=
  match b with
  | some q => readCells H q.block q.off n
  | none => some []
def putCells (H : Heap) (a : Option Addr) (off : Nat) (vs : List Value) : Option Heap :=
  match a with
  | none => some H
  | some p => writeCells H p.block (p.off + off) vs
def letGo (H : Heap) (p : Addr) (c es : Nat) : Option Heap :=
  match p.spot with
  | some _ => some H
  | none => match H.get p.block with
    | some (.cells cs false es') => bif Nat.beq es' es && Nat.ble (p.off + c * es) cs.length then some (H.drop p.block) else none
    | _ => none
def growCells (H : Heap) (a : Option Addr) (n m c es : Nat) (new : List Value) : Option (Value × Heap) :=
  match a with
  | none => some (.slice (some ⟨H.next, 0, none⟩) (n + m) (n + m), H.new (.cells new false es))
  | some p => (readCells H p.block p.off (n * es)).bind fun old => (letGo H p c es).map fun H1 =>
    (.slice (some ⟨H.next, 0, none⟩) (n + m) (n + m), H1.new (.cells (old ++ new) false es))
def appendL (H : Heap) (bytes es : Nat) (a : Option Addr) (n c m : Nat) (new : List Value) : Option (Value × Heap) :=
  bif Nat.ble ((n + m) * bytes) 140737488355328 then
    bif Nat.ble (n + m) c then (putCells H a (n * es) new).map fun H' => (.slice a (n + m) c, H')
    else growCells H a n m c es new
  else none
def sameV : Value → Value → Bool
  | .int k n, .int k' n' => decide (k = k') && decide (n = n')
  | .bool a, .bool b => a == b
  | _, _ => false
def sameL : List Value → List Value → Bool
  | [], [] => true
  | a :: as, b :: bs => sameV a b && sameL as bs
  | _, _ => false
def shFind (r : Nat) : List (Nat × Nat × List Value × Nat) → Option (Nat × List Value × Nat)
  | [] => none
  | (r', e) :: rest => bif Nat.beq r' r then some e else shFind r rest
def readS (H : Heap) : Nat → Nat → Nat → Nat → Option (List Value)
  | 0, _, _, _ => none
  | f + 1, r, off, n => match shFind r H.sh with
    | some (base, cs, r') => bif Nat.ble base off && Nat.ble (off - base + n) cs.length then
        match readS H f r' (off - base) n with
        | some vs => bif sameL vs ((cs.drop (off - base)).take n) then some vs else none
        | none => none
      else none
    | none => readCells H r off n
def noteS (H H' : Heap) (a : Option Addr) (n c m es : Nat) : Heap := match a with
  | some ⟨r, off, none⟩ => bif Nat.ble (n + m) c then H' else match readCells H r off (n * es) with
    | some old => { H' with sh := (r, off, old, H.next) :: H'.sh }
    | none => H'
  | _ => H'
def u8s : List Value → Option (List Int)
  | [] => some []
  | .int .u8 n :: rest => match u8s rest with
    | some ns => some (n :: ns)
    | none => none
  | _ => none
def strOfInts (ns : List Int) : ByteArray := ⟨⟨ns.map fun n => UInt8.ofNat n.toNat⟩⟩
def strOp : BinOp → ByteArray → ByteArray → Option Value
  | .eql, a, b => some (.bool (a.data.toList == b.data.toList))
  | .neq, a, b => some (.bool (!(a.data.toList == b.data.toList)))
  | .add, a, b => bif Nat.ble (a.data.toList.length + b.data.toList.length) 1000000000 then some (.string ⟨⟨a.data.toList ++ b.data.toList⟩⟩) else none
  | _, _, _ => none
def aop (ev : Operand → Value) (H : Heap) : AOp → Option (Value × Heap)
  | .move x => some (ev x, H)
  | .pick c a b => match ev c with
    | .bool t => some (bif t then ev a else ev b, H)
    | _ => none
  | .alloc zs => some (.pointer (some ⟨H.next, 0, none⟩), H.new (.cells zs false 0))
  | .box x => bif (cellsOf (ev x)).all isCell then some (.pointer (some ⟨H.next, 0, none⟩), H.new (.cells (cellsOf (ev x)) false 0)) else none
  | .build zs parts => do
    let cs ← fillL zs (parts.map fun p => (p.1, p.2.1, ev p.2.2))
    some (.agg ⟨cs⟩, H)
  | .buildSlice n es zs parts => do
    let cs ← fillL zs (parts.map fun p => (p.1, p.2.1, ev p.2.2))
    some (.slice (some ⟨H.next, 0, some 0⟩) n n, H.new (.cells cs false es))
  | .load agg sz a => match ev a with
    | .pointer (some p) => do
      let cs ← readCells H p.block p.off sz
      let v ← loadL agg sz cs
      some (v, H)
    | _ => none
  | .store sz a v => match ev a with
    | .pointer (some p) =>
      bif Nat.beq (cellsOf (ev v)).length sz && (cellsOf (ev v)).all isCell then do
        let H' ← writeCells H p.block p.off (cellsOf (ev v))
        some (undef, H')
      else none
    | _ => none
  | .nilCheck x => match ev x with
    | .pointer (some p) => some (.pointer (some p), H)
    | _ => none
  | .bin op x y => match ev x, ev y with
    | .int j a, .int k b => (pureV (binOp op 0 (.int j a) (.int k b))).map (·, H)
    | _, _ => none
  | .eqv neg k x y => (eqVals H k (ev x) (ev y)).map fun b => (.bool (bif neg then !b else b), H)
  | .un op x => match ev x with
    | .int k n => (pureV (Op.unary op (.int k n))).map (·, H)
    | .bool b => (pureV (Op.unary op (.bool b))).map (·, H)
    | _ => none
  | .conv k x => match ev x with
    | .int _ n => some (.int k (k.wrap n), H)
    | _ => none
  | .toStr x => match ev x with
    | .slice none _ _ => some (.string .empty, H)
    | .slice (some p) n _ => match readCells H p.block p.off n with
      | some cs => match u8s cs with
        | some ns => some (.string (strOfInts ns), H)
        | none => none
      | none => none
    | _ => none
  | .toBytes x => match ev x with
    | .string s => some (.slice (some ⟨H.next, 0, none⟩) s.data.toList.length s.data.toList.length, H.new (.cells (s.data.toList.map fun b => .int .u8 b.toNat) false 1))
    | _ => none
  | .markS x => match ev x with
    | .slice (some p) n c => match H.get p.block with
      | some (.cells cs false es) => bif Nat.beq es 0 || Nat.beq n 0 then none else some (.slice (some p) n c, H.put p.block (.cells cs false es))
      | _ => none
    | _ => none
  | .rangeM x => match ev x with
    | .map none => some (.pointer (some ⟨H.next, 0, none⟩), H.new (.iter none))
    | .map (some r) => match H.get r with
      | some (.map _) => some (.pointer (some ⟨H.next, 0, none⟩), H.new (.iter (some r)))
      | _ => none
    | _ => none
  | .nextM x => match ev x with
    | .pointer (some p) => bif Nat.beq p.off 0 then (match H.get p.block with
      | some (.iter none) => some (.tuple #[.bool false], H)
      | some (.iter (some m)) => match H.get m with
        | some (.map []) => some (.tuple #[.bool false], H)
        | _ => none
      | _ => none) else none
    | _ => none
  | .bins op x y => match ev x, ev y with
    | .string a, .string b => (strOp op a b).map (·, H)
    | _, _ => none
  | .fieldAddr off x => match ev x with
    | .pointer (some p) => some (.pointer (some ⟨p.block, p.off + off, none⟩), H)
    | _ => none
  | .idxSlice es x i => match ev x, ev i with
    | .slice (some p) n _, iv => match natIn iv n with
      | some k => bif Nat.blt k n then some (.pointer (some ⟨p.block, p.off + k * es, none⟩), H) else none
      | none => none
    | _, _ => none
  | .idxArr n es x i => match ev x, ev i with
    | .pointer (some p), iv => match natIn iv n with
      | some k => bif Nat.blt k n then some (.pointer (some ⟨p.block, p.off + k * es, none⟩), H) else none
      | none => none
    | _, _ => none
  | .slice es x lo hi mx => match ev x with
    | .slice a n c => do
      let (l, h, m) ← sliceBnds n c (lo.map ev) (hi.map ev) (mx.map ev)
      match a with
      | some p => some (.slice (some ⟨p.block, p.off + l * es, match mx with | some _ => some 0 | none => p.spot⟩) (h - l) (m - l), H)
      | none => some (.slice none 0 0, H)
    | _ => none
  | .sliceArr n es x lo hi mx => match ev x with
    | .pointer (some p) => match mx with
      | none => do
        let (l, h, m) ← sliceBnds n n (lo.map ev) (hi.map ev) none
        some (.slice (some ⟨p.block, p.off + l * es, some 0⟩) (h - l) (m - l), H)
      | some _ => none
    | _ => none
  | .field agg off sz x => match ev x with
    | .agg cs => bif Nat.ble (off + sz) cs.toList.length then (loadL agg sz ((cs.toList.drop off).take sz)).map (·, H) else none
    | _ => none
  | .index agg n es x i => match ev x with
    | .agg cs => match natIn (ev i) n with
      | some k => bif Nat.blt k n && Nat.ble (k * es + es) cs.toList.length then (loadL agg es ((cs.toList.drop (k * es)).take es)).map (·, H) else none
      | none => none
    | _ => none
  | .indexStr x i => match ev x with
    | .string s => match natIn (ev i) s.size with
      | some k => match s[k]? with
        | some b => some (.int .u8 b.toNat, H)
        | none => none
      | none => none
    | _ => none
  | .extract x i => match ev x with
    | .tuple vs => match vs.toList[i]? with
      | some v => some (v, H)
      | none => none
    | _ => none
  | .lenS x => match ev x with
    | .slice _ n _ => some (goInt n, H)
    | _ => none
  | .lenStr x => match ev x with
    | .string s => some (goInt s.size, H)
    | _ => none
  | .lenC n => some (goInt n, H)
  | .lenM x => match ev x with
    | .map none => some (goInt 0, H)
    | .map (some r) => match H.get r with
      | some (.map kvs) => some (goInt kvs.length, H)
      | _ => none
    | _ => none
  | .capS x => match ev x with
    | .slice (some p) _ c => match p.spot with
      | some _ => some (goInt c, H)
      | none => none
    | .slice none _ _ => some (goInt 0, H)
    | _ => none
  | .minmax isMax xs => match xs.map ev with
    | .int k n :: rest => do
      let v ← rest.foldlM (fun acc y => match acc, y with
        | .int k' a, .int k2 b => bif k' == k2 then some (Value.int k' (bif isMax then (if a < b then b else a) else (if b < a then b else a))) else none
        | _, _ => none) (Value.int k n)
      some (v, H)
    | _ => none
  | .append bytes es s x => match ev s, ev x with
    | .slice a n c, .slice b m _ => (srcCells H b (m * es)).bind fun new => appendL H bytes es a n c m new
    | _, _ => none
  | .appendZ bytes es zs s x => match ev s, ev x with
    | .slice a n c, .int _ (.ofNat m) => bif Nat.ble m 140737488355328 then appendL H bytes es a n c m ((List.replicate m zs).flatten) else none
    | _, _ => none
  | .copy es d s => match ev d, ev s with
    | .slice a n _, .slice b m _ => (srcCells H b (Nat.min m n * es)).bind fun new => (putCells H a 0 new).map fun H' => (goInt (Nat.min m n), H')
    | _, _ => none
  | .clear zs x => match ev x with
    | .slice (some p) n _ => do
      let H' ← writeCells H p.block p.off ((List.replicate n zs).flatten)
      some (.tuple #[], H')
    | .slice none _ _ => some (.tuple #[], H)
    | _ => none
  | .makeSlice bytes es zs len cap => match ev len, ev cap with
    | .int _ l, .int _ c => match IntKind.i64.wrap l, IntKind.i64.wrap c with
      | .ofNat l', .ofNat c' =>
        bif Nat.ble l' c' && Nat.ble (c' * bytes) 140737488355328 then
          some (.slice (some ⟨H.next, 0, some 0⟩) l' c', H.new (.cells ((List.replicate c' zs).flatten) false es))
        else none
      | _, _ => none
    | _, _ => none
  | .arrAt n x => match ev x with
    | .slice (some p) m _ => bif Nat.ble n m && Nat.ble 1 n then some (.pointer (some ⟨p.block, p.off, none⟩), H) else none
    | _ => none
  | .makeFunc f first captured => bif (first.map ev).all isAtom && (captured.map ev).all isAtom then some (.func (.func f) ⟨first.map ev⟩ ⟨captured.map ev⟩, H) else none
  | .makeMap => some (.map (some H.next), H.new (.map []))
  | .lookup k zero m key ok => match ev key with
    | .int k' n => if k' = k then match ev m with
      | .map none => some (bif ok then .tuple #[zero, .bool false] else zero, H)
      | .map (some r) => match H.get r with
        | some (.map kvs) => match findKv k n kvs 0 with
          | some (some (_, v)) => some (bif ok then .tuple #[v, .bool true] else v, H)
          | some none => some (bif ok then .tuple #[zero, .bool false] else zero, H)
          | none => none
        | _ => none
      | _ => none else none
    | _ => none
  | .mapUpdate k m key v => match ev key, ev m with
    | .int k' n, .map (some r) => if k' = k then match H.get r with
      | some (.map kvs) => match findKv k n kvs 0 with
        | some (some (i, _)) => bif isTuple (ev v) then none else some (undef, H.put r (.map (kvs.set i (.int k n, ev v))))
        | some none => bif isTuple (ev v) then none else some (undef, H.put r (.map (kvs ++ [(.int k n, ev v)])))
        | none => none
      | _ => none else none
    | _, _ => none
  | .delete k m key => match ev key, ev m with
    | .int k' n, .map (some r) => if k' = k then match H.get r with
      | some (.map kvs) => match findKv k n kvs 0 with
        | some (some (i, _)) => some (.tuple #[], H.put r (.map (kvs.eraseIdx i)))
        | some none => some (.tuple #[], H)
        | none => none
      | _ => none else none
    | .int k' _, .map none => if k' = k then some (.tuple #[], H) else none
    | _, _ => none
  | .loadS agg sz a => match ev a with
    | .pointer (some p) => do
      let cs ← readS H (H.sh.length + 1) p.block p.off sz
      let v ← loadL agg sz cs
      some (v, H)
    | _ => none
  | .appendS bytes es s x => match ev s, ev x with
    | .slice a n c, .slice b m _ => (srcCells H b (m * es)).bind fun new => (appendL H bytes es a n c m new).map fun p => (p.1, noteS H p.2 a n c m es)
    | _, _ => none
  | .clrS => some (undef, { H with sh := [] })
  | .call _ _ => none
  | .callv _ _ => none
/- ===== code ===== -/
inductive Tgt where
  | fn (f : Nat)
  | yield (l : Nat)
abbrev Self := Tgt → List Value → Heap → Option (Value × Heap)
def callVal (self : Self) (fv : Value) (args : List Value) (H : Heap) : Option (Value × Heap) :=
  match fv with
  | .func (.func f) first captured => self (.fn f) (first.toList ++ args ++ captured.toList) H
  | .func (.yield l) _ _ => self (.yield l) args H
  | _ => none
def opRun (self : Self) (ev : Operand → Value) (H : Heap) : AOp → Option (Value × Heap)
  | .call f args => self (.fn f) (args.map ev) H
  | .callv f args => callVal self (ev f) (args.map ev) H
  | o => aop ev H o
def wantedA (tm : Tr Value) : Option (Nat × Bool) → Bool
  | none => true
  | some (t, want) => match tm.get t with
    | some (.bool b) => b == want
    | _ => false
def operRun (self : Self) (o : AOper) (s : St) : Option St :=
  bif wantedA s.tm o.guard then
    match opRun self (St.val s.tm) s.h o.op with
    | some (v, H) => some { s with tm := setDst s.tm o.dst v, h := H }
    | none => none
  else some { s with tm := setDst s.tm o.dst undef }
def opsRun (self : Self) : List AOper → St → Option St
  | [], s => some s
  | o :: rest, s => match operRun self o s with
    | some s' => opsRun self rest s'
    | none => none
/- a region whose order is drawn: 'log': of each small operation done, its place, what it has made, what it has read -/
structure Note where
  i : Nat
  news : List Nat
  reads : List Nat
def readsOf (ev : Operand → Value) : AOp → List Nat
  | .load _ _ a => match ev a with
    | .pointer (some p) => [p.block]
    | _ => []
  | .lookup _ _ m _ _ => match ev m with
    | .map (some r) => [r]
    | _ => []
  | .lenM m => match ev m with
    | .map (some r) => [r]
    | _ => []
  | .toStr x => match ev x with
    | .slice (some p) _ _ => [p.block]
    | _ => []
  | .eqv _ _ x y => (match ev x with | .pointer (some p) => [p.block] | _ => []) ++ (match ev y with | .pointer (some p) => [p.block] | _ => [])
  | _ => []
def hideFor (d : DOper) : List Note → List Nat
  | [] => []
  | e :: rest => bif d.anc.contains e.i then hideFor d rest else e.news ++ hideFor d rest
def readsBeside (d : DOper) : List Note → List Nat
  | [] => []
  | e :: rest => bif d.anc.contains e.i then readsBeside d rest else e.reads ++ readsBeside d rest
def readFor (d : DOper) (log : List Note) : List Nat := bif d.big then readsBeside d log else []
def AObj.roOf : AObj → Option AObj
  | .cells cs _ es => some (.cells cs true es)
  | _ => none
def Heap.roAt (H : Heap) (r : Nat) : Heap := match H.get r with
  | some o => { H with tr := H.tr.set r o.roOf }
  | none => H
def Heap.roAll (H : Heap) : List Nat → Heap
  | [] => H
  | r :: rest => (H.roAt r).roAll rest
def Heap.dropAll (H : Heap) : List Nat → Heap
  | [] => H
  | r :: rest => (H.drop r).dropAll rest
def Heap.putBack (H : Heap) (H0 : Heap) : List Nat → Heap
  | [] => H
  | r :: rest => { Heap.putBack H H0 rest with tr := (Heap.putBack H H0 rest).tr.set r (H0.get r) }
def rangeL (a : Nat) : Nat → List Nat
  | 0 => []
  | n + 1 => a :: rangeL (a + 1) n
def doperRun (self : Self) (d : DOper) (s : St) (log : List Note) : Option (St × List Note) :=
  bif wantedA s.tm d.o.guard then
    bif (hideFor d log).all (fun r => Nat.blt r s.h.next) then
      match opRun self (St.val s.tm) ((s.h.dropAll (hideFor d log)).roAll (readFor d log)) d.o.op with
      | some (v, H) =>
        some ({ s with tm := setDst s.tm d.o.dst v, h := H.putBack s.h (hideFor d log ++ readFor d log) },
          bif d.big then log else { i := d.i, news := rangeL s.h.next (H.next - s.h.next), reads := readsOf (St.val s.tm) d.o.op } :: log)
      | none => none
    else none
  else some ({ s with tm := setDst s.tm d.o.dst undef }, bif d.big then log else { i := d.i, news := [], reads := [] } :: log)
def dopsRun (self : Self) : List DOper → St → List Note → Option St
  | [], s, _ => some s
  | d :: rest, s, log => match doperRun self d s log with
    | some (s', log') => dopsRun self rest s' log'
    | none => none
def loopN (f : St → Option (AExit × St)) : Nat → St → Option (AExit × St)
  | 0, _ => none
  | k + 1, s => match f s with
    | some (.normal, s') => loopN f k s'
    | r => r
def setAll (tm : Tr Value) : List Nat → List Value → Tr Value
  | p :: ps, v :: vs => setAll (tm.set p (some v)) ps vs
  | _, _ => tm
def openLoop (rd : Option Nat) (s : St) : Option St := match rd with
  | some l => match s.h.get l with
    | some (.loop _ _ _ _ _ _) => some s
    | _ => none
  | none => some { s with h := s.h.new .defr, ds := s.h.next :: s.ds }
def shutLoop (s : St) (l : Nat) (H2 : Heap) : Option (AExit × St) := match H2.get l with
  | some (.loop _ _ _ _ .ready none) => some (.normal, { s with h := H2.drop l })
  | some (.loop _ _ _ _ .done (some e)) => some (e, { s with h := H2.drop l })
  | _ => none
def run (self : Self) (n : Nat) (rd : Option Nat) : AC → St → Option (AExit × St)
  | .skip, s => some (.normal, s)
  | .bad, _ => none
  | .reg ops, s => match opsRun self ops s with
    | some s' => some (.normal, s')
    | none => none
  | .regd ops, s => match dopsRun self ops s [] with
    | some s' => some (.normal, s')
    | none => none
  | .seq a b, s => match run self n rd a s with
    | some (.normal, s') => run self n rd b s'
    | r => r
  | .cond c a b, s => match St.val s.tm c with
    | .bool true => run self n rd a s
    | .bool false => run self n rd b s
    | _ => none
  | .block id b, s => match run self n rd b s with
    | some (.exit id', s') => bif Nat.beq id' id then some (.normal, s') else some (.exit id', s')
    | r => r
  | .loop b, s => loopN (run self n rd b) n s
  | .exit id, s => some (.exit id, s)
  | .ret, s => some (.ret, s)
  | .range f ps assign body, s =>
    match St.val s.tm f with
    | .func (.func g) first captured =>
      match openLoop rd s with
      | some s1 => match self (.fn g) (first.toList ++ [.func (.yield s1.h.next) #[] #[]] ++ captured.toList) (s1.h.new (.loop s.tm ps assign body .ready none)) with
        | some (_, H2) => shutLoop s1 s1.h.next H2
        | none => none
      | none => none
    | _ => none
def resOf (tm : Tr Value) (H : Heap) : ARes → Option Value
  | .tmp t => some ((tm.get t).getD undef)
  | .cell agg sz t => match (tm.get t).getD undef with
    | .pointer (some p) => match readCells H p.block p.off sz with
      | some cs => loadL agg sz cs
      | none => none
    | _ => none
def results? (tm : Tr Value) (H : Heap) : List ARes → Option (List Value)
  | [] => some []
  | r :: rest => match resOf tm H r, results? tm H rest with
    | some v, some vs => bif isTuple v then none else some (v :: vs)
    | _, _ => none
def endVal : List Value → Value
  | [v] => v
  | vs => .tuple ⟨vs⟩
def takeAll : List Nat → Heap → Option Heap
  | [], H => some H
  | d :: ds, H => match H.get d with
    | some .defr => takeAll ds (H.drop d)
    | _ => none
def endOf (s : St) (rs : List ARes) : Option (Value × Heap) := match takeAll s.ds s.h with
  | some H => match results? s.tm H rs with
    | some vs => some (endVal vs, H)
    | none => none
  | none => none
def initTm : Nat → Tr Value → List Value → Tr Value
  | _, tm, [] => tm
  | i, tm, v :: vs => initTm (i + 1) (tm.set i (some v)) vs
def exec (T : Nat → Option AFun) : Nat → Self
  | 0, _, _, _ => none
  | n + 1, .fn f, args, H => match T f with
    | none => none
    | some fn => match fn.prim with
      | some p => p args H
      | none => match run (exec T n) n none fn.body { tm := initTm 0 .nil args, h := H, ds := [] } with
        | some (.normal, s) => endOf s fn.results
        | some (.ret, s) => endOf s fn.results
        | _ => none
  | n + 1, .yield l, args, H => match H.get l with
    | some (.loop tm ps assign body .ready none) =>
      bif Nat.beq args.length ps.length then
        match run (exec T n) n (some l) assign { tm := setAll tm ps args, h := H, ds := [] } with
        | some (.normal, s1) => match s1.h.get l with
          | some (.loop tm' ps' as' bd' .ready none) =>
            match run (exec T n) n (some l) body { s1 with h := s1.h.put l (.loop tm' ps' as' bd' .busy none) } with
            | some (e, s2) => match s2.h.get l with
              | some (.loop tm2 ps2 as2 bd2 .busy none) => match e with
                | .normal => some (.bool true, s2.h.put l (.loop tm2 ps2 as2 bd2 .ready none))
                | e => some (.bool false, s2.h.put l (.loop tm2 ps2 as2 bd2 .done (some e)))
              | _ => none
            | none => none
          | _ => none
        | _ => none
      else none
    | _ => none
end Go.Proofs.YtdlfdieehioolaaDoor
