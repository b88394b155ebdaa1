/- Code as plain typed functions: a second semantics of the abstract machine's code, in which what is not known is bound by name. Definitions. -/
import Derived.Test.YtdlfdieehioolaaDoorLp
import Derived.Test.YtdlfdieehioolaaDoorDr
namespace Go.Proofs.YtdlfdieehioolaaDoor
open Go
set_option linter.unusedVariables false
inductive Ty where
  | int (k : IntKind)
  | bool
  | ptr
  | any
  | fn (g c : Nat)
@[reducible] def Ptrs : Nat → Type
  | 0 => Unit
  | c + 1 => Option Addr × Ptrs c
def Ptrs.vals : (c : Nat) → Ptrs c → List Value
  | 0, _ => []
  | c + 1, a => .pointer a.1 :: Ptrs.vals c a.2
def Ptrs.prj : (c : Nat) → List Value → Option (Ptrs c)
  | 0, [] => some ()
  | c + 1, .pointer p :: vs => (Ptrs.prj c vs).bind fun as => some (p, as)
  | _, _ => none
@[reducible] def Ty.T : Ty → Type
  | .int _ => Int
  | .bool => Bool
  | .ptr => Option Addr
  | .any => Value
  | .fn _ c => Ptrs c
def Ty.val : (t : Ty) → t.T → Value
  | .int k, n => .int k n
  | .bool, b => .bool b
  | .ptr, p => .pointer p
  | .any, v => v
  | .fn g c, a => .func (.func g) #[] ⟨Ptrs.vals c a⟩
def Ty.prj (t : Ty) (v : Value) : Option t.T := match t with
  | .int k => match v with
    | .int k' n => if k' = k then some n else none
    | _ => none
  | .bool => match v with
    | .bool b => some b
    | _ => none
  | .ptr => match v with
    | .pointer p => some p
    | _ => none
  | .any => some v
  | .fn g c => match v with
    | .func (.func g') first captured => bif Nat.beq g g' && first.toList.isEmpty then Ptrs.prj c captured.toList else none
    | _ => none
inductive Rg where
  | val (v : Value)
  | ym
abbrev Rt := Tr Rg
def vl (tm : Rt) : Operand → Value
  | .tmp t => match tm.get t with
    | some (.val v) => v
    | _ => undef
  | .const v => v
  | .global g => .pointer (some ⟨g, 0, none⟩)
  | .func f => .func (.func f) #[] #[]
def dstB (tm : Rt) : Option Nat → Value → Rt
  | none, _ => tm
  | some d, v => tm.set d (some (.val v))
def setR (tm : Rt) : List Nat → List Value → Rt
  | p :: ps, v :: vs => setR (tm.set p (some (.val v))) ps vs
  | _, _ => tm
def delR (tm : Rt) : List Nat → Rt
  | [] => tm
  | d :: ds => delR (tm.set d none) ds
abbrev Lv := List (Nat × Ty)
@[reducible] def Lv.T : Lv → Type
  | [] => Unit
  | x :: xs => x.2.T × Lv.T xs
def rgVal : Option Rg → Option Value
  | some (.val v) => some v
  | _ => none
def Lv.get : (l : Lv) → Rt → Option l.T
  | [], _ => some ()
  | x :: xs, tm => (rgVal (tm.get x.1)).bind fun v => (x.2.prj v).bind fun a => (Lv.get xs tm).bind fun as => some (a, as)
def Lv.put : (l : Lv) → l.T → Rt → Rt
  | [], _, tm => tm
  | x :: xs, a, tm => Lv.put xs a.2 (tm.set x.1 (some (.val (x.2.val a.1))))
@[reducible] def Tys.T : List Ty → Type
  | [] => Unit
  | t :: ts => t.T × Tys.T ts
def Tys.vals : (ts : List Ty) → Tys.T ts → List Value
  | [], _ => []
  | t :: ts, a => t.val a.1 :: Tys.vals ts a.2
/- what is read -/
def ldT (t : Ty) (h : Heap) (p : Option Addr) : Option t.T := p.bind fun q => (readCells h q.block q.off 1).bind fun cs => (loadL false 1 cs).bind fun v => t.prj v
def ldA (sz : Nat) (h : Heap) (p : Option Addr) : Option (List Value) := p.bind fun q => readCells h q.block q.off sz
def ldTS (t : Ty) (h : Heap) (p : Option Addr) : Option t.T := p.bind fun q => (readS h (h.sh.length + 1) q.block q.off 1).bind fun cs => (loadL false 1 cs).bind fun v => t.prj v
def ldAS (sz : Nat) (h : Heap) (p : Option Addr) : Option (List Value) := p.bind fun q => readS h (h.sh.length + 1) q.block q.off sz
def clrH (h : Heap) : Heap := { h with sh := [] }
def appendSK (h : Heap) (bytes es : Nat) : Value → Value → Option (Value × Heap)
  | .slice a n c, .slice b m _ => (srcCells h b (m * es)).bind fun new => (appendL h bytes es a n c m new).map fun p => (p.1, noteS h p.2 a n c m es)
  | _, _ => none
def ixB (es : Nat) : Value → Int → Option Addr
  | .slice (some p) n _, .ofNat k => bif Nat.blt k n then some ⟨p.block, p.off + k * es, none⟩ else none
  | _, _ => none
def ixA (n es : Nat) (p : Option Addr) : Int → Option Addr
  | .ofNat k => p.bind fun q => bif Nat.blt k n then some ⟨q.block, q.off + k * es, none⟩ else none
  | _ => none
def fldT (t : Ty) (off : Nat) : Value → Option t.T
  | .agg cs => (cs.toList[off]?).bind fun v => t.prj v
  | _ => none
def fldA (off sz : Nat) : Value → Option (List Value)
  | .agg cs => bif Nat.ble (off + sz) cs.toList.length then some ((cs.toList.drop off).take sz) else none
  | _ => none
def aixT (t : Ty) (n : Nat) : Value → Int → Option t.T
  | .agg cs, .ofNat k => bif Nat.blt k n then (cs.toList[k]?).bind fun v => t.prj v else none
  | _, _ => none
def aixA (n es : Nat) : Value → Int → Option (List Value)
  | .agg cs, .ofNat k => bif Nat.blt k n && Nat.ble (k * es + es) cs.toList.length then some ((cs.toList.drop (k * es)).take es) else none
  | _, _ => none
def lenB : Value → Option Nat
  | .slice _ n _ => some n
  | _ => none
def lenMB (h : Heap) : Value → Option Nat
  | .map none => some 0
  | .map (some r) => match h.get r with
    | some (.map kvs) => some kvs.length
    | _ => none
  | _ => none
def lkT (t : Ty) (h : Heap) (k : IntKind) (zero : Value) (m : Value) (key : Int) : Option (t.T × Bool) := match m with
  | .map none => (t.prj zero).map (·, false)
  | .map (some r) => match h.get r with
    | some (.map kvs) => match findKv k key kvs 0 with
      | some (some (_, v)) => (t.prj v).map (·, true)
      | some none => (t.prj zero).map (·, false)
      | none => none
    | _ => none
  | _ => none
def stB (sz : Nat) (v : Value) (h : Heap) (p : Option Addr) : Option Heap := p.bind fun q => bif Nat.beq (cellsOf v).length sz && (cellsOf v).all isCell then writeCells h q.block q.off (cellsOf v) else none
/- values of operations that only look -/
def isNilConst : Operand → Bool
  | .const (.pointer none) => true
  | _ => false
def kEq (a b : IntKind) : Bool := decide (a = b)
def bitB (op : BinOp) (j : IntKind) (a : Int) (j' : IntKind) (b : Int) : Option Int := (pureV (binOp op 0 (.int j a) (.int j' b))).bind fun v => (Ty.int j).prj v
def unB (op : UnOp) (j : IntKind) (n : Int) : Option Int := (pureV (Op.unary op (.int j n))).bind fun v => (Ty.int j).prj v
def fa (q : Addr) (o : Nat) : Addr := ⟨q.block, q.off + o, none⟩
def nwA (h : Heap) : Addr := ⟨h.next, 0, none⟩
def arrB (h : Heap) (n : Nat) (v : Value) : Option (Option Addr) := (arrAtK h n v).bind fun p => Ty.ptr.prj p.1
def binsT (t : Ty) (h : Heap) (op : BinOp) (x y : Value) : Option t.T := (binsK h op x y).bind fun p => t.prj p.1
def mkSl (nx bytes es : Nat) (zs : List Value) (l c : Value) : Option (Value × AObj) := (makeSliceK { tr := .nil, next := nx } bytes es zs l c).bind fun p => (p.2.get nx).map fun o => (p.1, o)
def toBy (nx : Nat) : Value → Option (Value × AObj)
  | .string s => some (.slice (some ⟨nx, 0, none⟩) s.data.toList.length s.data.toList.length, .cells (s.data.toList.map fun b => .int .u8 b.toNat) false 1)
  | _ => none
def bnd {A B : Type} (a : A) (f : A → B) : B := f a
def binB {R : Type} (op : BinOp) (x y : Value) (k : Value → Option R) : Option R := match x, y with
  | .int j a, .int j' b => match op with
    | .add => bif kEq j j' then k (.int j (j.wrap (a + b))) else none
    | .sub => bif kEq j j' then k (.int j (j.wrap (a - b))) else none
    | .mul => bif kEq j j' then k (.int j (j.wrap (a * b))) else none
    | .eql => bif kEq j j' then k (.bool (decide (a = b))) else none
    | .neq => bif kEq j j' then k (.bool (!decide (a = b))) else none
    | .lss => bif kEq j j' then k (.bool (decide (a < b))) else none
    | .leq => bif kEq j j' then k (.bool (decide (a ≤ b))) else none
    | .gtr => bif kEq j j' then k (.bool (decide (b < a))) else none
    | .geq => bif kEq j j' then k (.bool (decide (b ≤ a))) else none
    | .quo => bif kEq j j' then (bif decide (b = 0) then none else k (.int j (j.wrap (a.tdiv b)))) else none
    | .rem => bif kEq j j' then (bif decide (b = 0) then none else k (.int j (a.tmod b))) else none
    | op => (bitB op j a j' b).bind fun n => k (.int j n)
  | _, _ => none
def rdB {R : Type} (ev : Operand → Value) (h : Heap) (op : AOp) (ty : Ty) (k : Value → Option R) : Option R := match op with
  | .move x => k (ev x)
  | .pick c a b => match ev c with
    | .bool t => bif t then k (ev a) else k (ev b)
    | _ => none
  | .build zs parts => (fillL zs (parts.map fun p => (p.1, p.2.1, ev p.2.2))).bind fun cs => k (.agg ⟨cs⟩)
  | .load true sz a => match ev a with
    | .pointer p => (ldA sz h p).bind fun cs => k (.agg ⟨cs⟩)
    | _ => none
  | .load false sz a => bif Nat.beq sz 1 then (match ev a with
    | .pointer p => (ldT ty h p).bind fun x => k (ty.val x)
    | _ => none) else none
  | .loadS true sz a => match ev a with
    | .pointer p => (ldAS sz h p).bind fun cs => k (.agg ⟨cs⟩)
    | _ => none
  | .loadS false sz a => bif Nat.beq sz 1 then (match ev a with
    | .pointer p => (ldTS ty h p).bind fun x => k (ty.val x)
    | _ => none) else none
  | .nilCheck x => match ev x with
    | .pointer p => p.bind fun q => k (.pointer (some q))
    | _ => none
  | .bin op x y => binB op (ev x) (ev y) k
  | .eqv neg .ptr x y => bif isNilConst y then (match ev x with
      | .pointer p => k (.bool (bif neg then !p.isNone else p.isNone))
      | _ => none)
    else (eqVals h .ptr (ev x) (ev y)).bind fun b => k (.bool (bif neg then !b else b))
  | .eqv neg q x y => (eqVals h q (ev x) (ev y)).bind fun b => k (.bool (bif neg then !b else b))
  | .un op x => match ev x with
    | .bool b => match op with
      | .not => k (.bool (!b))
      | _ => none
    | .int j n => (unB op j n).bind fun n => k (.int j n)
    | _ => none
  | .conv j x => match ev x with
    | .int _ n => k (.int j (j.wrap n))
    | _ => none
  | .fieldAddr off x => match ev x with
    | .pointer p => p.bind fun q => k (.pointer (some ⟨q.block, q.off + off, none⟩))
    | _ => none
  | .idxSlice es x i => match ev i with
    | .int _ z => (ixB es (ev x) z).bind fun q => k (.pointer (some q))
    | _ => none
  | .idxArr n es x i => match ev i with
    | .int _ z => match ev x with
      | .pointer p => (ixA n es p z).bind fun q => k (.pointer (some q))
      | _ => none
    | _ => none
  | .field true off sz x => (fldA off sz (ev x)).bind fun cs => k (.agg ⟨cs⟩)
  | .field false off sz x => bif Nat.beq sz 1 then (fldT ty off (ev x)).bind fun a => k (ty.val a) else none
  | .index true n es x i => match ev i with
    | .int _ z => (aixA n es (ev x) z).bind fun cs => k (.agg ⟨cs⟩)
    | _ => none
  | .index false n es x i => bif Nat.beq es 1 then (match ev i with
    | .int _ z => (aixT ty n (ev x) z).bind fun a => k (ty.val a)
    | _ => none) else none
  | .extract x i => match ev x with
    | .tuple vs => (vs.toList[i]?).bind k
    | _ => none
  | .lenS x => (lenB (ev x)).bind fun n => k (goInt n)
  | .lenC n => k (goInt n)
  | .lenM x => (lenMB h (ev x)).bind fun n => k (goInt n)
  | .minmax b [x, y] => match ev x, ev y with
    | .int j m, .int j' n => bif kEq j j' then k (.int j (bif b then (if m < n then n else m) else (if n < m then n else m))) else none
    | _, _ => none
  | .minmax b [x, y, z] => match ev x, ev y, ev z with
    | .int j m, .int j' n, .int j2 o => bif kEq j j' && kEq j j2 then k (.int j (bif b then (if (if m < n then n else m) < o then o else (if m < n then n else m)) else (if o < (if n < m then n else m) then o else (if n < m then n else m)))) else none
    | _, _, _ => none
  | .makeFunc f a c => bif (a.map ev).all isAtom && (c.map ev).all isAtom then k (.func (.func f) ⟨a.map ev⟩ ⟨c.map ev⟩) else none
  | .lookup j zero m key ok => match ev key with
    | .int j' z => bif kEq j' j then (lkT ty h j zero (ev m) z).bind fun p => k (bif ok then .tuple #[ty.val p.1, .bool p.2] else ty.val p.1) else none
    | _ => none
  | .slice es x lo hi mx => (sliceK h es (lo.map ev) (hi.map ev) (mx.map ev) (ev x)).bind fun p => k p.1
  | .sliceArr n es x lo hi none => match ev x with
    | .pointer p => (sliceArrK h n es (lo.map ev) (hi.map ev) (.pointer p)).bind fun p => k p.1
    | _ => none
  | .arrAt n x => (arrB h n (ev x)).bind fun q => k (.pointer q)
  | .toStr x => (toStrK h (ev x)).bind fun p => k p.1
  | .bins op x y => (binsT ty h op (ev x) (ev y)).bind fun a => k (ty.val a)
  | _ => none
def nwB {R : Type} (ev : Operand → Value) (nx : Nat) (op : AOp) (k : Value → AObj → Option R) : Option R := match op with
  | .alloc zs => k (.pointer (some ⟨nx, 0, none⟩)) (.cells zs false 0)
  | .box x => bif (cellsOf (ev x)).all isCell then k (.pointer (some ⟨nx, 0, none⟩)) (.cells (cellsOf (ev x)) false 0) else none
  | .buildSlice n es zs parts => (fillL zs (parts.map fun p => (p.1, p.2.1, ev p.2.2))).bind fun cs => k (.slice (some ⟨nx, 0, some 0⟩) n n) (.cells cs false es)
  | .makeMap => k (.map (some nx)) (.map [])
  | .makeSlice bytes es zs l c => (mkSl nx bytes es zs (ev l) (ev c)).bind fun p => k p.1 p.2
  | .toBytes x => (toBy nx (ev x)).bind fun p => k p.1 p.2
  | _ => none
def appendZK (h : Heap) (bytes es : Nat) (zs : List Value) : Value → Value → Option (Value × Heap)
  | .slice a n c, .int _ (.ofNat m) => bif Nat.ble m 140737488355328 then appendL h bytes es a n c m ((List.replicate m zs).flatten) else none
  | _, _ => none
def copyK (h : Heap) (es : Nat) : Value → Value → Option (Nat × Heap)
  | .slice a n _, .slice b m _ => (srcCells h b (Nat.min m n * es)).bind fun new => (putCells h a 0 new).map fun H' => (Nat.min m n, H')
  | _, _ => none
def markSK (h : Heap) : Value → Option (Value × Heap)
  | .slice (some p) n c => match h.get p.block with
    | some (.cells cs false es) => bif Nat.beq es 0 || Nat.beq n 0 then none else some (.slice (some p) n c, h.put p.block (.cells cs false es))
    | _ => none
  | _ => none
def bgB {R : Type} (ev : Operand → Value) (h : Heap) (op : AOp) (ty : Ty) (k : Value → Heap → Option R) : Option R := match op with
  | .store sz a v => match ev a with
    | .pointer p => (stB sz (ev v) h p).bind fun h' => k undef h'
    | _ => none
  | .mapUpdate j m key v => (mapUpdateK h j (ev m) (ev key) (ev v)).bind fun p => k undef p.2
  | .delete j m key => (deleteK h j (ev m) (ev key)).bind fun p => k (.tuple #[]) p.2
  | .append bytes es s x => (appendK h bytes es (ev s) (ev x)).bind fun p => k p.1 p.2
  | .clear zs x => (clearK h zs (ev x)).bind fun p => k (.tuple #[]) p.2
  | .appendS bytes es s x => (appendSK h bytes es (ev s) (ev x)).bind fun p => k p.1 p.2
  | .clrS => k undef (clrH h)
  | .appendZ bytes es zs s x => (appendZK h bytes es zs (ev s) (ev x)).bind fun p => k p.1 p.2
  | .copy es d s => (copyK h es (ev d) (ev s)).bind fun p => k (goInt p.1) p.2
  | .markS x => (markSK h (ev x)).bind fun p => k p.1 p.2
  | _ => none
inductive OK where | rd | nw | bg | call | callv
def okOf : AOp → OK
  | .alloc _ | .box _ | .buildSlice .. | .makeMap | .makeSlice .. | .toBytes _ => .nw
  | .store .. | .mapUpdate .. | .delete .. | .append .. | .appendZ .. | .copy .. | .clear .. | .markS _ | .rangeM _ | .nextM _ | .appendS .. | .clrS => .bg
  | .call .. => .call
  | .callv .. => .callv
  | _ => .rd
def opds : AOp → List Operand
  | .move x | .box x | .nilCheck x | .toStr x | .rangeM x | .nextM x | .toBytes x | .markS x | .lenS x | .lenStr x | .lenM x | .capS x => [x]
  | .pick a b c => [a, b, c]
  | .alloc _ | .lenC _ | .makeMap | .clrS => []
  | .build _ ps | .buildSlice _ _ _ ps => ps.map (·.2.2)
  | .load _ _ x | .loadS _ _ x | .un _ x | .conv _ x | .fieldAddr _ x | .field _ _ _ x | .extract x _ | .arrAt _ x | .clear _ x => [x]
  | .store _ a v => [a, v]
  | .bin _ x y | .eqv _ _ x y | .bins _ x y | .idxSlice _ x y | .idxArr _ _ x y | .index _ _ _ x y | .indexStr x y | .append _ _ x y | .appendS _ _ x y | .appendZ _ _ _ x y | .copy _ x y | .makeSlice _ _ _ x y => [x, y]
  | .slice _ x lo hi mx | .sliceArr _ _ x lo hi mx => x :: (lo.toList ++ hi.toList ++ mx.toList)
  | .minmax _ xs => xs
  | .makeFunc _ a c => a ++ c
  | .lookup _ _ m k _ => [m, k]
  | .mapUpdate _ m k v => [m, k, v]
  | .delete _ m k => [m, k]
  | .call _ args => args
  | .callv f args => f :: args
def isSet (tm : Rt) : Operand → Bool
  | .tmp t => (rgVal (tm.get t)).isSome
  | _ => true
def isYm (tm : Rt) : Operand → Bool
  | .tmp t => match tm.get t with
    | some .ym => true
    | _ => false
  | _ => false
def isMoveYm (tm : Rt) : AOp → Bool
  | .move x => isYm tm x
  | _ => false
def dstYm (tm : Rt) : Option Nat → Rt
  | none => tm
  | some d => tm.set d (some .ym)
abbrev Sf := Nat → List Value → Heap → {R : Type} → (Value → Heap → Option R) → Option R
abbrev It := Nat → List Value → List Value → {V : Type} → (V → Heap) → (V → Heap → V) → (List Value → V → Option (Bool × V)) → V → Option V
structure Wd where
  W : Type
  hp : W → Heap
  up : W → Heap → W
  yl : List Value → W → Option (Bool × W)
def plain : Wd := ⟨Heap, fun h => h, fun _ h => h, fun _ _ => none⟩
def callB {R : Type} (X : Wd) (sf : Sf) (fv : Value) (args : List Value) (w : X.W) (k : Value → X.W → Option R) : Option R := match fv with
  | .func (.func g) first captured => sf g (first.toList ++ args ++ captured.toList) (X.hp w) fun v h => k v (X.up w h)
  | _ => none
def opB {R : Type} (X : Wd) (sf : Sf) (tm : Rt) (hr : Heap) (w : X.W) (op : AOp) (ty : Ty) (k : Value → X.W → Option R) : Option R := match okOf op with
  | .callv => match op with
    | .callv f args => bif args.all (isSet tm) then (bif isYm tm f then (X.yl (args.map (vl tm)) w).bind fun p => k (.bool p.1) p.2
      else bif isSet tm f then callB X sf (vl tm f) (args.map (vl tm)) w k else none) else none
    | _ => none
  | q => bif (opds op).all (isSet tm) then (match q with
    | .rd => rdB (vl tm) hr op ty fun v => k v w
    | .nw => nwB (vl tm) (X.hp w).next op fun v o => k v (X.up w ((X.hp w).new o))
    | .bg => bgB (vl tm) (X.hp w) op ty fun v h => k v (X.up w h)
    | .call => match op with
      | .call f args => sf f (args.map (vl tm)) (X.hp w) fun v h => k v (X.up w h)
      | _ => none
    | .callv => none)
  else none
def guardB {R : Type} (tm : Rt) (dst : Option Nat) (g : Option (Nat × Bool)) (go : Rt → Option R) (no : Rt → Option R) : Option R := match g with
  | none => go tm
  | some (t, want) => match tm.get t with
    | some (.val (.bool b)) => bif b then (bif want then go (tm.set t (some (.val (.bool true)))) else no (dstB (tm.set t (some (.val (.bool true)))) dst undef))
        else (bif want then no (dstB (tm.set t (some (.val (.bool false)))) dst undef) else go (tm.set t (some (.val (.bool false)))))
    | some (.val _) => no (dstB tm dst undef)
    | _ => none
def opsB {R : Type} (X : Wd) (sf : Sf) : List (AOper × Ty) → Rt → X.W → (Rt → X.W → Option R) → Option R
  | [], tm, w, k => k tm w
  | (o, ty) :: rest, tm, w, k =>
    guardB tm o.dst o.guard (fun tm => bif isMoveYm tm o.op then opsB X sf rest (dstYm tm o.dst) w k else opB X sf tm (X.hp w) w o.op ty fun v w' => opsB X sf rest (dstB tm o.dst v) w' k) fun tm => opsB X sf rest tm w k
/- regions whose order is drawn -/
def pb : Option Addr → List Nat
  | some q => [q.block]
  | none => []
def mb : Value → List Nat
  | .map (some r) => [r]
  | _ => []
def vb : Value → List Nat
  | .pointer p => pb p
  | _ => []
def readsB (ev : Operand → Value) : AOp → List Nat
  | .load _ _ a => vb (ev a)
  | .lookup _ _ m _ _ => mb (ev m)
  | .lenM m => mb (ev m)
  | .toStr x => strReads (ev x)
  | .eqv _ _ x y => vb (ev x) ++ vb (ev y)
  | _ => []
def looks : AOp → Bool
  | .load .. | .lookup .. | .lenM .. | .toStr .. | .eqv .. => true
  | _ => false
structure NoteB where
  n : Note
  nw : Bool
  rd : Bool
def anyNew (d : DOper) : List NoteB → Bool
  | [] => false
  | e :: rest => bif d.anc.contains e.n.i then anyNew d rest else e.nw || anyNew d rest
def anyRd (d : DOper) : List NoteB → Bool
  | [] => false
  | e :: rest => bif d.anc.contains e.n.i then anyRd d rest else e.rd || anyRd d rest
def isNw (op : AOp) : Bool := match okOf op with
  | .nw => true
  | _ => false
def noteB (d : DOper) (ev : Operand → Value) (nx : Nat) (log : List NoteB) : List NoteB :=
  bif d.big then log else ⟨⟨d.i, bif isNw d.o.op then [nx] else [], readsB ev d.o.op⟩, isNw d.o.op, looks d.o.op⟩ :: log
def hid (h : Heap) (bs rs : List Nat) : Heap := (h.dropAll bs).roAll rs
def bigB {R : Type} (X : Wd) (sf : Sf) (tm : Rt) (w : X.W) (bs rs : List Nat) (op : AOp) (ty : Ty) (k : Value → X.W → Option R) : Option R :=
  bif (opds op).all (isSet tm) then (match okOf op with
    | .call => match op with
      | .call f args => sf f (args.map (vl tm)) (hid (X.hp w) bs rs) fun v h => k v (X.up w (h.putBack (X.hp w) (bs ++ rs)))
      | _ => none
    | .bg => bgB (vl tm) (hid (X.hp w) bs rs) op ty fun v h => k v (X.up w (h.putBack (X.hp w) (bs ++ rs)))
    | .rd => rdB (vl tm) (hid (X.hp w) bs rs) op ty fun v => k v w
    | _ => none)
  else none
def dopsB {R : Type} (X : Wd) (sf : Sf) : List (DOper × Ty) → Rt → X.W → List NoteB → (Rt → X.W → Option R) → Option R
  | [], tm, w, _, k => k tm w
  | (d, ty) :: rest, tm, w, log, k =>
    guardB tm d.o.dst d.o.guard
      (fun tm => bif d.big then
          (bif anyNew d log || anyRd d log then bigB X sf tm w (hideFor d (log.map (·.n))) (readsBeside d (log.map (·.n))) d.o.op ty fun v w' => dopsB X sf rest (dstB tm d.o.dst v) w' log k
           else opB X sf tm (X.hp w) w d.o.op ty fun v w' => dopsB X sf rest (dstB tm d.o.dst v) w' log k)
        else bif isMoveYm tm d.o.op then dopsB X sf rest (dstYm tm d.o.dst) w (⟨⟨d.i, [], []⟩, false, false⟩ :: log) k
        else (match okOf d.o.op with
          | .rd => opB X sf tm (bif anyNew d log then (X.hp w).dropAll (hideFor d (log.map (·.n))) else X.hp w) w d.o.op ty fun v w' => dopsB X sf rest (dstB tm d.o.dst v) w' (noteB d (vl tm) (X.hp w).next log) k
          | .nw => opB X sf tm (X.hp w) w d.o.op ty fun v w' => dopsB X sf rest (dstB tm d.o.dst v) w' (noteB d (vl tm) (X.hp w).next log) k
          | _ => none))
      fun tm => dopsB X sf rest tm w (bif d.big then log else ⟨⟨d.i, [], []⟩, false, false⟩ :: log) k
/- code -/
inductive C2 where
  | skip
  | bad
  | reg (ops : List (AOper × Ty))
  | regd (ops : List (DOper × Ty))
  | seq (a b : C2)
  | cond (c : Operand) (a b : C2)
  | block (id : Nat) (b : C2)
  | loop (lv : Lv) (b : C2)
  | range (f : Operand) (ps : List Nat) (exits : List AExit) (assign body : C2)
  | exit (id : Nat)
  | ret
  | cut (lv : Lv) (a : C2)
  | cutn (lv : Lv) (a : C2)
def C2.erase : C2 → AC
  | .skip => .skip
  | .bad => .bad
  | .reg ops => .reg (ops.map (·.1))
  | .regd ops => .regd (ops.map (·.1))
  | .seq a b => .seq a.erase b.erase
  | .cond c a b => .cond c a.erase b.erase
  | .block id b => .block id b.erase
  | .loop _ b => .loop b.erase
  | .range f ps _ as bd => .range f ps as.erase bd.erase
  | .exit id => .exit id
  | .ret => .ret
  | .cut _ a => a.erase
  | .cutn _ a => a.erase
def C2.asg : C2 → List Nat
  | .reg ops => ops.flatMap fun o => o.1.dst.toList
  | .regd ops => ops.flatMap fun d => d.1.o.dst.toList
  | .seq a b => a.asg ++ b.asg
  | .cond _ a b => a.asg ++ b.asg
  | .block _ b => b.asg
  | .loop _ b => b.asg
  | .cut _ a => a.asg
  | .cutn _ a => a.asg
  | _ => []
def loopT {A B : Type} (f : A → Option (A ⊕ B)) : Nat → A → Option B
  | 0, _ => none
  | n + 1, a => match f a with
    | some (.inl a') => loopT f n a'
    | some (.inr b) => some b
    | none => none
def thenB {A R : Type} (x : Option (A ⊕ R)) (k : A → Option R) : Option R := x.bind fun r => match r with
  | .inl a => k a
  | .inr r => some r
def Heap.hole (h : Heap) : Heap := { h with tr := h.tr.set h.next none, next := h.next + 1 }
def pendOf : List AExit → AExit → Nat → Option Nat
  | [], _, _ => none
  | .ret :: es, .ret, i => some i
  | .exit a :: es, .exit b, i => bif Nat.beq a b then some i else pendOf es (.exit b) (i + 1)
  | _ :: es, e, i => pendOf es e (i + 1)
def pendK {R : Type} (ke : AExit → Option R) : List AExit → Nat → Nat → Option R
  | [], _, _ => none
  | e :: es, i, p => bif Nat.beq p i then ke e else pendK ke es (i + 1) p
def run2 (sf : Sf) (it : It) (n : Nat) (X : Wd) (inl : Bool) : C2 → {R : Type} → Rt → X.W → (Rt → X.W → Option R) → (AExit → Rt → X.W → Option R) → Option R
  | .skip, _, tm, w, kn, _ => kn tm w
  | .bad, _, _, _, _, _ => none
  | .reg ops, _, tm, w, kn, _ => opsB X sf ops tm w kn
  | .regd ops, _, tm, w, kn, _ => dopsB X sf ops tm w [] kn
  | .seq a b, _, tm, w, kn, ke => run2 sf it n X inl a tm w (fun tm w => run2 sf it n X inl b tm w kn ke) ke
  | .cond c a b, _, tm, w, kn, ke => bif isSet tm c then (match vl tm c with
    | .bool t => bif t then run2 sf it n X inl a tm w kn ke else run2 sf it n X inl b tm w kn ke
    | _ => none) else none
  | .block id b, _, tm, w, kn, ke => run2 sf it n X inl b tm w kn fun e tm w => match e with
    | .exit i => bif Nat.beq i id then kn tm w else ke e tm w
    | _ => ke e tm w
  | .loop lv b, R, tm, w, kn, ke => (lv.get tm).bind fun x => loopT (fun a : lv.T × X.W => run2 sf it n X inl b (R := (lv.T × X.W) ⊕ R) (lv.put a.1 (delR tm b.asg)) a.2
      (fun tm w => (lv.get tm).bind fun x => some (.inl (x, w))) (fun e tm w => (ke e tm w).map .inr)) n (x, w)
  | .exit id, _, tm, w, _, ke => ke (.exit id) tm w
  | .ret, _, tm, w, _, ke => ke .ret tm w
  | .cut lv a', R, tm, w, kn, ke => thenB (run2 sf it n X inl a' (R := (lv.T × X.W) ⊕ R) tm w (fun tm w => (lv.get tm).bind fun x => some (.inl (x, w))) (fun e tm w => (ke e tm w).map .inr)) fun a => kn (lv.put a.1 (delR tm a'.asg)) a.2
  | .cutn lv a', R, tm, w, kn, ke => (run2 sf it n X inl a' (R := lv.T × X.W) tm w (fun tm w => (lv.get tm).bind fun x => some (x, w)) (fun _ _ _ => none)).bind fun a => kn (lv.put a.1 (delR tm a'.asg)) a.2
  | .range f ps exits as bd, _, tm, w, kn, ke => bif isSet tm f then (match vl tm f with
    | .func (.func g) first captured =>
      (it g first.toList captured.toList (V := X.W × Nat) (fun v => X.hp v.1) (fun v h => (X.up v.1 h, v.2))
        (fun args v => bif Nat.beq args.length ps.length && Nat.beq v.2 0 then
          run2 sf it n X true as (setR tm ps args) v.1 (fun tm1 w1 => run2 sf it n X true bd tm1 w1 (fun _ w2 => some (true, (w2, 0))) (fun e _ w2 => (pendOf exits e 1).bind fun i => some (false, (w2, i)))) (fun _ _ _ => none)
          else none)
        (X.up w (bif inl then (X.hp w).hole else (X.hp w).hole.hole), 0)).bind fun v => bif Nat.beq v.2 0 then kn tm v.1 else pendK (fun e => ke e tm v.1) exits 1 v.2
    | _ => none) else none
end Go.Proofs.YtdlfdieehioolaaDoor
