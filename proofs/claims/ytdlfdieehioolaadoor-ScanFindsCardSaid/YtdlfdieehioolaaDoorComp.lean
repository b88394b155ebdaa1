/- From the loaded program's code to the abstract machine's; not all code has a counterpart. -/
import Derived.Test.YtdlfdieehioolaaDoorCore
namespace Go.Proofs.YtdlfdieehioolaaDoor
open Go
set_option linter.unusedVariables false
def constCell : Value → Bool
  | .bool _ | .int _ _ | .string _ | .pointer none | .map none | .nilFunc | .nilIface => true
  | .slice none 0 0 => true
  | _ => false
def valOk : Value → Bool
  | .agg cs => cs.toList.all constCell
  | v => constCell v
section
variable (P : Program)
def szOf (t : TypeId) : Option Nat := (P.info? t).map (·.size)
def byOf (t : TypeId) : Option Nat := (P.info? t).map (·.bytes)
def zeroOf (t : TypeId) : Option Value := match (P.info? t).bind (·.zero) with
  | some z => if valOk z then some z else none
  | none => none
def aggOf (t : TypeId) : Option Bool := (P.underlying t).map fun d => match d with | .struct _ | .array _ _ => true | _ => false
def kindOf (t : TypeId) : Option IntKind := match P.underlying t with | some (.int k) => some k | _ => none
def mapM? {α β : Type} (f : α → Option β) : List α → Option (List β)
  | [] => some []
  | a :: as => match f a, mapM? f as with
    | some b, some bs => some (b :: bs)
    | _, _ => none
def eqShape : Nat → TypeId → Option (List Bool)
  | 0, _ => none
  | d + 1, t => match P.underlying t with
    | some .bool => some [true]
    | some (.int _) => some [false]
    | some (.array n e) => match eqShape d e, szOf P e with
      | some s, some s' => if s.length = s' then some ((List.replicate n s).flatten) else none
      | _, _ => none
    | some (.struct fs) =>
      if P.stoodInHeld t then none else
      fs.toList.foldlM (fun acc f => match eqShape d f.type, szOf P f.type with
        | some s, some s' => if s.length = s' ∧ f.offset = acc.length ∧ f.name ≠ "_" then some (acc ++ s) else none
        | _, _ => none) []
    | _ => none
def eqKind (t : TypeId) : Option EqK :=
  match P.underlying t with
  | some .bool => some .bool
  | some (.slice _) => some .slice
  | some (.map _ _) => some .map
  | some (.func _ _ _) => some .func
  | some (.pointer e) => match szOf P e with
    | some s => if s ≠ 0 then some .ptr else none
    | none => none
  | some (.struct _) | some (.array _ _) => if P.eqGuardType P.depth t then none else (eqShape P 20 t).map .agg
  | _ => none
def fromBytes (s d : TypeId) : Bool :=
  match P.underlying s, P.underlying d with
  | some (.slice e), some .string => match P.underlying e with
    | some (.int .u8) => true
    | _ => false
  | _, _ => false
def intoBytes (s d : TypeId) : Bool :=
  match P.underlying s, P.underlying d with
  | some .string, some (.slice e) => match P.underlying e with
    | some (.int .u8) => true
    | _ => false
  | _, _ => false
def sameBytes (s d : TypeId) : Bool :=
  Nat.beq s d && match P.underlying s with
  | some (.slice e) => match P.underlying e with
    | some (.int .u8) => true
    | _ => false
  | _ => false
def oneBody (f : FuncId) : Bool :=
  match P.funcs[f]? with
  | some fn => fn.body.isSome && fn.name != "runtime.NumGoroutine"
  | none => false
def compBuiltin (b : Builtin) (args : List Operand) (ts : List TypeId) : Option AOp :=
  match b, args, ts with
  | .len, [x], [t] => match P.underlying t with
    | some (.slice _) => some (.lenS x)
    | some .string => some (.lenStr x)
    | some (.array n _) => some (.lenC n)
    | some (.pointer a) => match P.underlying a with
      | some (.array n _) => some (.lenC n)
      | _ => none
    | some (.map _ _) => some (.lenM x)
    | _ => none
  | .cap, [x], [t] => match P.underlying t with
    | some (.slice _) => some (.capS x)
    | _ => none
  | .min, xs, _ => some (.minmax false xs)
  | .max, xs, _ => some (.minmax true xs)
  | .append, [s, x], [t, u] => match P.underlying t, P.underlying u with
    | some (.slice e), some (.slice _) => do
      let sz ← szOf P e
      let by_ ← byOf P e
      let z ← zeroOf P e
      if 1 ≤ sz ∧ 1 ≤ by_ ∧ by_ ≤ 4294967296 ∧ z.cells.toList.length = sz then some (.append by_ sz s x) else none
    | some (.slice e), some (.int _) => do
      let sz ← szOf P e
      let by_ ← byOf P e
      let z ← zeroOf P e
      if 1 ≤ sz ∧ 1 ≤ by_ ∧ by_ ≤ 4294967296 ∧ z.cells.toList.length = sz then some (.appendZ by_ sz z.cells.toList s x) else none
    | _, _ => none
  | .copy, [d, s], [t, u] => match P.underlying t, P.underlying u with
    | some (.slice e), some (.slice _) => do
      let sz ← szOf P e
      if 1 ≤ sz then some (.copy sz d s) else none
    | _, _ => none
  | .clear, [x], [t] => match P.underlying t with
    | some (.slice e) => do
      let z ← zeroOf P e
      let sz ← szOf P e
      if z.cells.toList.length = sz ∧ 1 ≤ sz then some (.clear z.cells.toList x) else none
    | _ => none
  | .delete, [m, k], t :: _ => match P.underlying t with
    | some (.map kt _) => do
      let k' ← kindOf P kt
      some (.delete k' m k)
    | _ => none
  | _, _, _ => none
def partOf (fs : Array Field) (p : Nat × Operand) : Option (Nat × Nat × Operand) :=
  match fs[p.1]? with
  | none => none
  | some f => match szOf P f.type with
    | none => none
    | some s => some (f.offset, s, p.2)
def compOp : Op → Option AOp
  | .move x | .assign x => some (.move x)
  | .pick c a b => some (.pick c a b)
  | .alloc e => do let z ← zeroOf P e; some (.alloc z.cells.toList)
  | .box _ x => some (.box x)
  | .build t ps => do
    let z ← zeroOf P t
    match P.underlying t with
    | some (.struct fs) => do
      let qs ← mapM? (partOf P fs) ps.toList
      if fs.toList.all (fun f => (szOf P f.type).isSome) then some (.build z.cells.toList qs) else none
    | some (.array _ e) => do
      let s ← szOf P e
      some (.build z.cells.toList (ps.toList.map fun p => (p.1 * s, s, p.2)))
    | _ => none
  | .buildSlice t n ps => match P.underlying t with
    | some (.slice e) => do
      let s ← szOf P e
      let z ← zeroOf P e
      if n * s ≤ 16777216 ∧ z.cells.toList.length = s ∧ 1 ≤ s then
        some (.buildSlice n s ((List.replicate n z.cells.toList).flatten) (ps.toList.map fun p => (p.1 * s, s, p.2)))
      else none
    | _ => none
  | .load t a => do
    let g ← aggOf P t
    let s ← szOf P t
    if g ∨ s = 1 then some (.load g s a) else none
  | .store t a v => do let s ← szOf P t; some (.store s a v)
  | .nilCheck x => some (.nilCheck x)
  | .binOp .eql t x y _ => match kindOf P t with
    | some _ => some (.bin .eql x y)
    | none => match eqKind P t with
      | some k => some (.eqv false k x y)
      | none => some (.bins .eql x y)
  | .binOp .neq t x y _ => match kindOf P t with
    | some _ => some (.bin .neq x y)
    | none => match eqKind P t with
      | some k => some (.eqv true k x y)
      | none => some (.bins .neq x y)
  | .binOp op t x y _ => match kindOf P t with
    | some _ => some (.bin op x y)
    | none => some (.bins op x y)
  | .unOp op _ x => some (.un op x)
  | .convert s d x => match kindOf P s, kindOf P d with
    | some _, some k => some (.conv k x)
    | _, _ => bif fromBytes P s d then some (.toStr x) else bif intoBytes P s d then some (.toBytes x) else bif sameBytes P s d then some (.markS x) else none
  | .range t x => match P.underlying t with
    | some (.map _ _) => some (.rangeM x)
    | _ => none
  | .next x false => some (.nextM x)
  | .sliceToArrayPointer t x => match P.underlying t with
    | some (.array n _) => some (.arrAt n x)
    | _ => none
  | .makeFunc (.func f) first captured => some (.makeFunc f first.toList captured.toList)
  | .makeMap t none => some .makeMap
  | .makeMap t (some (.const (.int _ _))) => match P.underlying t with
    | some (.map _ _) => some .makeMap
    | _ => none
  | .makeSlice t l c => match P.underlying t with
    | some (.slice e) => do
      let s ← szOf P e
      let z ← zeroOf P e
      let b ← byOf P e
      if z.cells.toList.length = s ∧ 1 ≤ s ∧ 1 ≤ b then some (.makeSlice b s z.cells.toList l c) else none
    | _ => none
  | .slice t x lo hi mx => match P.underlying t with
    | some (.slice e) => do
      let s ← szOf P e
      some (.slice s x lo hi mx)
    | some (.array n e) => do
      let s ← szOf P e
      if n ≠ 0 ∧ mx.isNone then some (.sliceArr n s x lo hi none) else none
    | _ => none
  | .fieldAddr t x i => match P.underlying t with
    | some (.struct fs) => do
      let f ← fs[i]?
      let s ← szOf P f.type
      if s ≠ 0 then some (.fieldAddr f.offset x) else none
    | _ => none
  | .field t x i => match P.underlying t with
    | some (.struct fs) => do
      let f ← fs[i]?
      let s ← szOf P f.type
      let g ← aggOf P f.type
      if g ∨ s = 1 then some (.field g f.offset s x) else none
    | _ => none
  | .indexAddr t x i => match P.underlying t with
    | some (.slice e) => do let s ← szOf P e; some (.idxSlice s x i)
    | some (.array n e) => do let s ← szOf P e; some (.idxArr n s x i)
    | _ => none
  | .index t x i => match P.underlying t with
    | some (.array n e) => do
      let s ← szOf P e
      let g ← aggOf P e
      if g ∨ s = 1 then some (.index g n s x i) else none
    | some .string => some (.indexStr x i)
    | _ => none
  | .lookup t m k ok => match P.underlying t with
    | some (.map kt e) => do
      let k' ← kindOf P kt
      let z ← zeroOf P e
      some (.lookup k' z m k ok)
    | _ => none
  | .mapUpdate t m k v | .insert t m k v => match P.underlying t with
    | some (.map kt _) => do
      let k' ← kindOf P kt
      some (.mapUpdate k' m k v)
    | _ => none
  | .extract x i => some (.extract x i)
  | .call ⟨.value (.func f), args, _⟩ => if oneBody P f then some (.call f args.toList) else none
  | .call ⟨.value f, args, _⟩ => some (.callv f args.toList)
  | .call ⟨.builtin b, args, ts⟩ => compBuiltin P b args.toList ts.toList
  | _ => none
def opdOk : Operand → Bool
  | .tmp _ => true
  | .func _ => true
  | .global g => Nat.blt g P.globals.size
  | .const v => valOk v
def smallOp : AOp → Bool
  | .store .. | .rangeM .. | .nextM .. | .markS .. | .toBytes .. | .append .. | .appendZ .. | .copy .. | .clear .. | .mapUpdate .. | .delete .. | .loadS .. | .appendS .. | .clrS | .call .. | .callv .. => false
  | _ => true
def smallSrc : Op → Bool
  | .store .. | .mapUpdate .. | .insert .. | .convert .. | .range .. | .next .. | .call .. => false
  | _ => true
def dstOk (N : Nat) : Option Tmp → Bool
  | none => true
  | some d => Nat.blt d N
def compOper (N : Nat) (ops : Array Oper) (o : Oper) : Option AOper :=
  (compOp P o.op).bind fun a =>
    if dstOk N o.dst = false ∨ o.op.operands.toList.all (opdOk P) = false ∨ (smallSrc o.op = true ∧ smallOp a = false) then none
    else match o.guard with
      | none => some { dst := o.dst, op := a, guard := none }
      | some (j, want) => ((ops[j]?).bind (·.dst)).map fun t => { dst := o.dst, op := a, guard := some (t, want) }
/- the plan of a region whose order is drawn -/
def directs (o : Oper) : List Nat := (o.after.toList.filter fun e => Region.binds .any e).map (·.on)
def ancs (ops : Array Oper) : List (List Nat) :=
  (ops.toList.foldl (fun (acc : List (List Nat)) o =>
    ((directs o) ++ (directs o).flatMap fun j => acc.reverse.getD j []).eraseDups :: acc) []).reverse
def overwrites (ops : Array Oper) (an : List (List Nat)) (i : Nat) (o : Oper) : Bool :=
  match o.dst with
  | none => false
  | some d => ops.toList.zipIdx.any fun (x, j) => (x.looksAt ops).contains d && !(an.getD j []).contains i
def planGo (ops : List DOper) : Nat → List Nat → List DOper → List DOper
  | 0, _, acc => acc.reverse
  | f + 1, done, acc =>
    let ready := ops.filter fun d => !done.contains d.i && d.anc.all done.contains
    match ready.find? fun d => !d.big with
    | some d => planGo ops f (d.i :: done) (d :: acc)
    | none => match ready with
      | d :: _ => planGo ops f (d.i :: done) (d :: acc)
      | [] => acc.reverse
def doperOf (N : Nat) (ops : Array Oper) (an : List (List Nat)) (i : Nat) (o : Oper) : Option DOper := do
  let a ← compOper P N ops o
  some { i := i, anc := an.getD i [], big := !smallOp a.op || overwrites ops an i o, o := a }
def readsTmp (ops : Array Oper) (i : Nat) : List Tmp := match ops[i]? with | some o => o.looksAt ops | none => []
def dstOf (ops : Array Oper) (i : Nat) : Option Tmp := (ops[i]?).bind (·.dst)
def planOk (ops : Array Oper) (ds : List DOper) : Bool :=
  -- each operation once
  Nat.beq ds.length ops.size &&
  (List.range ops.size).all (fun i => ds.any fun d => Nat.beq d.i i) &&
  -- each is the operation at its place
  ds.all (fun d => match ops[d.i]? with
    | some o => (directs o).all d.anc.contains &&
      d.anc.all (fun a => (directs o).contains a || (directs o).any fun y => ds.any fun d' => Nat.beq d'.i y && d'.anc.contains a)
    | none => false) &&
  -- the order keeps the edges; what stands behind a big one hangs on it
  (ds.foldl (fun (acc : Bool × List DOper) d =>
    (acc.1 && d.anc.all (fun a => acc.2.any fun e => Nat.beq e.i a) && acc.2.all (fun e => !e.big || d.anc.contains e.i) && !d.anc.contains d.i && !(acc.2.any fun e => Nat.beq e.i d.i), d :: acc.2)) (true, [])).1 &&
  -- temporaries
  ds.all (fun x => ds.all fun y => Nat.beq x.i y.i ||
    (match dstOf ops y.i with
     | none => true
     | some t => (match dstOf ops x.i with | some u => !(Nat.beq t u) | none => true) &&
       (!(readsTmp ops x.i).contains t || x.anc.contains y.i || (y.big && y.anc.contains x.i)))) &&
  ds.all (fun x => match dstOf ops x.i with | none => true | some t => !(readsTmp ops x.i).contains t) &&
  ds.all (fun x => x.big || smallOp x.o.op)
def compCode (N : Nat) : Code → Option AC
  | .skip => some .skip
  | .region _ ops false => match mapM? (compOper P N ops) ops.toList with
    | some os => some (.reg os)
    | none => some .bad
  | .region _ ops true => match mapM? (fun p : Oper × Nat => doperOf P N ops (ancs ops) p.2 p.1) ops.toList.zipIdx with
    | some ds => if planOk ops (planGo ds ops.size [] []) then some (.regd (planGo ds ops.size [] [])) else some .bad
    | none => some .bad
  | .seq a b => do let x ← compCode N a; let y ← compCode N b; some (.seq x y)
  | .cond c a b => do let x ← compCode N a; let y ← compCode N b; some (.cond c x y)
  | .block id b => do let x ← compCode N b; some (.block id x)
  | .loop b => do let x ← compCode N b; some (.loop x)
  | .rangeFunc f ps as b => do let x ← compCode N as; let y ← compCode N b; if ps.toList.all (Nat.blt · N) && opdOk P f then some (.range f ps.toList x y) else none
  | .exit id => some (.exit id)
  | .scope b => compCode N b
  | .label _ => some .skip
  | .goto _ => some .bad
  | .ret => some .ret
  | .refuse _ => some .bad
def compRes : ResultVar → Option ARes
  | .tmp t => some (.tmp t)
  | .cell a t => do
    let g ← aggOf P t
    let s ← szOf P t
    if g ∨ s = 1 then some (.cell g s a) else none
def compFun (f : Func) : Option AFun := do
  let c ← f.body
  let b ← compCode P f.ntmps c
  let rs ← mapM? (compRes P) f.results.toList
  some { results := rs, body := b }
end
end Go.Proofs.YtdlfdieehioolaaDoor
