/- The abstract machine's equations, in a form that a simplifier can follow: code is a datum, what comes behind is code too. -/
import Derived.Test.YtdlfdieehioolaaDoorRow2
namespace Go.Proofs.YtdlfdieehioolaaDoor
open Go
set_option linter.unusedVariables false
set_option linter.unusedSimpArgs false
def opsK (self : Self) (rest : List AOper) : Option St → Option St
  | some s => opsRun self rest s
  | none => none
def regK : Option St → Option (AExit × St)
  | some s => some (.normal, s)
  | none => none
def seqK (self : Self) (n : Nat) (rd : Option Nat) (b : AC) : Option (AExit × St) → Option (AExit × St)
  | some (.normal, s) => run self n rd b s
  | r => r
def condK (self : Self) (n : Nat) (rd : Option Nat) (a b : AC) (s : St) : Value → Option (AExit × St)
  | .bool t => bif t then run self n rd a s else run self n rd b s
  | _ => none
def blockK (id : Nat) : Option (AExit × St) → Option (AExit × St)
  | some (.exit id', s) => bif Nat.beq id' id then some (.normal, s) else some (.exit id', s)
  | r => r
def loopK (f : St → Option (AExit × St)) (k : Nat) : Option (AExit × St) → Option (AExit × St)
  | some (.normal, s) => loopN f k s
  | r => r
def endK (rs : List ARes) : Option (AExit × St) → Option (Value × Heap)
  | some (.normal, s) => endOf s rs
  | some (.ret, s) => endOf s rs
  | _ => none
section
variable {self : Self} {n : Nat} {rd : Option Nat} {s : St} {tm : Tr Value} {H : Heap} {ds : List Nat}
@[simp] theorem opsRun_nil : opsRun self [] s = some s := rfl
@[simp] theorem opsRun_cons {o rest} : opsRun self (o :: rest) s = opsK self rest (operRun self o s) := by
  simp only [opsRun]; cases operRun self o s <;> rfl
@[simp] theorem opsK_some {rest} : opsK self rest (some s) = opsRun self rest s := rfl
@[simp] theorem run_skip : run self n rd .skip s = some (.normal, s) := rfl
@[simp] theorem run_reg {ops} : run self n rd (.reg ops) s = regK (opsRun self ops s) := by
  simp only [run]; cases opsRun self ops s <;> rfl
@[simp] theorem run_regd {ops} : run self n rd (.regd ops) s = regK (dopsRun self ops s []) := by
  simp only [run]; cases dopsRun self ops s [] <;> rfl
@[simp] theorem regK_some : regK (some s) = some (.normal, s) := rfl
@[simp] theorem run_seq {a b} : run self n rd (.seq a b) s = seqK self n rd b (run self n rd a s) := by
  simp only [run]; rcases run self n rd a s with _ | ⟨e, s'⟩
  · rfl
  · cases e <;> rfl
@[simp] theorem seqK_normal {b} : seqK self n rd b (some (.normal, s)) = run self n rd b s := rfl
@[simp] theorem seqK_exit {b id} : seqK self n rd b (some (.exit id, s)) = some (.exit id, s) := rfl
@[simp] theorem seqK_ret {b} : seqK self n rd b (some (.ret, s)) = some (.ret, s) := rfl
@[simp] theorem run_cond {c a b} : run self n rd (.cond c a b) s = condK self n rd a b s (St.val s.tm c) := by
  simp only [run]; cases St.val s.tm c <;> try rfl
  rename_i t; cases t <;> rfl
@[simp] theorem condK_true {a b} : condK self n rd a b s (.bool true) = run self n rd a s := rfl
@[simp] theorem condK_false {a b} : condK self n rd a b s (.bool false) = run self n rd b s := rfl
@[simp] theorem run_block {id b} : run self n rd (.block id b) s = blockK id (run self n rd b s) := by
  simp only [run]; rcases run self n rd b s with _ | ⟨e, s'⟩
  · rfl
  · cases e <;> rfl
@[simp] theorem blockK_normal {id} : blockK id (some (.normal, s)) = some (.normal, s) := rfl
@[simp] theorem blockK_ret {id} : blockK id (some (.ret, s)) = some (.ret, s) := rfl
@[simp] theorem blockK_exit {id id'} : blockK id (some (.exit id', s)) = if id' = id then some (.normal, s) else some (.exit id', s) := by
  by_cases h : id' = id
  · subst h; simp [blockK]
  · have : Nat.beq id' id = false := Bool.eq_false_iff.2 fun hb => h (Nat.eq_of_beq_eq_true hb)
    simp [blockK, h, this]
@[simp] theorem run_exit {id} : run self n rd (.exit id) s = some (.exit id, s) := rfl
@[simp] theorem run_ret : run self n rd .ret s = some (.ret, s) := rfl
theorem loopN_succ {f : St → Option (AExit × St)} {k : Nat} : loopN f (k + 1) s = loopK f k (f s) := by
  simp only [loopN]; rcases f s with _ | ⟨e, s'⟩
  · rfl
  · cases e <;> rfl
@[simp] theorem loopK_normal {f k} : loopK f k (some (.normal, s)) = loopN f k s := rfl
@[simp] theorem loopK_exit {f k id} : loopK f k (some (.exit id, s)) = some (.exit id, s) := rfl
@[simp] theorem loopK_ret {f k} : loopK f k (some (.ret, s)) = some (.ret, s) := rfl
theorem exec_prim {T : Nat → Option AFun} {f : Nat} {af : AFun} {p : Prim} {args : List Value} (h : T f = some af) (hp : af.prim = some p) : exec T (n + 1) (.fn f) args H = p args H := by
  simp only [exec, h, hp]
theorem exec_fn {T : Nat → Option AFun} {f : Nat} {rs : List ARes} {bd : AC} {args : List Value} (h : T f = some ⟨rs, bd, none⟩) :
    exec T (n + 1) (.fn f) args H = endK rs (run (exec T n) n none bd ⟨initTm 0 .nil args, H, []⟩) := by
  simp only [exec, h]
  rcases run (exec T n) n none bd ⟨initTm 0 .nil args, H, []⟩ with _ | ⟨e, s'⟩
  · rfl
  · cases e <;> rfl
@[simp] theorem endK_normal {rs} : endK rs (some (.normal, s)) = endOf s rs := rfl
@[simp] theorem endK_ret {rs} : endK rs (some (.ret, s)) = endOf s rs := rfl
@[simp] theorem initTm_nil {i : Nat} : initTm i tm [] = tm := rfl
@[simp] theorem initTm_cons {i : Nat} {v : Value} {vs : List Value} : initTm i tm (v :: vs) = initTm (i + 1) (tm.set i (some v)) vs := rfl
/- registers -/
@[simp] theorem val_tmp {t : Nat} : St.val tm (.tmp t) = (tm.get t).getD undef := rfl
@[simp] theorem val_const {v : Value} : St.val tm (.const v) = v := rfl
@[simp] theorem val_global {g : Nat} : St.val tm (.global g) = .pointer (some ⟨g, 0, none⟩) := rfl
@[simp] theorem val_func {f : Nat} : St.val tm (.func f) = .func (.func f) #[] #[] := rfl
def Keeps (n : Nat) (t t' : Tr Value) : Prop := ∀ k, k < n → t'.get k = t.get k
theorem Keeps.set {n k : Nat} {t t' : Tr Value} {v : Option Value} (h : n ≤ k) (hk : Keeps n t t') : Keeps n t (t'.set k v) := fun j hj => by
  rw [Tr.get_set, if_neg (by omega)]; exact hk j hj
theorem keeps_set {n k : Nat} {t t' : Tr Value} {v : Option Value} (h : n ≤ k) : Keeps n t (t'.set k v) = Keeps n t t' := by
  refine propext ⟨fun hk j hj => ?_, fun hk => hk.set h⟩
  have := hk j hj
  rwa [Tr.get_set, if_neg (by omega)] at this
theorem keeps_refl {n : Nat} {t : Tr Value} : Keeps n t t = True := by simp [Keeps]
attribute [simp] keeps_set keeps_refl
theorem Keeps.trans {n : Nat} {a b c : Tr Value} (h : Keeps n a b) (k : Keeps n b c) : Keeps n a c := fun j hj => (k j hj).trans (h j hj)
def KeepsB (n : Nat) (l : List Nat) (t t' : Tr Value) : Prop := ∀ k, k < n → k ∉ l → t'.get k = t.get k
theorem keepsB_set {n k : Nat} {l : List Nat} {t t' : Tr Value} {v : Option Value} (h : n ≤ k) : KeepsB n l t (t'.set k v) = KeepsB n l t t' := by
  have e : ∀ j, j < n → (t'.set k v).get j = t'.get j := fun j hj => by rw [Tr.get_set, if_neg (by omega)]
  exact propext ⟨fun hk j hj hn => (e j hj) ▸ hk j hj hn, fun hk j hj hn => (e j hj).trans (hk j hj hn)⟩
theorem keepsB_in {n k : Nat} {l : List Nat} {t t' : Tr Value} {v : Option Value} (h : k ∈ l) : KeepsB n l t (t'.set k v) = KeepsB n l t t' := by
  have e : ∀ j, j ∉ l → (t'.set k v).get j = t'.get j := fun j hj => by rw [Tr.get_set, if_neg (by rintro rfl; exact hj h)]
  exact propext ⟨fun hk j hj hn => (e j hn) ▸ hk j hj hn, fun hk j hj hn => (e j hn).trans (hk j hj hn)⟩
theorem keepsB_refl {n : Nat} {l : List Nat} {t : Tr Value} : KeepsB n l t t = True := by simp [KeepsB]
attribute [simp] keepsB_set keepsB_in keepsB_refl
theorem KeepsB.get {n : Nat} {l : List Nat} {t t' : Tr Value} (h : KeepsB n l t t') {k : Nat} {v : Option Value} (hv : t.get k = v) (h1 : k < n := by decide) (h2 : k ∉ l := by decide) : t'.get k = v := (h k h1 h2).trans hv
theorem Keeps.get {n : Nat} {t t' : Tr Value} (h : Keeps n t t') {k : Nat} {v : Option Value} (hv : t.get k = v) (h1 : k < n := by decide) : t'.get k = v := (h k h1).trans hv
attribute [simp] Tr.get_set Tr.get_nil
attribute [simp] Heap.get_put Heap.get_new Heap.get_drop
/- operations -/
variable {ev : Operand → Value}
@[simp] theorem opRun_call {f args} : opRun self ev H (.call f args) = self (.fn f) (args.map ev) H := rfl
@[simp] theorem opRun_callv {f args} : opRun self ev H (.callv f args) = callVal self (ev f) (args.map ev) H := rfl
@[simp] theorem opRun_move {x} : opRun self ev H (.move x) = some (ev x, H) := rfl
@[simp] theorem opRun_alloc {zs} : opRun self ev H (.alloc zs) = some (.pointer (some ⟨H.next, 0, none⟩), H.new (.cells zs false 0)) := rfl
/- pick -/
@[simp] theorem opRun_build {zs parts} : opRun self ev H (.build zs parts) = (fillL zs (parts.map fun p => (p.1, p.2.1, ev p.2.2))).map fun cs => (.agg ⟨cs⟩, H) := by
  simp only [opRun, aop]; cases fillL zs (parts.map fun p => (p.1, p.2.1, ev p.2.2)) <;> rfl
@[simp] theorem opRun_buildSlice {m es zs parts} : opRun self ev H (.buildSlice m es zs parts) = (fillL zs (parts.map fun p => (p.1, p.2.1, ev p.2.2))).map fun cs => (.slice (some ⟨H.next, 0, some 0⟩) m m, H.new (.cells cs false es)) := by
  simp only [opRun, aop]; cases fillL zs (parts.map fun p => (p.1, p.2.1, ev p.2.2)) <;> rfl
def loadK (H : Heap) (agg : Bool) (sz : Nat) : Value → Option (Value × Heap)
  | .pointer (some p) => (readCells H p.block p.off sz).bind fun cs => (loadL agg sz cs).map (·, H)
  | _ => none
@[simp] theorem opRun_load {agg sz a} : opRun self ev H (.load agg sz a) = loadK H agg sz (ev a) := by
  simp only [opRun, aop]
  cases ev a <;> try rfl
  rename_i p; cases p <;> try rfl
  rename_i p
  simp only [loadK]
  cases readCells H p.block p.off sz <;> try rfl
  rename_i cs
  simp only [Option.bind_eq_bind, Option.bind_some]
  cases loadL agg sz cs <;> rfl
@[simp] theorem loadK_ptr {agg sz p} : loadK H agg sz (.pointer (some p)) = (readCells H p.block p.off sz).bind fun cs => (loadL agg sz cs).map (·, H) := rfl
theorem readCells_of {r off m : Nat} {cs : List Value} {ro es} (h : H.get r = some (.cells cs ro es)) (hl : off + m ≤ cs.length) : readCells H r off m = some ((cs.drop off).take m) := by
  simp only [readCells, h]
  rw [Nat.ble_eq_true_of_le hl]; rfl
@[simp] theorem loadL_one {v} : loadL false 1 [v] = some v := rfl
@[simp] theorem loadL_agg {sz cs} : loadL true sz cs = some (.agg ⟨cs⟩) := by simp [loadL]
@[simp] theorem cellsOf_int {k z} : cellsOf (.int k z) = [.int k z] := rfl
@[simp] theorem cellsOf_bool {z} : cellsOf (.bool z) = [.bool z] := rfl
@[simp] theorem cellsOf_ptr {z} : cellsOf (.pointer z) = [.pointer z] := rfl
@[simp] theorem cellsOf_slice {a b c} : cellsOf (.slice a b c) = [.slice a b c] := rfl
@[simp] theorem cellsOf_map {a} : cellsOf (.map a) = [.map a] := rfl
@[simp] theorem cellsOf_nilFunc : cellsOf .nilFunc = [.nilFunc] := rfl
@[simp] theorem cellsOf_func {a b c} : cellsOf (.func a b c) = [.func a b c] := rfl
@[simp] theorem cellsOf_string {a} : cellsOf (.string a) = [.string a] := rfl
@[simp] theorem cellsOf_agg {cs : List Value} : cellsOf (.agg ⟨cs⟩) = cs := rfl
@[simp] theorem isCell_bool {b} : isCell (.bool b) = true := rfl
@[simp] theorem isCell_int {k z} : isCell (.int k z) = true := rfl
@[simp] theorem isCell_string {s} : isCell (.string s) = true := rfl
@[simp] theorem isCell_pointer {p} : isCell (.pointer p) = true := rfl
@[simp] theorem isCell_slice {a n c} : isCell (.slice a n c) = true := rfl
@[simp] theorem isCell_map {r} : isCell (.map r) = true := rfl
@[simp] theorem isCell_nilFunc : isCell .nilFunc = true := rfl
@[simp] theorem isCell_nilIface : isCell .nilIface = true := rfl
@[simp] theorem isAtom_bool {b} : isAtom (.bool b) = true := rfl
@[simp] theorem isAtom_int {k z} : isAtom (.int k z) = true := rfl
@[simp] theorem isAtom_string {s} : isAtom (.string s) = true := rfl
@[simp] theorem isAtom_pointer {p} : isAtom (.pointer p) = true := rfl
@[simp] theorem isAtom_slice {a n c} : isAtom (.slice a n c) = true := rfl
@[simp] theorem isAtom_map {r} : isAtom (.map r) = true := rfl
@[simp] theorem isAtom_nilFunc : isAtom .nilFunc = true := rfl
@[simp] theorem isAtom_nilIface : isAtom .nilIface = true := rfl
@[simp] theorem isCell_func {a b c} : isCell (.func a b c) = true := rfl
@[simp] theorem isTuple_bool {b} : isTuple (.bool b) = false := rfl
@[simp] theorem isTuple_int {k z} : isTuple (.int k z) = false := rfl
@[simp] theorem isTuple_string {s} : isTuple (.string s) = false := rfl
@[simp] theorem isTuple_pointer {p} : isTuple (.pointer p) = false := rfl
@[simp] theorem isTuple_slice {a n c} : isTuple (.slice a n c) = false := rfl
@[simp] theorem isTuple_map {r} : isTuple (.map r) = false := rfl
@[simp] theorem isTuple_nilFunc : isTuple .nilFunc = false := rfl
@[simp] theorem isTuple_nilIface : isTuple .nilIface = false := rfl
@[simp] theorem isTuple_func {a b c} : isTuple (.func a b c) = false := rfl
@[simp] theorem isTuple_agg {cs} : isTuple (.agg cs) = false := rfl
theorem writeCells_of {r off : Nat} {cs vs : List Value} {es} (h : H.get r = some (.cells cs false es)) (hl : off + vs.length ≤ cs.length) : writeCells H r off vs = some (H.put r (.cells (writeAt cs off vs) false es)) := by
  simp only [writeCells, h]
  rw [Nat.ble_eq_true_of_le hl]; rfl
def binK (H : Heap) (op : BinOp) : Value → Value → Option (Value × Heap)
  | .int j a, .int k b => (pureV (binOp op 0 (.int j a) (.int k b))).map (·, H)
  | _, _ => none
@[simp] theorem opRun_bin {op x y} : opRun self ev H (.bin op x y) = binK H op (ev x) (ev y) := by
  simp only [opRun, aop]
  cases ev x <;> first | rfl | (cases ev y <;> rfl)
@[simp] theorem binK_add {k a b} : binK H .add (.int k a) (.int k b) = some (.int k (k.wrap (a + b)), H) := by simp [binK, binOp, Op.intArith, pureV]; rfl
@[simp] theorem binK_sub {k a b} : binK H .sub (.int k a) (.int k b) = some (.int k (k.wrap (a - b)), H) := by simp [binK, binOp, Op.intArith, pureV]; rfl
@[simp] theorem binK_mul {k a b} : binK H .mul (.int k a) (.int k b) = some (.int k (k.wrap (a * b)), H) := by simp [binK, binOp, Op.intArith, pureV]; rfl
@[simp] theorem binK_eql {k a b} : binK H .eql (.int k a) (.int k b) = some (.bool (decide (a = b)), H) := by simp [binK, binOp, Op.intCmp, pureV]; rfl
@[simp] theorem binK_neq {k a b} : binK H .neq (.int k a) (.int k b) = some (.bool (decide (a ≠ b)), H) := by simp [binK, binOp, Op.intCmp, pureV]; rfl
@[simp] theorem binK_lss {k a b} : binK H .lss (.int k a) (.int k b) = some (.bool (decide (a < b)), H) := by simp [binK, binOp, Op.intCmp, pureV]; rfl
@[simp] theorem binK_leq {k a b} : binK H .leq (.int k a) (.int k b) = some (.bool (decide (a ≤ b)), H) := by simp [binK, binOp, Op.intCmp, pureV]; rfl
@[simp] theorem binK_gtr {k a b} : binK H .gtr (.int k a) (.int k b) = some (.bool (decide (b < a)), H) := by simp [binK, binOp, Op.intCmp, pureV]; rfl
@[simp] theorem binK_geq {k a b} : binK H .geq (.int k a) (.int k b) = some (.bool (decide (b ≤ a)), H) := by simp [binK, binOp, Op.intCmp, pureV]; rfl
theorem binK_quo {k a b} (hb : b ≠ 0) : binK H .quo (.int k a) (.int k b) = some (.int k (k.wrap (a.tdiv b)), H) := by
  simp [binK, binOp, Op.intDiv, hb, pureV]; rfl
theorem binK_rem {k a b} (hb : b ≠ 0) : binK H .rem (.int k a) (.int k b) = some (.int k (a.tmod b), H) := by
  simp [binK, binOp, Op.intDiv, hb, pureV]; rfl
def makeSliceK (H : Heap) (bytes es : Nat) (zs : List Value) : Value → Value → Option (Value × Heap)
  | .int _ l, .int _ c => match IntKind.i64.wrap l, IntKind.i64.wrap c with
    | .ofNat l', .ofNat c' => bif Nat.ble l' c' && Nat.ble (c' * bytes) 140737488355328 then some (.slice (some ⟨H.next, 0, some 0⟩) l' c', H.new (.cells ((List.replicate c' zs).flatten) false es)) else none
    | _, _ => none
  | _, _ => none
@[simp] theorem opRun_makeSlice {bytes es zs l c} : opRun self ev H (.makeSlice bytes es zs l c) = makeSliceK H bytes es zs (ev l) (ev c) := by
  simp only [opRun, aop]
  cases ev l <;> first | rfl | (cases ev c <;> rfl)
def sliceArrK (H : Heap) (m es : Nat) (lo hi : Option Value) : Value → Option (Value × Heap)
  | .pointer (some p) => (sliceBnds m m lo hi none).map fun b => (.slice (some ⟨p.block, p.off + b.1 * es, some 0⟩) (b.2.1 - b.1) (b.2.2 - b.1), H)
  | _ => none
@[simp] theorem opRun_sliceArr {m es x lo hi} : opRun self ev H (.sliceArr m es x lo hi none) = sliceArrK H m es (lo.map ev) (hi.map ev) (ev x) := by
  simp only [opRun, aop]
  cases ev x <;> try rfl
  rename_i p; cases p <;> try rfl
  simp only [sliceArrK]
  cases sliceBnds m m (lo.map ev) (hi.map ev) none <;> rfl
@[simp] theorem sliceArrK_ptr {m es lo hi p} : sliceArrK H m es lo hi (.pointer (some p)) = (sliceBnds m m lo hi none).map fun b => (.slice (some ⟨p.block, p.off + b.1 * es, some 0⟩) (b.2.1 - b.1) (b.2.2 - b.1), H) := rfl
def arrAtK (H : Heap) (m : Nat) : Value → Option (Value × Heap)
  | .slice (some p) k _ => bif Nat.ble m k && Nat.ble 1 m then some (.pointer (some ⟨p.block, p.off, none⟩), H) else none
  | _ => none
@[simp] theorem opRun_arrAt {m x} : opRun self ev H (.arrAt m x) = arrAtK H m (ev x) := by
  simp only [opRun, aop]
  cases ev x <;> rfl
def toStrK (H : Heap) : Value → Option (Value × Heap)
  | .slice none _ _ => some (.string .empty, H)
  | .slice (some p) k _ => (readCells H p.block p.off k).bind fun cs => (u8s cs).map fun ns => (.string (strOfInts ns), H)
  | _ => none
@[simp] theorem opRun_toStr {x} : opRun self ev H (.toStr x) = toStrK H (ev x) := by
  simp only [opRun, aop]
  cases ev x <;> try rfl
  rename_i p k c; cases p <;> try rfl
  rename_i p
  simp only [toStrK]
  cases readCells H p.block p.off k <;> try rfl
  rename_i cs
  simp only [Option.bind_some]
  cases u8s cs <;> rfl
def binsK (H : Heap) (op : BinOp) : Value → Value → Option (Value × Heap)
  | .string a, .string b => (strOp op a b).map (·, H)
  | _, _ => none
@[simp] theorem opRun_bins {op x y} : opRun self ev H (.bins op x y) = binsK H op (ev x) (ev y) := by
  simp only [opRun, aop]
  cases ev x <;> first | rfl | (cases ev y <;> rfl)
@[simp] theorem binsK_eql {a b} : binsK H .eql (.string a) (.string b) = some (.bool (a.data.toList == b.data.toList), H) := rfl
@[simp] theorem opRun_makeMap : opRun self ev H .makeMap = some (.map (some H.next), H.new (.map [])) := rfl
def lookupK (H : Heap) (k : IntKind) (zero : Value) (ok : Bool) (m key : Value) : Option (Value × Heap) :=
  match key with
  | .int k' n => if k' = k then match m with
    | .map none => some (bif ok then .tuple #[zero, .bool false] else zero, H)
    | .map (some r) => match H.get r with
      | some (.map kvs) => match findKv k n kvs 0 with
        | some (some (_, v)) => some (bif ok then .tuple #[v, .bool true] else v, H)
        | some none => some (bif ok then .tuple #[zero, .bool false] else zero, H)
        | none => none
      | _ => none
    | _ => none else none
  | _ => none
@[simp] theorem opRun_lookup {k z m key ok} : opRun self ev H (.lookup k z m key ok) = lookupK H k z ok (ev m) (ev key) := rfl
theorem lookupK_some {k z ok r kvs t i v} (h : H.get r = some (.map kvs)) (hf : findKv k t kvs 0 = some (some (i, v))) : lookupK H k z ok (.map (some r)) (.int k t) = some (bif ok then .tuple #[v, .bool true] else v, H) := by
  simp only [lookupK, if_true, h, hf]
theorem lookupK_none {k z ok r kvs t} (h : H.get r = some (.map kvs)) (hf : findKv k t kvs 0 = some none) : lookupK H k z ok (.map (some r)) (.int k t) = some (bif ok then .tuple #[z, .bool false] else z, H) := by
  simp only [lookupK, if_true, h, hf]
def mapUpdateK (H : Heap) (k : IntKind) (m key v : Value) : Option (Value × Heap) :=
  match key, m with
  | .int k' n, .map (some r) => if k' = k then match H.get r with
    | some (.map kvs) => match findKv k n kvs 0 with
      | some (some (i, _)) => bif isTuple v then none else some (undef, H.put r (.map (kvs.set i (.int k n, v))))
      | some none => bif isTuple v then none else some (undef, H.put r (.map (kvs ++ [(.int k n, v)])))
      | none => none
    | _ => none else none
  | _, _ => none
@[simp] theorem opRun_mapUpdate {k m key v} : opRun self ev H (.mapUpdate k m key v) = mapUpdateK H k (ev m) (ev key) (ev v) := rfl
def deleteK (H : Heap) (k : IntKind) (m key : Value) : Option (Value × Heap) :=
  match key, m with
  | .int k' n, .map (some r) => if k' = k then match H.get r with
    | some (.map kvs) => match findKv k n kvs 0 with
      | some (some (i, _)) => some (.tuple #[], H.put r (.map (kvs.eraseIdx i)))
      | some none => some (.tuple #[], H)
      | none => none
    | _ => none else none
  | .int k' _, .map none => if k' = k then some (.tuple #[], H) else none
  | _, _ => none
@[simp] theorem opRun_delete {k m key} : opRun self ev H (.delete k m key) = deleteK H k (ev m) (ev key) := rfl
def maxK (H : Heap) (isMax : Bool) : Value → Value → Option (Value × Heap)
  | .int k n, .int k2 b => bif k == k2 then some (Value.int k (bif isMax then (if n < b then b else n) else (if b < n then b else n)), H) else none
  | _, _ => none
@[simp] theorem opRun_minmax2 {b x y} : opRun self ev H (.minmax b [x, y]) = maxK H b (ev x) (ev y) := by
  simp only [opRun, aop, List.map_cons, List.map_nil]
  cases ev x <;> try rfl
  cases ev y <;> try rfl
  rename_i k n k2 m
  simp only [maxK, List.foldlM]
  cases k == k2 <;> rfl
theorem opRun_minmax3 {b x y z} {k : IntKind} {m n o : Int} (hx : ev x = .int k m) (hy : ev y = .int k n) (hz : ev z = .int k o) : opRun self ev H (.minmax b [x, y, z]) =
    some (.int k (bif b then (if (if m < n then n else m) < o then o else (if m < n then n else m)) else (if o < (if n < m then n else m) then o else (if n < m then n else m))), H) := by
  have hj : (k == k) = true := by cases k <;> rfl
  simp only [opRun, aop, List.map_cons, List.map_nil, hx, hy, hz, List.foldlM, hj, cond_true, Option.bind_eq_bind, Option.bind_some]
  cases b <;> rfl
def unK (H : Heap) (op : UnOp) : Value → Option (Value × Heap)
  | .int k n => (pureV (Op.unary op (.int k n))).map (·, H)
  | .bool b => (pureV (Op.unary op (.bool b))).map (·, H)
  | _ => none
@[simp] theorem opRun_un {op x} : opRun self ev H (.un op x) = unK H op (ev x) := by
  simp only [opRun, aop]; cases ev x <;> rfl
@[simp] theorem unK_not {b} : unK H .not (.bool b) = some (.bool (!b), H) := rfl
def idxK (H : Heap) (es : Nat) : Value → Value → Option (Value × Heap)
  | .slice (some p) n _, .int _ (.ofNat k) => bif Nat.blt k n then some (.pointer (some ⟨p.block, p.off + k * es, none⟩), H) else none
  | _, _ => none
theorem natIn_int {k : IntKind} {i m : Nat} (h : i ≤ m) : natIn (.int k (i : Int)) m = some i := by
  show (bif Nat.ble i m then some i else none) = some i
  rw [Nat.ble_eq_true_of_le h]; rfl
@[simp] theorem opRun_idxSlice {es x i} : opRun self ev H (.idxSlice es x i) = idxK H es (ev x) (ev i) := by
  simp only [opRun, aop]
  cases ev x <;> try rfl
  rename_i p m c; cases p <;> try rfl
  cases ev i <;> try rfl
  rename_i z
  cases z with
  | ofNat a =>
    simp only [natIn, idxK]
    by_cases h : a ≤ m
    · rw [Nat.ble_eq_true_of_le h]; simp
    · have h1 : Nat.ble a m = false := by
        cases hb : Nat.ble a m with
        | false => rfl
        | true => exact absurd (Nat.le_of_ble_eq_true hb) h
      have h2 : Nat.blt a m = false := by
        cases hb : Nat.blt a m with
        | false => rfl
        | true => exact absurd (Nat.le_of_ble_eq_true hb) (by omega)
      rw [h1, h2]; rfl
  | negSucc a => rfl
@[simp] theorem opRun_lenC {m} : opRun self ev H (.lenC m) = some (goInt m, H) := rfl
def fieldK (H : Heap) (agg : Bool) (off sz : Nat) : Value → Option (Value × Heap)
  | .agg cs => bif Nat.ble (off + sz) cs.toList.length then (loadL agg sz ((cs.toList.drop off).take sz)).map (·, H) else none
  | _ => none
@[simp] theorem opRun_field {agg off sz x} : opRun self ev H (.field agg off sz x) = fieldK H agg off sz (ev x) := by
  simp only [opRun, aop]; cases ev x <;> rfl
def appendK (H : Heap) (bytes es : Nat) : Value → Value → Option (Value × Heap)
  | .slice a n c, .slice b m _ => (srcCells H b (m * es)).bind fun new => appendL H bytes es a n c m new
  | _, _ => none
@[simp] theorem opRun_append {bytes es x y} : opRun self ev H (.append bytes es x y) = appendK H bytes es (ev x) (ev y) := by
  simp only [opRun, aop]
  cases ev x <;> first | rfl | (cases ev y <;> rfl)
def sliceK (H : Heap) (es : Nat) (lo hi mx : Option Value) : Value → Option (Value × Heap)
  | .slice a n c => (sliceBnds n c lo hi mx).bind fun b => match a with
    | some p => some (.slice (some ⟨p.block, p.off + b.1 * es, match mx with | some _ => some 0 | none => p.spot⟩) (b.2.1 - b.1) (b.2.2 - b.1), H)
    | none => some (.slice none 0 0, H)
  | _ => none
@[simp] theorem opRun_slice {es x lo hi mx} : opRun self ev H (.slice es x lo hi mx) = sliceK H es (lo.map ev) (hi.map ev) (mx.map ev) (ev x) := by
  simp only [opRun, aop]
  cases ev x <;> try rfl
  rename_i a m c
  simp only [sliceK, Option.bind_eq_bind]
  congr 1
  funext b
  obtain ⟨l, h, k⟩ := b
  cases a <;> cases mx <;> rfl
/- regions whose order is drawn -/
def dopsK (self : Self) (rest : List DOper) : Option (St × List Note) → Option St
  | some (s, log) => dopsRun self rest s log
  | none => none
@[simp] theorem dopsRun_nil {log} : dopsRun self [] s log = some s := rfl
@[simp] theorem dopsRun_cons {d rest log} : dopsRun self (d :: rest) s log = dopsK self rest (doperRun self d s log) := by
  simp only [dopsRun]; rcases doperRun self d s log with _ | ⟨s', l⟩ <;> rfl
@[simp] theorem dopsK_some {rest log} : dopsK self rest (some (s, log)) = dopsRun self rest s log := rfl
def noteK (i : Nat) (big : Bool) (tm : Tr Value) (ds : List Nat) (dst : Option Nat) (reads : List Nat) (H : Heap) (log : List Note) : Option (Value × Heap) → Option (St × List Note)
  | some (v, H') => some (⟨setDst tm dst v, H', ds⟩, bif big then log else ⟨i, rangeL H.next (H'.next - H.next), reads⟩ :: log)
  | none => none
@[simp] theorem noteK_small {i dst reads log v H'} : noteK i false tm ds dst reads H log (some (v, H')) = some (⟨setDst tm dst v, H', ds⟩, ⟨i, rangeL H.next (H'.next - H.next), reads⟩ :: log) := rfl
@[simp] theorem noteK_big {i dst reads log v H'} : noteK i true tm ds dst reads H log (some (v, H')) = some (⟨setDst tm dst v, H', ds⟩, log) := rfl
@[simp] theorem setDst_some {d v} : setDst tm (some d) v = tm.set d (some v) := rfl
@[simp] theorem setDst_none {v} : setDst tm none v = tm := rfl
def doperK (self : Self) (i : Nat) (big : Bool) (dst : Option Nat) (op : AOp) (tm : Tr Value) (H : Heap) (ds : List Nat) (log : List Note) (hide read : List Nat) : Option (St × List Note) :=
  bif hide.all (fun r => Nat.blt r H.next) then
    noteK i big tm ds dst (readsOf (St.val tm) op) H log ((opRun self (St.val tm) ((H.dropAll hide).roAll read) op).map fun (v, H') => (v, H'.putBack H (hide ++ read)))
  else none
theorem doperRun_eq {i anc big dst op log} :
    doperRun self ⟨i, anc, big, ⟨dst, op, none⟩⟩ ⟨tm, H, ds⟩ log = doperK self i big dst op tm H ds log (hideFor ⟨i, anc, big, ⟨dst, op, none⟩⟩ log) (readFor ⟨i, anc, big, ⟨dst, op, none⟩⟩ log) := by
  have e : ∀ (H' : Heap) (l : List Nat), (H'.putBack H l).next = H'.next := by
    intro H' l
    induction l with
    | nil => rfl
    | cons r rest ih => exact ih
  simp only [doperRun, wantedA, cond_true, doperK]
  cases (hideFor ⟨i, anc, big, ⟨dst, op, none⟩⟩ log).all (fun r => Nat.blt r H.next) <;> try rfl
  simp only [cond_true]
  rcases opRun self (St.val tm) ((H.dropAll _).roAll _) op with _ | ⟨v, H'⟩
  · rfl
  · simp only [Option.map_some, noteK, e]
theorem doperK_nil {i big dst op log} : doperK self i big dst op tm H ds log [] [] = noteK i big tm ds dst (readsOf (St.val tm) op) H log (opRun self (St.val tm) H op) := by
  simp only [doperK, List.all_nil, cond_true, Heap.dropAll, Heap.roAll, List.append_nil, Heap.putBack]
  rcases opRun self (St.val tm) H op with _ | ⟨v, H'⟩ <;> rfl
attribute [simp] hideFor readFor readsBeside rangeL
def strReads : Value → List Nat
  | .slice (some p) _ _ => [p.block]
  | _ => []
@[simp] theorem readsOf_toStr {ev : Operand → Value} {x} : readsOf ev (.toStr x) = strReads (ev x) := rfl
@[simp] theorem strReads_slice {p n c} : strReads (.slice (some p) n c) = [p.block] := rfl
@[simp] theorem strReads_nil {n c} : strReads (.slice none n c) = [] := rfl
@[simp] theorem readsOf_move {ev : Operand → Value} {x} : readsOf ev (.move x) = [] := rfl
@[simp] theorem readsOf_pick {ev : Operand → Value} {c} {a} {b} : readsOf ev (.pick c a b) = [] := rfl
@[simp] theorem readsOf_bin {ev : Operand → Value} {op} {x} {y} : readsOf ev (.bin op x y) = [] := rfl
@[simp] theorem readsOf_idxSlice {ev : Operand → Value} {es} {x} {i} : readsOf ev (.idxSlice es x i) = [] := rfl
@[simp] theorem readsOf_idxArr {ev : Operand → Value} {n} {es} {x} {i} : readsOf ev (.idxArr n es x i) = [] := rfl
@[simp] theorem readsOf_lenS {ev : Operand → Value} {x} : readsOf ev (.lenS x) = [] := rfl
@[simp] theorem readsOf_extract {ev : Operand → Value} {x} {i} : readsOf ev (.extract x i) = [] := rfl
@[simp] theorem readsOf_fieldAddr {ev : Operand → Value} {off} {x} : readsOf ev (.fieldAddr off x) = [] := rfl
@[simp] theorem readsOf_nilCheck {ev : Operand → Value} {x} : readsOf ev (.nilCheck x) = [] := rfl
@[simp] theorem readsOf_un {ev : Operand → Value} {op} {x} : readsOf ev (.un op x) = [] := rfl
@[simp] theorem readsOf_conv {ev : Operand → Value} {k} {x} : readsOf ev (.conv k x) = [] := rfl
@[simp] theorem readsOf_field {ev : Operand → Value} {g} {off} {sz} {x} : readsOf ev (.field g off sz x) = [] := rfl
@[simp] theorem readsOf_index {ev : Operand → Value} {g} {n} {es} {x} {i} : readsOf ev (.index g n es x i) = [] := rfl
@[simp] theorem readsOf_slice {ev : Operand → Value} {es} {x} {lo} {hi} {mx} : readsOf ev (.slice es x lo hi mx) = [] := rfl
@[simp] theorem readsOf_box {ev : Operand → Value} {x} : readsOf ev (.box x) = [] := rfl
@[simp] theorem readsOf_alloc {ev : Operand → Value} {zs} : readsOf ev (.alloc zs) = [] := rfl
@[simp] theorem readsOf_build {ev : Operand → Value} {zs} {ps} : readsOf ev (.build zs ps) = [] := rfl
@[simp] theorem readsOf_buildSlice {ev : Operand → Value} {n} {es} {zs} {ps} : readsOf ev (.buildSlice n es zs ps) = [] := rfl
@[simp] theorem readsOf_lenC {ev : Operand → Value} {n} : readsOf ev (.lenC n) = [] := rfl
@[simp] theorem readsOf_minmax {ev : Operand → Value} {b} {xs} : readsOf ev (.minmax b xs) = [] := rfl
@[simp] theorem readsOf_capS {ev : Operand → Value} {x} : readsOf ev (.capS x) = [] := rfl
@[simp] theorem readsOf_makeFunc {ev : Operand → Value} {f} {a} {c} : readsOf ev (.makeFunc f a c) = [] := rfl
@[simp] theorem readsOf_makeMap {ev : Operand → Value} : readsOf ev (.makeMap ) = [] := rfl
attribute [simp] doperRun_eq doperK_nil
/- lists of cells -/
@[simp] theorem fillL_nil {cs} : fillL cs [] = some cs := rfl
theorem fillL_cons {cs : List Value} {off sz : Nat} {v : Value} {rest} (h : (cellsOf v).length = sz) (hl : off + sz ≤ cs.length) (hc : (cellsOf v).all isCell = true) :
    fillL cs ((off, sz, v) :: rest) = fillL (writeAt cs off (cellsOf v)) rest := by
  subst h
  simp only [fillL, Nat.beq_refl, Nat.ble_eq_true_of_le hl, hc, Bool.and_self, cond_true]
attribute [simp] fillL_cons
theorem cond_ble {α : Type} {a b : Nat} {x y : α} (h : a ≤ b) : (bif Nat.ble a b then x else y) = x := by rw [Nat.ble_eq_true_of_le h]; rfl
theorem ble_false {a b : Nat} (h : b < a) : Nat.ble a b = false := by
  cases hb : Nat.ble a b with
  | false => rfl
  | true => exact absurd (Nat.le_of_ble_eq_true hb) (by omega)
theorem cond_nble {α : Type} {a b : Nat} {x y : α} (h : b < a) : (bif Nat.ble a b then x else y) = y := by rw [ble_false h]; rfl
theorem writeAt_eq (cs : List Value) (o : Nat) (vs : List Value) (h : o + vs.length ≤ cs.length) : writeAt cs o vs = cs.take o ++ vs ++ cs.drop (o + vs.length) := by
  apply List.ext_getElem?
  intro i
  rw [writeAt_get _ _ _ _ h]
  by_cases h1 : o ≤ i ∧ i < o + vs.length
  · rw [if_pos h1, List.append_assoc, List.getElem?_append_right (by simp; omega), List.getElem?_append_left (by simp; omega)]
    simp only [List.length_take]
    congr 1; omega
  · rw [if_neg h1]
    by_cases h2 : i < o
    · rw [List.append_assoc, List.getElem?_append_left (by simp; omega), List.getElem?_take, if_pos h2]
    · rw [List.append_assoc, List.getElem?_append_right (by simp; omega), List.getElem?_append_right (by simp; omega), List.getElem?_drop]
      simp only [List.length_take]
      congr 1; omega
attribute [simp] sliceBnds bndMax bndHi bndLo
def clearK (H : Heap) (zs : List Value) : Value → Option (Value × Heap)
  | .slice (some p) n _ => (writeCells H p.block p.off ((List.replicate n zs).flatten)).map fun H' => (.tuple #[], H')
  | .slice none _ _ => some (.tuple #[], H)
  | _ => none
@[simp] theorem opRun_clear {zs x} : opRun self ev H (.clear zs x) = clearK H zs (ev x) := by
  simp only [opRun, aop]
  cases ev x <;> try rfl
  rename_i p m c
  cases p <;> try rfl
  simp only [clearK]
  rename_i p
  cases writeCells H p.block p.off ((List.replicate m zs).flatten) <;> rfl
@[simp] theorem clearK_slice {zs p n c} : clearK H zs (.slice (some p) n c) = (writeCells H p.block p.off ((List.replicate n zs).flatten)).map fun H' => (.tuple #[], H') := rfl
theorem Tr.setF_setF {α : Type} {v v' : Option α} : ∀ (f : Nat) (t : Tr α) (k : Nat), k < f → Tr.setF f (Tr.setF f t k v) k v' = Tr.setF f t k v' := by
  intro f
  induction f with
  | zero => intro t k h; omega
  | succ f ih =>
    intro t k hk
    cases t with
    | nil =>
      cases k with
      | zero => rfl
      | succ k =>
        simp only [Tr.setF]
        cases hb : Nat.beq (k % 2) 0 <;> simp only [cond_true, cond_false, Tr.setF, hb] <;> rw [ih _ _ (by omega)]
    | node l x r =>
      cases k with
      | zero => rfl
      | succ k =>
        simp only [Tr.setF]
        cases hb : Nat.beq (k % 2) 0 <;> simp only [cond_true, cond_false, Tr.setF, hb] <;> rw [ih _ _ (by omega)]
@[simp] theorem Heap.put_put {r : Nat} {o o' : AObj} : (H.put r o).put r o' = H.put r o' := by
  simp only [Heap.put, Tr.set]
  rw [Tr.setF_setF _ _ _ (Nat.lt_succ_self r)]
/- ===== slices ===== -/
def WF (H : Heap) : Prop := ∀ r, H.next ≤ r → H.get r = none
theorem WF.new {o : AObj} (h : WF H) : WF (H.new o) := fun r hr => by
  have hr' : H.next + 1 ≤ r := hr
  rw [Heap.get_new, if_neg (by omega)]; exact h r (by omega)
theorem WF.lt {r : Nat} {o : AObj} (h : WF H) (hr : H.get r = some o) : r < H.next := by
  rcases Nat.lt_or_ge r H.next with h1 | h1
  · exact h1
  · rw [h r h1] at hr; cases hr
structure Fr (H H' : Heap) (fp : List Nat) : Prop where
  wf : WF H'
  keep : ∀ r o, H.get r = some o → r ∉ fp → H'.get r = some o
  le : H.next ≤ H'.next
theorem Fr.refl (h : WF H) (fp : List Nat) : Fr H H fp := ⟨h, fun _ _ h _ => h, Nat.le_refl _⟩
theorem Fr.trans {H1 H2 H3 : Heap} {a b c : List Nat} (w : WF H1) (h : Fr H1 H2 a) (k : Fr H2 H3 b) (ha : ∀ r ∈ a, r ∈ c ∨ H1.next ≤ r) (hb : ∀ r ∈ b, r ∈ c ∨ H1.next ≤ r) : Fr H1 H3 c := by
  refine ⟨k.wf, fun r o hr hn => ?_, Nat.le_trans h.le k.le⟩
  have hlt := w.lt hr
  refine k.keep r o (h.keep r o hr fun hm => ?_) fun hm => ?_
  · rcases ha r hm with h1 | h1
    · exact hn h1
    · omega
  · rcases hb r hm with h1 | h1
    · exact hn h1
    · omega
theorem Fr.step {H1 H2 H3 : Heap} {b : List Nat} (h : Fr H1 H2 []) (w : WF H1) (k : Fr H2 H3 b) (hb : ∀ r ∈ b, H1.next ≤ r) : Fr H1 H3 [] :=
  h.trans w k (by simp) fun r hr => .inr (hb r hr)
theorem Fr.new {o : AObj} (h : WF H) (fp : List Nat) : Fr H (H.new o) fp := ⟨h.new, fun r o' hr _ => by
  rw [Heap.get_new, if_neg (Nat.ne_of_lt (h.lt hr))]; exact hr, Nat.le_succ _⟩
def capOf : Value → Nat
  | .slice _ _ c => c
  | _ => 0
@[simp] theorem capOf_slice {a n c} : capOf (.slice a n c) = c := rfl
def blk : Value → List Nat
  | .slice (some p) _ _ => [p.block]
  | _ => []
inductive Sl (H : Heap) (es : Nat) : Value → Nat → List Value → Prop
  | empty : Sl H es (.slice none 0 0) 0 []
  | full {b : Nat} {sp : Option Nat} {n c : Nat} {cs rest : List Value} (hb : H.get b = some (.cells (cs ++ rest) false es)) (hl : cs.length = n * es) (hr : cs.length + rest.length = c * es) : Sl H es (.slice (some ⟨b, 0, sp⟩) n c) n cs
end
end Go.Proofs.YtdlfdieehioolaaDoor
