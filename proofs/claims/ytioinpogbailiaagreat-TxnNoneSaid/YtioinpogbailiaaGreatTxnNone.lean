/- The law TxnNone, for every client and every operation: it answers true, and what was there is as it was. No condition. -/
import Derived.Test.YtioinpogbailiaaGreatRows
import Derived.Test.YtioinpogbailiaaGreatArgs
import Derived.Test.YtioinpogbailiaaGreatTx
import Derived.WalkKit
import Derived.ProofKit
import Derived.OpenShut
namespace Go.Proofs.YtioinpogbailiaaGreat
open Go.ChangeShapes Go.WideShapes Go.ChangeAt Go.RowKit
set_option linter.unusedVariables false
set_option linter.unusedSimpArgs false

namespace txnNoneAt
theorem own : ownKnob Tryz.prog.godebug = none := by kernel_rfl
theorem mixed : Tryz.prog.follows .mixedOrders = true := by kernel_rfl
theorem laidOut : laidOutB Tryz.prog = true := by kernel_rfl

def opCells (k b : Int) (s : Value) (z : Nat → Int) : List Value := .int .i64 k :: s :: .int .i64 b :: (List.range 32).map fun i => .int .u8 (z i)
def heapS (n : Nat) : Heap := { tr := .nil, next := n + 1 }

section
variable (cl : Int) (a : Option Addr) (n c : Nat) (k b : Int) (z : Nat → Int)
noncomputable def body : AC := bodyOf (tableOf Tryz.prog) 3
noncomputable def s0 : St := { tm := initTm 0 .nil [.int .i64 cl, .agg ⟨opCells k b (.slice a n c) z⟩], h := heapS Tryz.prog.globals.size, ds := [] }
noncomputable def s3 : St := stOf (runN (exec (tableOf Tryz.prog) 100000) 100000 none 3 body (s0 cl a n c k b z))
theorem seqs : isSeqs 3 body = true := by kernel_rfl
theorem shape : seqRs 3 body = .seq c_wicketlaw18_TxnNone_S5 (.seq c_wicketlaw18_TxnNone_S6 (seqRs 5 body)) := by kernel_rfl
theorem t_new : tableOf Tryz.prog k_txn_New = some c_txn_New := by kernel_rfl
theorem t_ref : tableOf Tryz.prog k_wicketref18_New = some c_wicketref18_New := by kernel_rfl
set_option maxRecDepth 100000 in
theorem part0 : runN (exec (tableOf Tryz.prog) 100000) 100000 none 3 body (s0 cl a n c k b z) = some (.normal, s3 cl a n c k b z) := by kernel_rfl
set_option maxRecDepth 100000 in
theorem r0 : (s3 cl a n c k b z).tm.get 0 = some (.int .i64 cl) := by kernel_rfl
set_option maxRecDepth 100000 in
theorem restIn : isEnd (resultsOf (tableOf Tryz.prog) 3) (run (exec (tableOf Tryz.prog) 100000) 100000 none (seqRs 5 body) ⟨tmNew (s3 cl a n c k b z).tm cl (some ⟨(s3 cl a n c k b z).h.next, 0, none⟩) (some ⟨(s3 cl a n c k b z).h.next + 1, 0, none⟩) 0, hNew (s3 cl a n c k b z).h cl, (s3 cl a n c k b z).ds⟩) = true := by kernel_rfl
set_option maxRecDepth 100000 in
theorem restOut : isEnd (resultsOf (tableOf Tryz.prog) 3) (run (exec (tableOf Tryz.prog) 100000) 100000 none (seqRs 5 body) ⟨tmNew (s3 cl a n c k b z).tm cl none none 2, (s3 cl a n c k b z).h, (s3 cl a n c k b z).ds⟩) = true := by kernel_rfl

set_option maxRecDepth 100000 in
theorem answers : isTrue (exec (tableOf Tryz.prog) 100001 (.fn 3) [.int .i64 cl, .agg ⟨opCells k b (.slice a n c) z⟩] (heapS Tryz.prog.globals.size)) = true := by
  refine answers_args (n := 100000) (by kernel_rfl) ?_
  show isEnd _ (run _ 100000 none body (s0 cl a n c k b z)) = true
  rw [runN_run 3 body (s0 cl a n c k b z) (s3 cl a n c k b z) seqs (part0 cl a n c k b z), shape]
  have r0' := r0 cl a n c k b z
  have ri := restIn cl a n c k b z
  have ro := restOut cl a n c k b z
  generalize s3 cl a n c k b z = st at r0' ri ro ⊢
  obtain ⟨tm3, h3, ds3⟩ := st
  simp only at r0' ri ro
  by_cases h : 0 ≤ cl ∧ cl < 8
  · rw [new_in (T := tableOf Tryz.prog) (m := 99999) t_new t_ref h.1 h.2 r0']
    exact ri
  · rw [new_out (T := tableOf Tryz.prog) (m := 99999) t_new t_ref (by omega) r0']
    exact ro
end

theorem types : Tryz.prog.cellTypes Tryz.prog.depth 26 = some (3 :: 22 :: 3 :: List.replicate 32 5) := by kernel_rfl

set_option maxRecDepth 100000 in
/-- The operation's cells. -/
theorem opForm {W : World} {base : Nat} {v : Value} (h : Value.okWide Tryz.prog W .any base 26 v) : ∃ k b s z, v = .agg ⟨opCells k b s z⟩ ∧ (s = .slice none 0 0 ∨ ∃ q off len cap, s = .slice (some ⟨q, off, none⟩) len cap ∧ len ≤ cap) := by
  simp only [Value.okWide, Tryz.underlying26] at h
  obtain ⟨cs, rfl, hsz, ts, hts, hn, hall⟩ := h
  rw [types] at hts
  obtain rfl := (Option.some.inj hts).symm
  have h35 : cs.size = 35 := hsz.trans (by kernel_rfl)
  obtain ⟨l⟩ := cs
  have hlen : l.length = 35 := h35
  have at_ : ∀ i v, l[i]? = some v → ∃ u, (3 :: 22 :: 3 :: List.replicate 32 5)[i % 35]? = some u ∧ Cell.okWide Tryz.prog W .any base u v := by
    intro i v hv
    have := hall i v (by simpa using hv)
    simpa using this
  have hbyte : ∀ i, 3 ≤ i → i < 35 → ∀ v, l[i]? = some v → ∃ z, v = .int .u8 z := by
    intro i h3 hi v hv
    obtain ⟨u, hu, hok⟩ := at_ i v hv
    have : (3 :: 22 :: 3 :: List.replicate 32 5)[i % 35]? = some 5 := by
      rw [Nat.mod_eq_of_lt hi]
      obtain ⟨j, rfl⟩ : ∃ j, i = j + 3 := ⟨i - 3, by omega⟩
      simp only [List.getElem?_cons_succ]
      rw [List.getElem?_replicate, if_pos (by omega)]
    rw [this] at hu
    cases hu
    exact cell_int Tryz.underlying5 hok
  obtain ⟨c0, c1, c2, rest, rfl⟩ : ∃ c0 c1 c2 rest, l = c0 :: c1 :: c2 :: rest := by
    match l, hlen with
    | c0 :: c1 :: c2 :: rest, _ => exact ⟨c0, c1, c2, rest, rfl⟩
  obtain ⟨u0, hu0, ok0⟩ := at_ 0 c0 rfl
  obtain ⟨u1, hu1, ok1⟩ := at_ 1 c1 rfl
  obtain ⟨u2, hu2, ok2⟩ := at_ 2 c2 rfl
  cases hu0; cases hu1; cases hu2
  obtain ⟨k, rfl⟩ := cell_int Tryz.underlying3 ok0
  obtain ⟨b, rfl⟩ := cell_int Tryz.underlying3 ok2
  refine ⟨k, b, c1, fun i => (asInt? (rest.getD i undef)).getD 0, ?_, cell_slice Tryz.underlying22 ok1⟩
  have hrest : rest = (List.range 32).map fun i => .int .u8 ((asInt? (rest.getD i undef)).getD 0) := by
    apply List.ext_getElem?
    intro i
    have hrl : rest.length = 32 := by simp at hlen; omega
    by_cases hi : i < 32
    · obtain ⟨v, hv⟩ : ∃ v, rest[i]? = some v := ⟨rest[i], by simp [hrl, hi]⟩
      obtain ⟨z, rfl⟩ := hbyte (i + 3) (by omega) (by omega) v (by simpa using hv)
      rw [hv, List.getElem?_map, List.getElem?_range hi]
      simp [List.getD, hv, asInt?]
    · have h1 : rest[i]? = none := List.getElem?_eq_none (by omega)
      rw [h1]; symm; apply List.getElem?_eq_none; simp; omega
  unfold opCells
  rw [← hrest]

/-- The abstract heap behind the arguments. -/
theorem opArgs {W : World} {s : Value} (hs : s = .slice none 0 0 ∨ ∃ q off len cap, s = .slice (some ⟨q, off, none⟩) len cap ∧ len ≤ cap) :
    ∃ ι a n c, Args Tryz.prog ι (heapS Tryz.prog.globals.size) W ∧ AtomR ι (.slice a n c) s := by
  have h0 := args0 Tryz.prog W
  have hnone : ∀ r, (heapS Tryz.prog.globals.size).get r = none := fun r => by simp [heapS, Heap.get, Tr.get]
  have hfresh : ∀ (ι : Emb), (∀ r, Tryz.prog.globals.size + 1 ≤ r → ι r = none) → ∀ r x, ι r = some x → r < (heapS Tryz.prog.globals.size).next := fun ι hd r x hx => by
    rcases Nat.lt_or_ge r (Tryz.prog.globals.size + 1) with h1 | h1
    · exact h1
    · rw [hd r h1] at hx; cases hx
  have mk : ∀ (ι : Emb), Glob Tryz.prog ι → (∀ r, Tryz.prog.globals.size + 1 ≤ r → ι r = none) → Args Tryz.prog ι (heapS Tryz.prog.globals.size) W := fun ι hg hd =>
    ⟨⟨fun r o h => (by rw [hnone] at h; cases h), fun r r' o o' x x' h => (by rw [hnone] at h; cases h), hfresh ι hd⟩, hg, fun r _ => hnone r, fun r o h => (by rw [hnone] at h; cases h), hd⟩
  rcases hs with rfl | ⟨q, off, len, cap, rfl, hl⟩
  · exact ⟨_, none, 0, 0, mk _ h0.glob fun r hr => h0.dom r (Nat.le_of_succ_le hr), .nils⟩
  · refine ⟨(glob0 Tryz.prog).set Tryz.prog.globals.size (q, off, cap - len), some ⟨Tryz.prog.globals.size, 0, none⟩, len, len, mk _ (fun g hg => ?_) fun r hr => ?_, ?_⟩
    · exact Ext.set (h0.dom _ (Nat.le_refl _)) _ _ (h0.glob g hg)
    · simp only [Emb.set]; rw [if_neg (by omega)]; exact h0.dom r (Nat.le_of_succ_le hr)
    · exact .slice 0 none len len off cap (b := q) (d := off) (e := cap - len) (by simp [Emb.set]) (by simp; omega) (.inl (by simp))

set_option maxRecDepth 100000 in
theorem contract (H : Type) (enc : TypeId × Value → H) (W : World) (base : Nat) (args : Array Value) (ds gs : List (DataW H)) (before : List MemPlace)
    (hval : ∀ (j : Nat) t v, Tryz.f3.params[j]? = some t → args[j]? = some v → Value.okWide Tryz.prog W .any base t v)
    (hW : DataW.Whole enc Tryz.prog Tryz.f3.params.toList Rows.txnNoneSpec.vars false W args.toList ds gs before) :
    Calls Tryz.prog 3 args W fun e W' => ∃ v, e = .returned v ∧ Rows.txnNoneSpec.post enc Tryz.prog Tryz.f3 false true false false W args v W' := by
  have hW' := hW
  obtain ⟨p, q, hA0, hV, rfl, hfz, hnd⟩ := hW
  have hA : DataW.TrodAll enc Tryz.prog W 0 (fun _ => true) true Tryz.f3.params.toList args.toList ds p := hA0
  rw [Tryz.params3] at hA hval
  obtain ⟨v0, vs0, d0, ds0, p0, q0, hargs0, rfl, rfl, h0, r0⟩ := trodAll_cons hA
  obtain ⟨v1, vs1, d1, ds1, p1, q1, hargs1, rfl, rfl, h1, r1⟩ := trodAll_cons r0
  obtain ⟨hnil, rfl, rfl⟩ := trodAll_nil r1
  obtain rfl : args = #[v0, v1] := Array.ext' (by rw [hargs0, hargs1, hnil])
  subst hnil
  clear hA0
  obtain ⟨cl, rfl⟩ : ∃ z, v0 = .int .i64 z := okWide_int Tryz.underlying3 (hval 0 3 v0 rfl rfl)
  obtain ⟨k, b, s, z, rfl, hs⟩ := opForm (hval 1 26 v1 rfl rfl)
  obtain ⟨ι, a, n, c, hArgs, hat⟩ := opArgs (W := W) hs
  obtain ⟨H', he⟩ := isTrue_inv (answers cl a n c k b z)
  have hrel : All2 (VR ι) [.int .i64 cl, .agg ⟨opCells k b (.slice a n c) z⟩] [.int .i64 cl, .agg ⟨opCells k b s z⟩] := by
    refine .cons (.atom (.int _ _)) (.cons (.val (.agg ?_)) .nil)
    refine .cons (.atom (.int _ _)) (.cons (.atom hat) (.cons (.atom (.int _ _)) (All2.self fun x hx => ?_)))
    obtain ⟨i, _, rfl⟩ := List.mem_map.1 hx
    exact .atom (.int _ _)
  refine (hArgs.calls (tableOf_ok Tryz.prog) mixed hrel he).mono fun e W' h => ?_
  obtain ⟨rfl, hk⟩ := h
  refine ⟨_, rfl, args_post (ty := 4) laidOut hW' rfl (by kernel_rfl) Tryz.underlying4 rfl ?_ hk⟩
  rw [Tryz.params3]
  intro t ht
  simp only [List.mem_cons, List.not_mem_nil, or_false] at ht
  rcases ht with rfl | rfl
  · exact ⟨by kernel_rfl, of_decide_eq_true (by kernel_rfl)⟩
  · exact ⟨by kernel_rfl, of_decide_eq_true (by kernel_rfl)⟩

set_option maxRecDepth 100000 in
theorem lifted (os : Os) (started : os.Started) (H : Type) (enc : TypeId × Value → H) :
    ReturnsInHanded {} Tryz.checked os 3 .any (Rows.txnNoneSpec.pre6 enc Tryz.prog Tryz.f3 Rows.txnNoneRow.domain false) (Rows.txnNoneSpec.post enc Tryz.prog Tryz.f3 false true false false) := by
  refine returnsInHanded_of_change (C := Tryz.checked) own started (by kernel_rfl) Tryz.func3
    (ChangeSpec.witness6 (enc := enc) (C := Tryz.checked) false ⟨#[], #[.int .i64 0, .agg ⟨opCells 0 0 (.slice none 0 0) fun _ => 0⟩], []⟩ 8 (by kernel_rfl) (by kernel_rfl) (by kernel_rfl) (by kernel_rfl)) ?_
  intro W base args ds gs before hval hW _ _
  exact contract H enc W base args ds gs before hval hW
end txnNoneAt

theorem txnNone_holds : Rows.TxnNoneSaid :=
  OpenClaim.holds_of_wide 3 Tryz.f3 rfl rfl rfl rfl rfl rfl rfl ⟨rfl, rfl, rfl, rfl, rfl⟩ rfl rfl rfl rfl rfl (by kernel_rfl) Tryz.func3 (by kernel_rfl)
    (of_decide_eq_true (by kernel_rfl)) (by unfold Func.isWrapper; first | (rw [if_pos (by decide +kernel)]; kernel_rfl) | (rw [if_neg (by decide +kernel)]; exact ⟨rfl, rfl⟩))
    (fun os started H enc _ => txnNoneAt.lifted os started H enc)

#print axioms txnNone_holds
end Go.Proofs.YtioinpogbailiaaGreat
