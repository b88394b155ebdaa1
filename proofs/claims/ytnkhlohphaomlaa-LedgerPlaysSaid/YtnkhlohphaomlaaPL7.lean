/- LedgerPlays: both ledgers on both sides; what they tell is the same. -/
import Derived.Test.YtnkhlohphaomlaaPL6
namespace Go.Proofs.Ytnkhlohphaomlaa
open Go
set_option linter.unusedVariables false
set_option linter.unusedSimpArgs false
variable {T : Nat → Option AFun} {H : Heap} {m : Nat} {t : Int}

structure OpL where
  kind : Int
  which : Int
  ticket : Int
  n : Int
def OpL.cells (o : OpL) : List Value := [.int .i64 o.kind, .int .i64 o.which, .int .u64 o.ticket, .int .i64 o.n]
structure Pt where
  l : Nat
  mb : Nat
  r : Nat
  s : Value
  cap : Int
  mark : Int
  g : Gs
def fpt (x : Pt) : List Nat := x.l :: x.mb :: x.r :: blk x.s
structure Du (H : Heap) (x : Pt) (N : Nat) : Prop where
  ld : Ld H x.l x.mb x.cap x.mark x.g.used (tot x.g.kv) x.g.kv
  rf : Rf H x.r x.s x.cap x.mark x.g N
  gd : Gd x.cap x.g
theorem Du.fr {H' : Heap} {x : Pt} {N : Nat} {fp : List Nat} (h : Du H x N) (f : Fr H H' fp) (hd : ∀ b ∈ fpt x, b ∉ fp) : Du H' x N :=
  ⟨h.ld.fr f (hd _ (by simp [fpt])) (hd _ (by simp [fpt])), h.rf.fr f (hd _ (by simp [fpt])) (fun b hb => hd b (by simp [fpt, hb])), h.gd⟩
theorem Rf.get {r : Nat} {s : Value} {cap mark : Int} {g : Gs} {N : Nat} (h : Rf H r s cap mark g N) : ∃ rec gone : Int, H.get r = some (.cells [.int .i64 cap, .int .i64 mark, .int .i64 rec, .int .i64 gone, s] false 0) ∧ ∃ a n c, s = .slice a n c := by
  obtain ⟨rec, gone, ps, a, _⟩ := h.ex
  obtain ⟨x, y, hs⟩ := a.sl.form
  exact ⟨rec, gone, a.at_, x, _, y, hs⟩
theorem Du.ne {x : Pt} {N : Nat} (h : Du H x N) : x.l ≠ x.r ∧ x.mb ≠ x.r ∧ x.l ≠ x.mb := by
  obtain ⟨rec, gone, hr, a, n, c, hs⟩ := h.rf.get
  refine ⟨fun e => ?_, fun e => ?_, h.ld.ne⟩
  · have := h.ld.at_; rw [e, hr, hs] at this; simp at this
  · have := h.ld.mp; rw [e, hr] at this; cases this
theorem Ld.put {l mb q : Nat} {o : AObj} {cap mark used res : Int} {kv : List (Int × Int)} (h : Ld H l mb cap mark used res kv) (h1 : q ≠ l) (h2 : q ≠ mb) : Ld (H.put q o) l mb cap mark used res kv :=
  ⟨by rw [Heap.get_put, if_neg (Ne.symm h1)]; exact h.at_, by rw [Heap.get_put, if_neg (Ne.symm h2)]; exact h.mp⟩
theorem Fr.ro {H2 : Heap} {fp : List Nat} {b : Nat} {cs : List Value} (wf : WF H) (hb : H.get b = some (.cells cs false 0)) (f : Fr (H.put b (.cells cs true 0)) H2 fp) (hn : b ∉ fp) : Fr H (H2.put b (.cells cs false 0)) fp := by
  have hbl := wf.lt hb
  refine ⟨f.wf.put' (Nat.lt_of_lt_of_le hbl f.le), fun x o hx hm => ?_, f.le⟩
  rw [Heap.get_put]
  by_cases e : x = b
  · subst e; rw [if_pos rfl]; rw [hb] at hx; exact hx
  · rw [if_neg e]; exact f.keep _ _ (by rw [Heap.get_put, if_neg e]; exact hx) hm
theorem roAt_ro {b es : Nat} {cs : List Value} : (H.put b (.cells cs true es)).roAt b = H.put b (.cells cs true es) := by
  rw [roAt_cells (cs := cs) (ro := true) (es := es) (by simp), Heap.put_put]
theorem doperK_rr {self : Self} {tm : Tr Value} {ds : List Nat} {i big dst op log r} : doperK self i big dst op tm H ds log [] [r, r] =
    noteK i big tm ds dst (readsOf (St.val tm) op) H log ((opRun self (St.val tm) ((H.roAt r).roAt r) op).map fun p => (p.1, (p.2.back r (H.get r)).back r (H.get r))) := by
  simp only [doperK, List.all_nil, cond_true, Heap.dropAll, Heap.roAll, List.nil_append, Heap.putBack]; rfl

structure Pr (H0 H : Heap) (p : Nat) (D : Nat → Pt) (N : Nat) : Prop where
  du : ∀ i, i < 2 → Du H (D i) N
  box : H.get p = some (.cells [.pointer (some ⟨(D 0).l, 0, none⟩), .pointer (some ⟨(D 1).l, 0, none⟩), .pointer (some ⟨(D 0).r, 0, none⟩), .pointer (some ⟨(D 1).r, 0, none⟩)] false 0)
  dis : ∀ i j, i < 2 → j < 2 → i ≠ j → ∀ b ∈ fpt (D i), b ∉ fpt (D j)
  np : ∀ i, i < 2 → p ∉ fpt (D i)
  own : ∀ i, i < 2 → ∀ b ∈ fpt (D i), H0.next ≤ b
  hp : H0.next ≤ p
  fr : Fr H0 H []
theorem Pr.heap {H0 H' : Heap} {p : Nat} {D : Nat → Pt} {N : Nat} (w0 : WF H0) (h : Pr H0 H p D N) (f : Fr H H' []) : Pr H0 H' p D N :=
  { h with du := fun i hi => (h.du i hi).fr f (by simp), box := f.keep _ _ h.box (by simp), fr := h.fr.step w0 f (by simp) }
theorem Pr.rl {H0 : Heap} {p : Nat} {D : Nat → Pt} {N : Nat} (h : Pr H0 H p D N) {w : Nat} (hw : w < 2) : readCells H p w 1 = some [.pointer (some ⟨(D w).l, 0, none⟩)] := by
  rw [readCells_of h.box (by simp; omega)]
  rcases w with _ | _ | w
  · rfl
  · rfl
  · omega
theorem Pr.rr {H0 : Heap} {p : Nat} {D : Nat → Pt} {N : Nat} (h : Pr H0 H p D N) {w : Nat} (hw : w < 2) : readCells H p (2 + w) 1 = some [.pointer (some ⟨(D w).r, 0, none⟩)] := by
  rw [readCells_of h.box (by simp; omega)]
  rcases w with _ | _ | w
  · rfl
  · rfl
  · omega
structure PaT (T : Nat → Option AFun) : Prop where
  lp : LpT T
  rf : RfT T
  same : T k_wicketlaw12_pair_same = some c_wicketlaw12_pair_same

/-- All that both tell is the same. -/
theorem same_ok (hT : PaT T) {H0 : Heap} (w0 : WF H0) {p : Nat} {D : Nat → Pt} {N w : Nat} (h : Pr H0 H p D N) (hw : w < 2) (o : OpL) (hN : N ≤ 900) (hm : 1000 ≤ m) :
    ∃ H', exec T (m + 3) (.fn k_wicketlaw12_pair_same) [.pointer (some ⟨p, 0, none⟩), .int .i64 (w : Int), .agg ⟨o.cells⟩] H = some (.bool true, H') ∧ Fr H H' [] := by
  have hd := h.du w hw
  generalize hx : D w = x at hd
  have rl := h.rl hw
  have rr := h.rr hw
  rw [hx] at rl rr
  have wf := h.fr.wf
  have f1 := Fr.new (o := .cells o.cells false 0) wf []
  have d1 := hd.fr f1 (by simp)
  have hbox : (H.new (.cells o.cells false 0)).get H.next = some (.cells o.cells false 0) := by simp
  have rl1 : readCells (H.new (.cells o.cells false 0)) p w 1 = some [.pointer (some ⟨x.l, 0, none⟩)] := by
    have := (h.heap w0 f1).rl hw; rw [hx] at this; exact this
  have rr1 : readCells (H.new (.cells o.cells false 0)) p (2 + w) 1 = some [.pointer (some ⟨x.r, 0, none⟩)] := by
    have := (h.heap w0 f1).rr hw; rw [hx] at this; exact this
  obtain ⟨n1, n2, n3⟩ := d1.ne
  have hc := d1.gd.hc; have hu := d1.gd.hu; have hle := d1.gd.hle
  have hp := tot_nonneg d1.gd.nn
  obtain ⟨rec, gone, ps, a, b, c, d, e, f, k⟩ := d1.rf.ex
  have hk : ∀ p ∈ ps, 0 ≤ p.2.2 ∧ p.2.2 ≤ p.2.1 ∧ p.2.1 ≤ 1000 := fun p hp => by have := k p hp; omega
  have tk : readCells (H.new (.cells o.cells false 0)) H.next 2 1 = some [.int .u64 o.ticket] := by rw [readCells_of hbox (by simp [OpL.cells])]; rfl
  have nk : readCells (H.new (.cells o.cells false 0)) H.next 3 1 = some [.int .i64 o.n] := by rw [readCells_of hbox (by simp [OpL.cells])]; rfl
  -- registers
  obtain ⟨t1, e1, q5, q7, q8⟩ : ∃ t1, run (exec T (m + 2)) (m + 2) none (.seq c_wicketlaw12_pair_same_S0 c_wicketlaw12_pair_same_S1) ⟨initTm 0 .nil [.pointer (some ⟨p, 0, none⟩), .int .i64 (w : Int), .agg ⟨o.cells⟩], H, []⟩ = some (.normal, ⟨t1, H.new (.cells o.cells false 0), []⟩) ∧ t1.get 5 = some (.pointer (some ⟨H.next, 0, none⟩)) ∧ t1.get 7 = some (.pointer (some ⟨x.l, 0, none⟩)) ∧ t1.get 8 = some (.pointer (some ⟨x.r, 0, none⟩)) := by
    have hcells : o.cells.all isCell = true := rfl
    simp (maxSteps := 1000000) (disch := first | omega | (simp; omega) | (simp; done) | fail) [c_wicketlaw12_pair_same_S0, c_wicketlaw12_pair_same_S1, boxK_agg, hcells, idxAK_of, rl1, rr1]
  -- the ticket's rest
  have L1 : ∀ t, exec T (m + 2) (.fn k_ledger_Ledger_Left) [.pointer (some ⟨x.l, 0, none⟩), .int .u64 t] (H.new (.cells o.cells false 0)) = some (.tuple (match fidx t x.g.kv 0 with | some (_, b) => #[.int .i64 b, .bool true] | none => #[.int .i64 0, .bool false]), H.new (.cells o.cells false 0)) := fun t => lleft_ok (m := m + 1) hT.lp d1.ld
  have R1 : ∀ t, exec T (m + 2) (.fn k_wicketref12_Ledger_Left) [.pointer (some ⟨x.r, 0, none⟩), .int .u64 t] (H.new (.cells o.cells false 0)) = some (.tuple (match fidx t x.g.kv 0 with | some (_, b) => #[.int .i64 b, .bool true] | none => #[.int .i64 0, .bool false]), H.new (.cells o.cells false 0)) := fun t => by
    have := rleft_ok (m := m) (t := t) hT.rf a (by omega) (by omega) hk; rw [b] at this; exact this
  have both : ∀ t, ∃ (z : Int) (y : Bool), (match fidx t x.g.kv 0 with | some (_, b) => (#[.int .i64 b, .bool true] : Array Value) | none => #[.int .i64 0, .bool false]) = #[.int .i64 z, .bool y] := fun t => by
    cases fidx t x.g.kv 0 with
    | none => exact ⟨_, _, rfl⟩
    | some q => obtain ⟨_, b⟩ := q; exact ⟨_, _, rfl⟩
  obtain ⟨z, y, hzy⟩ := both o.ticket
  have l1 := L1 o.ticket; have r1 := R1 o.ticket
  rw [hzy] at l1 r1
  obtain ⟨t2, e2, k2, q9, q10, q11, q12⟩ : ∃ t2, run (exec T (m + 2)) (m + 2) none (.seq c_wicketlaw12_pair_same_S2 c_wicketlaw12_pair_same_S3) ⟨t1, H.new (.cells o.cells false 0), []⟩ = some (.normal, ⟨t2, H.new (.cells o.cells false 0), []⟩) ∧ Keeps 9 t1 t2 ∧ t2.get 9 = some (.int .i64 z) ∧ t2.get 10 = some (.bool y) ∧ t2.get 11 = some (.int .i64 z) ∧ t2.get 12 = some (.bool y) := by
    simp (maxSteps := 1000000) (disch := first | omega | (simp; omega) | (simp; done) | fail) [c_wicketlaw12_pair_same_S2, c_wicketlaw12_pair_same_S3, q5, q7, q8, tk, l1, r1]
  have p5 := k2.get q5; have p7 := k2.get q7; have p8 := k2.get q8
  -- the numbers
  have lu := lused_ok (m := m + 1) hT.lp.toLdT d1.ld
  have lr := lreserved_ok (m := m + 1) hT.lp.toLdT d1.ld
  have lm := lmarked_ok (m := m + 1) hT.lp d1.ld
  have lf1 := lfits_ok (m := m + 1) (n := 1) hT.lp.toLdT d1.ld (by omega) (by omega) (by omega)
  have hnl : H.next ≠ x.l := by have := wf.lt hd.ld.at_; omega
  have hnm : H.next ≠ x.mb := by have := wf.lt hd.ld.mp; omega
  have lfn := lfits_ok (m := m + 1) (n := o.n) hT.lp.toLdT (d1.ld.put (o := .cells o.cells true 0) hnl hnm) (by omega) (by omega) (by omega)
  have ru := rused_ok (m := m + 1) hT.rf a (by omega) (by omega)
  have rv := rreserved_ok (m := m + 1) hT.rf a (by omega) (by omega) hk (by rw [b]; omega)
  have rm := rmarked_ok (m := m) hT.rf a (by omega) (by omega)
  have rf1 := rfits_ok (m := m) (n := 1) hT.rf a (by omega) (by omega) (by omega) (by omega) hk (by rw [b]; omega) (by rw [b]; exact hp) (by omega) (by omega)
  have rfn := rfits_ok (m := m) (n := o.n) hT.rf a (by omega) (by omega) (by omega) (by omega) hk (by rw [b]; omega) (by rw [b]; exact hp) (by omega) (by omega)
  rw [c] at ru rm
  rw [b] at rv
  rw [b, c] at rf1 rfn
  obtain ⟨t3, e3, k3⟩ : ∃ t3, run (exec T (m + 2)) (m + 2) none c_wicketlaw12_pair_same_S6 ⟨t2, H.new (.cells o.cells false 0), []⟩ = some (.normal, ⟨t3, H.new (.cells o.cells false 0), []⟩) ∧ Keeps 13 t2 t3 := by
    simp (maxSteps := 1000000) (disch := first | omega | (simp; omega) | (simp; done) | fail) [c_wicketlaw12_pair_same_S4, c_wicketlaw12_pair_same_S5, c_wicketlaw12_pair_same_S6, p5, p7, p8, q9, q10, q11, q12, lu, lr, lm, lf1, lfn, ru, rv, rm, rf1, rfn, nk, doperK_r, roAt_cells hbox, hbox, put_self hbox]
  have v7 := k3.get p7; have v8 := k3.get p8
  -- the first tickets
  obtain ⟨t4, e4, k4, v13⟩ : ∃ t4, run (exec T (m + 2)) (m + 2) none c_wicketlaw12_pair_same_S7 ⟨t3, H.new (.cells o.cells false 0), []⟩ = some (.normal, ⟨t4, H.new (.cells o.cells false 0), []⟩) ∧ Keeps 13 t3 t4 ∧ t4.get 13 = some (.int .u64 (0 : Nat)) := by
    simp [c_wicketlaw12_pair_same_S7]
  obtain ⟨_, ⟨t5, H5, ds5⟩, e5, _, hH, hds, rfl, u7, u8⟩ := loop_up (f := run (exec T (m + 2)) (m + 2) none c_wicketlaw12_pair_same_L15) (a := 0) (n := 6) (m := m + 2) (s := ⟨t4, H.new (.cells o.cells false 0), []⟩)
    (J := fun j s => s.h = H.new (.cells o.cells false 0) ∧ s.ds = [] ∧ s.tm.get 7 = some (.pointer (some ⟨x.l, 0, none⟩)) ∧ s.tm.get 8 = some (.pointer (some ⟨x.r, 0, none⟩)) ∧ s.tm.get 13 = some (.int .u64 (j : Nat)))
    (Q := fun e s => s.h = H.new (.cells o.cells false 0) ∧ s.ds = [] ∧ e = .exit 0 ∧ s.tm.get 7 = some (.pointer (some ⟨x.l, 0, none⟩)) ∧ s.tm.get 8 = some (.pointer (some ⟨x.r, 0, none⟩))) (by omega) (Nat.zero_le _) ⟨rfl, rfl, k4.get v7, k4.get v8, v13⟩ (by
      rintro j ⟨tm, H', ds⟩ hj ⟨hH, hds, u7, u8, u13⟩
      simp only at hH hds u7 u8 u13
      subst hH hds
      have l1 := L1 (j : Nat); have r1 := R1 (j : Nat)
      obtain ⟨z, y, hzy⟩ := both (j : Nat)
      rw [hzy] at l1 r1
      have hj' : (j : Int) < 6 := by omega
      have w1 : IntKind.u64.wrap ((j : Int) + 1) = ((j + 1 : Nat) : Int) := by rw [wrap_u64 (by omega) (by omega)]; rfl
      obtain ⟨t6, g6, q7, q8, q13⟩ : ∃ t6, run (exec T (m + 2)) (m + 2) none c_wicketlaw12_pair_same_L15 ⟨tm, H.new (.cells o.cells false 0), []⟩ = some (.normal, ⟨t6, H.new (.cells o.cells false 0), []⟩) ∧ t6.get 7 = some (.pointer (some ⟨x.l, 0, none⟩)) ∧ t6.get 8 = some (.pointer (some ⟨x.r, 0, none⟩)) ∧ t6.get 13 = some (.int .u64 ((j + 1 : Nat) : Int)) := by
        simp (maxSteps := 1000000) (disch := first | omega | (simp; omega) | (simp; done) | fail) [-Int.natCast_add, c_wicketlaw12_pair_same_L15, c_wicketlaw12_pair_same_S8, c_wicketlaw12_pair_same_S9, c_wicketlaw12_pair_same_S10, c_wicketlaw12_pair_same_S11, c_wicketlaw12_pair_same_S12, c_wicketlaw12_pair_same_S13, c_wicketlaw12_pair_same_S14, u7, u8, u13, l1, r1, hj, hj', w1]
      exact ⟨_, _, g6, .inl ⟨rfl, rfl, rfl, q7, q8, q13⟩⟩) (by
      rintro ⟨tm, H', ds⟩ ⟨hH, hds, u7, u8, u13⟩
      simp only at hH hds u7 u8 u13
      subst hH hds
      obtain ⟨t6, g6, q7, q8⟩ : ∃ t6, run (exec T (m + 2)) (m + 2) none c_wicketlaw12_pair_same_L15 ⟨tm, H.new (.cells o.cells false 0), []⟩ = some (.exit 0, ⟨t6, H.new (.cells o.cells false 0), []⟩) ∧ t6.get 7 = some (.pointer (some ⟨x.l, 0, none⟩)) ∧ t6.get 8 = some (.pointer (some ⟨x.r, 0, none⟩)) := by
        simp [c_wicketlaw12_pair_same_L15, c_wicketlaw12_pair_same_S8, c_wicketlaw12_pair_same_S9, u7, u8, u13]
      exact ⟨_, _, g6, by simp, rfl, rfl, rfl, q7, q8⟩)
  simp only at hH hds u7 u8
  subst hH hds
  have e16 : run (exec T (m + 2)) (m + 2) none c_wicketlaw12_pair_same_S16 ⟨t3, H.new (.cells o.cells false 0), []⟩ = some (.normal, ⟨t5, H.new (.cells o.cells false 0), []⟩) := by
    rw [c_wicketlaw12_pair_same_S16, run_seq, e4, seqK_normal, run_block, run_loop, e5]; rfl
  -- the room
  have ha := a.at_
  have ldr := d1.ld.put (o := .cells [.int .i64 x.cap, .int .i64 x.mark, .int .i64 rec, .int .i64 gone, x.s] true 0) n1.symm n2.symm
  have lu2 := lused_ok (m := m + 1) hT.lp.toLdT ldr
  have lr2 := lreserved_ok (m := m + 1) hT.lp.toLdT ldr
  have rc : readCells (H.new (.cells o.cells false 0)) x.r 0 1 = some [.int .i64 x.cap] := by rw [readCells_of ha (by simp)]; rfl
  have wt : IntKind.i64.wrap (x.g.used + tot x.g.kv) = x.g.used + tot x.g.kv := wrap_i64 (by omega) (by omega)
  obtain ⟨t7, e7, q6⟩ : ∃ t7, run (exec T (m + 2)) (m + 2) none c_wicketlaw12_pair_same_S17 ⟨t5, H.new (.cells o.cells false 0), []⟩ = some (.normal, ⟨t7, H.new (.cells o.cells false 0), []⟩) ∧ t7.get 6 = some (.bool true) := by
    simp (maxSteps := 1000000) (disch := first | omega | (simp; omega) | (simp; done) | fail) [c_wicketlaw12_pair_same_S17, u7, u8, rc, doperK_r, roAt_cells ha, ha, put_self ha, lu2, lr2, wt, hle]
  refine ⟨H.new (.cells o.cells false 0), ?_, f1⟩
  rw [exec_fn hT.same, run_pre2, e1, seqK_normal, run_pre2, e2, seqK_normal, run_seq, e3, seqK_normal, run_seq, e16, seqK_normal, run_seq, e7, seqK_normal]
  simp [q6, endOf, takeAll, results?, resOf, endVal]
end Go.Proofs.Ytnkhlohphaomlaa
