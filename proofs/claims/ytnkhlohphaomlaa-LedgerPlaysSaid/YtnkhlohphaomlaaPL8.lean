/- LedgerPlays: one call. -/
import Derived.Test.YtnkhlohphaomlaaPL7
namespace Go.Proofs.Ytnkhlohphaomlaa
open Go
set_option linter.unusedVariables false
set_option linter.unusedSimpArgs false
variable {T : Nat → Option AFun} {H : Heap} {m : Nat} {t : Int}

theorem Du.nb {x : Pt} {N : Nat} (h : Du H x N) : x.l ∉ blk x.s ∧ x.mb ∉ blk x.s ∧ x.r ∉ blk x.s := by
  obtain ⟨rec, gone, ps, a, _⟩ := h.rf.ex
  exact ⟨a.sl.notin h.ld.at_ (by decide), a.sl.not h.ld.mp (by intro xs ro e; cases e), a.nb⟩
def R1C : AC :=
  .regd [⟨0, [], false, ⟨(some 31), .move (.tmp 6), none⟩⟩,
        ⟨1, [], false, ⟨(some 32), .fieldAddr 2 (.tmp 3), none⟩⟩,
        ⟨2, [1], false, ⟨(some 33), .load false 1 (.tmp 32), none⟩⟩,
        ⟨3, [], false, ⟨(some 34), .fieldAddr 3 (.tmp 3), none⟩⟩,
        ⟨4, [3], false, ⟨(some 35), .load false 1 (.tmp 34), none⟩⟩,
        ⟨6, [], false, ⟨(some 37), .move (.tmp 7), none⟩⟩,
        ⟨7, [], false, ⟨(some 38), .fieldAddr 2 (.tmp 3), none⟩⟩,
        ⟨8, [7], false, ⟨(some 39), .load false 1 (.tmp 38), none⟩⟩,
        ⟨9, [], false, ⟨(some 40), .fieldAddr 3 (.tmp 3), none⟩⟩,
        ⟨10, [9], false, ⟨(some 41), .load false 1 (.tmp 40), none⟩⟩,
        ⟨5, [0, 2, 4, 1, 3], true, ⟨(some 36), .call k_ledger_Ledger_Reserve [(.tmp 31), (.tmp 33), (.tmp 35)], none⟩⟩,
        ⟨11, [6, 8, 10, 5, 7, 9, 0, 2, 4, 1, 3], true, ⟨(some 42), .call k_wicketref12_Ledger_Reserve [(.tmp 37), (.tmp 39), (.tmp 41)], none⟩⟩,
        ⟨12, [5, 11, 0, 1, 2, 3, 4, 6, 8, 10, 7, 9], false, ⟨(some 8), .move (.tmp 36), none⟩⟩,
        ⟨13, [11, 12, 0, 1, 2, 3, 4, 5, 6, 7, 8, 9, 10], false, ⟨(some 9), .move (.tmp 42), none⟩⟩]
def R2C : AC :=
  .regd [⟨0, [], false, ⟨(some 45), .move (.tmp 6), none⟩⟩,
          ⟨1, [], false, ⟨(some 46), .fieldAddr 2 (.tmp 3), none⟩⟩,
          ⟨2, [1], false, ⟨(some 47), .load false 1 (.tmp 46), none⟩⟩,
          ⟨4, [], false, ⟨(some 49), .move (.tmp 7), none⟩⟩,
          ⟨5, [], false, ⟨(some 50), .fieldAddr 2 (.tmp 3), none⟩⟩,
          ⟨6, [5], false, ⟨(some 51), .load false 1 (.tmp 50), none⟩⟩,
          ⟨3, [0, 2, 1], true, ⟨(some 48), .call k_ledger_Ledger_Append [(.tmp 45), (.tmp 47)], none⟩⟩,
          ⟨7, [4, 6, 3, 5, 0, 2, 1], true, ⟨(some 52), .call k_wicketref12_Ledger_Append [(.tmp 49), (.tmp 51)], none⟩⟩,
          ⟨8, [3, 7, 0, 1, 2, 4, 6, 5], false, ⟨(some 8), .move (.tmp 48), none⟩⟩,
          ⟨9, [7, 8, 0, 1, 2, 3, 4, 5, 6], false, ⟨(some 9), .move (.tmp 52), none⟩⟩]
def R3C : AC :=
  .regd [⟨0, [], false, ⟨(some 55), .move (.tmp 6), none⟩⟩,
            ⟨1, [], false, ⟨(some 56), .fieldAddr 2 (.tmp 3), none⟩⟩,
            ⟨2, [1], false, ⟨(some 57), .load false 1 (.tmp 56), none⟩⟩,
            ⟨4, [], false, ⟨(some 59), .move (.tmp 7), none⟩⟩,
            ⟨5, [], false, ⟨(some 60), .fieldAddr 2 (.tmp 3), none⟩⟩,
            ⟨6, [5], false, ⟨(some 61), .load false 1 (.tmp 60), none⟩⟩,
            ⟨3, [0, 2, 1], true, ⟨(some 58), .call k_ledger_Ledger_Close [(.tmp 55), (.tmp 57)], none⟩⟩,
            ⟨7, [4, 6, 3, 5, 0, 2, 1], true, ⟨(some 62), .call k_wicketref12_Ledger_Close [(.tmp 59), (.tmp 61)], none⟩⟩,
            ⟨8, [3, 7, 0, 1, 2, 4, 6, 5], false, ⟨(some 8), .move (.tmp 58), none⟩⟩,
            ⟨9, [7, 8, 0, 1, 2, 3, 4, 5, 6], false, ⟨(some 9), .move (.tmp 62), none⟩⟩]
def R4C : AC :=
  .regd [⟨0, [], false, ⟨(some 65), .move (.tmp 6), none⟩⟩,
              ⟨1, [], false, ⟨(some 66), .fieldAddr 3 (.tmp 3), none⟩⟩,
              ⟨2, [1], false, ⟨(some 67), .load false 1 (.tmp 66), none⟩⟩,
              ⟨4, [], false, ⟨(some 69), .move (.tmp 7), none⟩⟩,
              ⟨5, [], false, ⟨(some 70), .fieldAddr 3 (.tmp 3), none⟩⟩,
              ⟨6, [5], false, ⟨(some 71), .load false 1 (.tmp 70), none⟩⟩,
              ⟨3, [0, 2, 1], true, ⟨(some 68), .call k_ledger_Ledger_Free [(.tmp 65), (.tmp 67)], none⟩⟩,
              ⟨7, [4, 6, 3, 5, 0, 2, 1], true, ⟨(some 72), .call k_wicketref12_Ledger_Free [(.tmp 69), (.tmp 71)], none⟩⟩,
              ⟨8, [3, 7, 0, 1, 2, 4, 6, 5], false, ⟨(some 8), .move (.tmp 68), none⟩⟩,
              ⟨9, [7, 8, 0, 1, 2, 3, 4, 5, 6], false, ⟨(some 9), .move (.tmp 72), none⟩⟩]

theorem dr1 (hT : PaT T) {x : Pt} {N b : Nat} {o : OpL} {tm : Tr Value} {ds : List Nat} {nn : Nat} {rd : Option Nat} (h : Du H x N) (wf : WF H) (hb : H.get b = some (.cells o.cells false 0)) (hnb : b ∉ fpt x) (hN : N ≤ 900) (hm : 1000 ≤ m)
    (t3 : tm.get 3 = some (.pointer (some ⟨b, 0, none⟩))) (t6 : tm.get 6 = some (.pointer (some ⟨x.l, 0, none⟩))) (t7 : tm.get 7 = some (.pointer (some ⟨x.r, 0, none⟩))) :
    ∃ t' H' s' c, run (exec T (m + 3)) nn rd R1C ⟨tm, H, ds⟩ = some (.normal, ⟨t', H', ds⟩) ∧ KeepsB 10 [8, 9] tm t' ∧ t'.get 8 = some (.int .i64 c) ∧ t'.get 9 = some (.int .i64 c) ∧ Du H' ⟨x.l, x.mb, x.r, s', x.cap, x.mark, (gRes x.cap o.ticket o.n x.g).2⟩ (N + 1) ∧
      Fr H H' (fpt x) ∧ ∀ q ∈ blk s', q ∈ blk x.s ∨ H.next ≤ q := by
  have hbl := wf.lt hb
  simp only [fpt, List.mem_cons, not_or] at hnb
  obtain ⟨d1, d2, d3, d4⟩ := hnb
  obtain ⟨n1, n2, n3⟩ := h.ne
  obtain ⟨n4, n5, n6⟩ := h.nb
  have wb : WF (H.put b (.cells o.cells true 0)) := wf.put' hbl
  obtain ⟨H2, e1, ld2, f2⟩ := lres (m := m + 1) (t := o.ticket) (n := o.n) hT.lp.toLdT (h.ld.put (o := .cells o.cells true 0) d1 d2) h.gd wb
  have f3 := Fr.ro wf hb f2 (by simp [d1, d2])
  have ld3 := ld2.put (o := .cells o.cells false 0) d1 d2
  have rf3 := h.rf.fr f3 (by simp [n1.symm, n2.symm]) (fun q hq => by simp only [List.mem_cons, List.not_mem_nil, or_false, not_or]; exact ⟨fun e => n4 (e ▸ hq), fun e => n5 (e ▸ hq)⟩)
  obtain ⟨H4, s', e4, rf4, f4, b4⟩ := rres (m := m) (t := o.ticket) (n := o.n) hT.rf rf3 h.gd f3.wf hN hm
  have ld4 := ld3.fr f4 (by simp [n1, n4]) (by simp [n2, n5])
  have tk : readCells H b 2 1 = some [.int .u64 o.ticket] := by rw [readCells_of hb (by simp [OpL.cells])]; rfl
  have nk : readCells H b 3 1 = some [.int .i64 o.n] := by rw [readCells_of hb (by simp [OpL.cells])]; rfl
  obtain ⟨t', er, k1, k8, k9⟩ : ∃ t', run (exec T (m + 3)) nn rd R1C ⟨tm, H, ds⟩ = some (.normal, ⟨t', H4, ds⟩) ∧ KeepsB 10 [8, 9] tm t' ∧ t'.get 8 = some (.int .i64 (gRes x.cap o.ticket o.n x.g).1) ∧ t'.get 9 = some (.int .i64 (gRes x.cap o.ticket o.n x.g).1) := by
    simp (maxSteps := 1000000) (disch := first | omega | (simp; omega) | (simp; done) | fail) [R1C, t3, t6, t7, tk, nk, doperK_rr, roAt_cells hb, roAt_ro, hb, e1, e4]
  refine ⟨t', H4, s', _, er, k1, k8, k9, ⟨ld4, rf4, h.gd.res⟩, f3.trans wf f4 ?_ ?_, fun q hq => ?_⟩
  · intro q hq; left; simp only [fpt, List.mem_cons, List.not_mem_nil, or_false] at hq ⊢; rcases hq with e | e <;> simp [e]
  · intro q hq; left; simp only [fpt, List.mem_cons] at hq ⊢; rcases hq with e | e <;> simp [e]
  · rcases b4 q hq with e | e
    · exact .inl e
    · exact .inr (Nat.le_trans f3.le e)

theorem dr2 (hT : PaT T) {x : Pt} {N b : Nat} {o : OpL} {tm : Tr Value} {ds : List Nat} {nn : Nat} {rd : Option Nat} (h : Du H x N) (wf : WF H) (hb : H.get b = some (.cells o.cells false 0)) (hnb : b ∉ fpt x) (hN : N ≤ 900) (hm : 1000 ≤ m)
    (t3 : tm.get 3 = some (.pointer (some ⟨b, 0, none⟩))) (t6 : tm.get 6 = some (.pointer (some ⟨x.l, 0, none⟩))) (t7 : tm.get 7 = some (.pointer (some ⟨x.r, 0, none⟩))) :
    ∃ t' H' s' c, run (exec T (m + 3)) nn rd R2C ⟨tm, H, ds⟩ = some (.normal, ⟨t', H', ds⟩) ∧ KeepsB 10 [8, 9] tm t' ∧ t'.get 8 = some (.int .i64 c) ∧ t'.get 9 = some (.int .i64 c) ∧ Du H' ⟨x.l, x.mb, x.r, s', x.cap, x.mark, (gApp o.ticket x.g).2⟩ (N + 1) ∧
      Fr H H' (fpt x) ∧ ∀ q ∈ blk s', q ∈ blk x.s ∨ H.next ≤ q := by
  have hbl := wf.lt hb
  simp only [fpt, List.mem_cons, not_or] at hnb
  obtain ⟨d1, d2, d3, d4⟩ := hnb
  obtain ⟨n1, n2, n3⟩ := h.ne
  obtain ⟨n4, n5, n6⟩ := h.nb
  have wb : WF (H.put b (.cells o.cells true 0)) := wf.put' hbl
  obtain ⟨H2, e1, ld2, f2⟩ := lapp (m := m + 1) (t := o.ticket) hT.lp.toLdT (h.ld.put (o := .cells o.cells true 0) d1 d2) h.gd wb
  have f3 := Fr.ro wf hb f2 (by simp [d1, d2])
  have ld3 := ld2.put (o := .cells o.cells false 0) d1 d2
  have rf3 := h.rf.fr f3 (by simp [n1.symm, n2.symm]) (fun q hq => by simp only [List.mem_cons, List.not_mem_nil, or_false, not_or]; exact ⟨fun e => n4 (e ▸ hq), fun e => n5 (e ▸ hq)⟩)
  obtain ⟨H4, s', e4, rf4, f4, b4⟩ := rapp (m := m) (t := o.ticket) hT.rf rf3 h.gd f3.wf hN hm
  have ld4 := ld3.fr f4 (by simp [n1, n4]) (by simp [n2, n5])
  have tk : readCells H b 2 1 = some [.int .u64 o.ticket] := by rw [readCells_of hb (by simp [OpL.cells])]; rfl
  have nk : readCells H b 3 1 = some [.int .i64 o.n] := by rw [readCells_of hb (by simp [OpL.cells])]; rfl
  obtain ⟨t', er, k1, k8, k9⟩ : ∃ t', run (exec T (m + 3)) nn rd R2C ⟨tm, H, ds⟩ = some (.normal, ⟨t', H4, ds⟩) ∧ KeepsB 10 [8, 9] tm t' ∧ t'.get 8 = some (.int .i64 (gApp o.ticket x.g).1) ∧ t'.get 9 = some (.int .i64 (gApp o.ticket x.g).1) := by
    simp (maxSteps := 1000000) (disch := first | omega | (simp; omega) | (simp; done) | fail) [R2C, t3, t6, t7, tk, nk, doperK_r, roAt_cells hb, roAt_ro, hb, e1, e4]
  refine ⟨t', H4, s', _, er, k1, k8, k9, ⟨ld4, rf4, h.gd.app⟩, f3.trans wf f4 ?_ ?_, fun q hq => ?_⟩
  · intro q hq; left; simp only [fpt, List.mem_cons, List.not_mem_nil, or_false] at hq ⊢; rcases hq with e | e <;> simp [e]
  · intro q hq; left; simp only [fpt, List.mem_cons] at hq ⊢; rcases hq with e | e <;> simp [e]
  · rcases b4 q hq with e | e
    · exact .inl e
    · exact .inr (Nat.le_trans f3.le e)

theorem dr3 (hT : PaT T) {x : Pt} {N b : Nat} {o : OpL} {tm : Tr Value} {ds : List Nat} {nn : Nat} {rd : Option Nat} (h : Du H x N) (wf : WF H) (hb : H.get b = some (.cells o.cells false 0)) (hnb : b ∉ fpt x) (hN : N ≤ 900) (hm : 1000 ≤ m)
    (t3 : tm.get 3 = some (.pointer (some ⟨b, 0, none⟩))) (t6 : tm.get 6 = some (.pointer (some ⟨x.l, 0, none⟩))) (t7 : tm.get 7 = some (.pointer (some ⟨x.r, 0, none⟩))) :
    ∃ t' H' s' c, run (exec T (m + 3)) nn rd R3C ⟨tm, H, ds⟩ = some (.normal, ⟨t', H', ds⟩) ∧ KeepsB 10 [8, 9] tm t' ∧ t'.get 8 = some (.int .i64 c) ∧ t'.get 9 = some (.int .i64 c) ∧ Du H' ⟨x.l, x.mb, x.r, s', x.cap, x.mark, (gClo o.ticket x.g).2⟩ (N + 1) ∧
      Fr H H' (fpt x) ∧ ∀ q ∈ blk s', q ∈ blk x.s ∨ H.next ≤ q := by
  have hbl := wf.lt hb
  simp only [fpt, List.mem_cons, not_or] at hnb
  obtain ⟨d1, d2, d3, d4⟩ := hnb
  obtain ⟨n1, n2, n3⟩ := h.ne
  obtain ⟨n4, n5, n6⟩ := h.nb
  have wb : WF (H.put b (.cells o.cells true 0)) := wf.put' hbl
  obtain ⟨H2, e1, ld2, f2⟩ := lclo (m := m + 1) (t := o.ticket) hT.lp.toLdT (h.ld.put (o := .cells o.cells true 0) d1 d2) h.gd wb
  have f3 := Fr.ro wf hb f2 (by simp [d1, d2])
  have ld3 := ld2.put (o := .cells o.cells false 0) d1 d2
  have rf3 := h.rf.fr f3 (by simp [n1.symm, n2.symm]) (fun q hq => by simp only [List.mem_cons, List.not_mem_nil, or_false, not_or]; exact ⟨fun e => n4 (e ▸ hq), fun e => n5 (e ▸ hq)⟩)
  obtain ⟨H4, s', e4, rf4, f4, b4⟩ := rclo (m := m) (t := o.ticket) hT.rf rf3 h.gd f3.wf hN hm
  have ld4 := ld3.fr f4 (by simp [n1, n4]) (by simp [n2, n5])
  have tk : readCells H b 2 1 = some [.int .u64 o.ticket] := by rw [readCells_of hb (by simp [OpL.cells])]; rfl
  have nk : readCells H b 3 1 = some [.int .i64 o.n] := by rw [readCells_of hb (by simp [OpL.cells])]; rfl
  obtain ⟨t', er, k1, k8, k9⟩ : ∃ t', run (exec T (m + 3)) nn rd R3C ⟨tm, H, ds⟩ = some (.normal, ⟨t', H4, ds⟩) ∧ KeepsB 10 [8, 9] tm t' ∧ t'.get 8 = some (.int .i64 (gClo o.ticket x.g).1) ∧ t'.get 9 = some (.int .i64 (gClo o.ticket x.g).1) := by
    simp (maxSteps := 1000000) (disch := first | omega | (simp; omega) | (simp; done) | fail) [R3C, t3, t6, t7, tk, nk, doperK_r, roAt_cells hb, roAt_ro, hb, e1, e4]
  refine ⟨t', H4, s', _, er, k1, k8, k9, ⟨ld4, rf4, h.gd.clo⟩, f3.trans wf f4 ?_ ?_, fun q hq => ?_⟩
  · intro q hq; left; simp only [fpt, List.mem_cons, List.not_mem_nil, or_false] at hq ⊢; rcases hq with e | e <;> simp [e]
  · intro q hq; left; simp only [fpt, List.mem_cons] at hq ⊢; rcases hq with e | e <;> simp [e]
  · rcases b4 q hq with e | e
    · exact .inl e
    · exact .inr (Nat.le_trans f3.le e)

theorem dr4 (hT : PaT T) {x : Pt} {N b : Nat} {o : OpL} {tm : Tr Value} {ds : List Nat} {nn : Nat} {rd : Option Nat} (h : Du H x N) (wf : WF H) (hb : H.get b = some (.cells o.cells false 0)) (hnb : b ∉ fpt x) (hN : N ≤ 900) (hm : 1000 ≤ m)
    (t3 : tm.get 3 = some (.pointer (some ⟨b, 0, none⟩))) (t6 : tm.get 6 = some (.pointer (some ⟨x.l, 0, none⟩))) (t7 : tm.get 7 = some (.pointer (some ⟨x.r, 0, none⟩))) :
    ∃ t' H' s' c, run (exec T (m + 3)) nn rd R4C ⟨tm, H, ds⟩ = some (.normal, ⟨t', H', ds⟩) ∧ KeepsB 10 [8, 9] tm t' ∧ t'.get 8 = some (.int .i64 c) ∧ t'.get 9 = some (.int .i64 c) ∧ Du H' ⟨x.l, x.mb, x.r, s', x.cap, x.mark, (gFre o.n x.g).2⟩ (N + 1) ∧
      Fr H H' (fpt x) ∧ ∀ q ∈ blk s', q ∈ blk x.s ∨ H.next ≤ q := by
  have hbl := wf.lt hb
  simp only [fpt, List.mem_cons, not_or] at hnb
  obtain ⟨d1, d2, d3, d4⟩ := hnb
  obtain ⟨n1, n2, n3⟩ := h.ne
  obtain ⟨n4, n5, n6⟩ := h.nb
  have wb : WF (H.put b (.cells o.cells true 0)) := wf.put' hbl
  obtain ⟨H2, e1, ld2, f2⟩ := lfre (m := m + 2) (n := o.n) hT.lp.toLdT (h.ld.put (o := .cells o.cells true 0) d1 d2) h.gd wb
  have f3 := Fr.ro wf hb f2 (by simp [d1, d2])
  have ld3 := ld2.put (o := .cells o.cells false 0) d1 d2
  have rf3 := h.rf.fr f3 (by simp [n1.symm, n2.symm]) (fun q hq => by simp only [List.mem_cons, List.not_mem_nil, or_false, not_or]; exact ⟨fun e => n4 (e ▸ hq), fun e => n5 (e ▸ hq)⟩)
  obtain ⟨H4, s', e4, rf4, f4, b4⟩ := rfre (m := m) (n := o.n) hT.rf rf3 h.gd f3.wf hN
  have ld4 := ld3.fr f4 (by simp [n1, n4]) (by simp [n2, n5])
  have tk : readCells H b 2 1 = some [.int .u64 o.ticket] := by rw [readCells_of hb (by simp [OpL.cells])]; rfl
  have nk : readCells H b 3 1 = some [.int .i64 o.n] := by rw [readCells_of hb (by simp [OpL.cells])]; rfl
  obtain ⟨t', er, k1, k8, k9⟩ : ∃ t', run (exec T (m + 3)) nn rd R4C ⟨tm, H, ds⟩ = some (.normal, ⟨t', H4, ds⟩) ∧ KeepsB 10 [8, 9] tm t' ∧ t'.get 8 = some (.int .i64 (gFre o.n x.g).1) ∧ t'.get 9 = some (.int .i64 (gFre o.n x.g).1) := by
    simp (maxSteps := 1000000) (disch := first | omega | (simp; omega) | (simp; done) | fail) [R4C, t3, t6, t7, tk, nk, doperK_r, roAt_cells hb, roAt_ro, hb, e1, e4]
  refine ⟨t', H4, s', _, er, k1, k8, k9, ⟨ld4, rf4, h.gd.fre⟩, f3.trans wf f4 ?_ ?_, fun q hq => ?_⟩
  · intro q hq; left; simp only [fpt, List.mem_cons, List.not_mem_nil, or_false] at hq ⊢; rcases hq with e | e <;> simp [e]
  · intro q hq; left; simp only [fpt, List.mem_cons] at hq ⊢; rcases hq with e | e <;> simp [e]
  · rcases b4 q hq with e | e
    · exact .inl e
    · exact .inr (Nat.le_trans f3.le e)
end Go.Proofs.Ytnkhlohphaomlaa
