/- LedgerRoom: Append. -/
import Derived.Test.YtnpegkmoadjjeaaLr8
namespace Go.Proofs.Ytnpegkmoadjjeaa
open Go
set_option linter.unusedVariables false
set_option linter.unusedSimpArgs false
variable {T : Nat → Option AFun} {H : Heap} {m : Nat}
section
variable {H0 : Heap} {l mb : Nat} {c : Int} {v1 : Value} {i k : Nat} {kv : List (Int × Int)} {used : Int} {st sl : Value} {tm : Tr Value} {ds : List Nat} {box : Nat} {o : Op4} {nn : Nat} {rd : Option Nat}

def k2C : AC :=
  .seq c_wicketlaw12_LedgerRoom_S34 <| .seq c_wicketlaw12_LedgerRoom_S35 <| .seq c_wicketlaw12_LedgerRoom_S38 <| .seq c_wicketlaw12_LedgerRoom_S39 <|
  .cond (.tmp 162) (.seq c_wicketlaw12_LedgerRoom_S40 <| .reg [⟨(some 169), .move (.tmp 10), none⟩, ⟨(some 170), .bin .add (.tmp 169) (.const (.int .i64 1)), none⟩, ⟨(some 10), .move (.tmp 170), none⟩]) (.skip)

theorem k2_ok (hT : LdT T) (w0 : WF H0) (h : Room H0 l mb c v1 i k kv used st sl tm H) (s : Seen box o kv tm H) (hk : k ≤ 200) (hbox : H0.next ≤ box) : Done H0 l mb c v1 i k ds (run (exec T (m + 2)) nn rd k2C ⟨tm, H, ds⟩) := by
  have r6 := h.r6; have r12 := s.r12
  have q2 := s.tk; have q3 := s.num
  have hpos := tot_nonneg h.nn
  have hc := h.hc; have hu := h.hu; have hle := h.hle
  cases hx : fidx o.ticket kv 0 with
  | none =>
    have hat := atOf_none hx
    obtain ⟨e, he, e1⟩ := lappend_bad (m := m) hT h.ld (.inl hx)
    obtain ⟨t1, g1, k1, g18⟩ : ∃ t1, run (exec T (m + 2)) nn rd c_wicketlaw12_LedgerRoom_S34 ⟨tm, H, ds⟩ = some (.normal, ⟨t1, H, ds⟩) ∧ Keeps 16 tm t1 ∧ t1.get 18 = some (.int .i64 e) := by
      simp (maxSteps := 1000000) [c_wicketlaw12_LedgerRoom_S34, r6, r12, q2, e1]
    have r13 := k1.get s.r13
    rw [hat] at r13
    obtain ⟨t2, g2, k2, g19⟩ : ∃ t2, run (exec T (m + 2)) nn rd c_wicketlaw12_LedgerRoom_S35 ⟨t1, H, ds⟩ = some (.normal, ⟨t2, H, ds⟩) ∧ Keeps 19 t1 t2 ∧ t2.get 19 = some (.bool false) := by
      simp (maxSteps := 1000000) [c_wicketlaw12_LedgerRoom_S35, r13]
    have g18' := k2.get g18
    obtain ⟨t3, g3, k3, g162⟩ : ∃ t3, run (exec T (m + 2)) nn rd (.seq c_wicketlaw12_LedgerRoom_S38 c_wicketlaw12_LedgerRoom_S39) ⟨t2, H, ds⟩ = some (.normal, ⟨t3, H, ds⟩) ∧ Keeps 18 t2 t3 ∧ t3.get 162 = some (.bool false) := by
      simp (maxSteps := 1000000) [c_wicketlaw12_LedgerRoom_S36, c_wicketlaw12_LedgerRoom_S38, c_wicketlaw12_LedgerRoom_S39, g18', g19, he]
    have kk : Keeps 16 tm t3 := (k1.trans (k2.le (by decide))).trans (k3.le (by decide))
    refine ⟨t3, H, kv, used, st, sl, ?_, (h.tm (kk.le (by decide))).later⟩
    rw [k2C, run_seq, g1, seqK_normal, run_seq, g2, seqK_normal, run_pre2, g3, seqK_normal, run_ff g162, run_skip]
  | some p =>
    obtain ⟨j, b⟩ := p
    have hat := atOf_some hx
    obtain ⟨_, hj⟩ := fidx_at hx
    simp only [Nat.sub_zero] at hj
    have hjl : j < kv.length := (List.getElem?_eq_some_iff.1 hj).1
    have hmem : (o.ticket, b) ∈ kv := List.mem_of_getElem? hj
    have hb0 : 0 ≤ b := h.nn _ hmem
    have hbt : b ≤ tot kv := le_tot h.nn _ hmem
    obtain ⟨bb, sp, cc, rfl⟩ := h.ssl.ne_nil (by omega)
    have hjv : (kv.map (·.2))[j]? = some b := by simp [hj]
    have goInt : ((j : Nat) : Int).toNat = j := by simp
    -- 'may', on either heap
    have may : ∀ (b' : Int) (H' : Heap) (t1 : Tr Value), Sl H' 1 (.slice (some ⟨bb, 0, sp⟩) kv.length cc) kv.length (iz .i64 (kv.map (·.2))) → t1.get 9 = some (.slice (some ⟨bb, 0, sp⟩) kv.length cc) → t1.get 13 = some (.int .i64 (j : Int)) →
        ∃ t2, run (exec T (m + 2)) nn rd c_wicketlaw12_LedgerRoom_S35 ⟨t1, H', ds⟩ = some (.normal, ⟨t2, H', ds⟩) ∧ Keeps 19 t1 t2 ∧ t2.get 19 = some (.bool (decide (0 < b))) := by
      intro b' H' t1 hs r9 r13
      have hr : readCells H' bb j 1 = some [.int .i64 b] := by rw [hs.read (by omega), iz_at hjv]
      have e1 : (0 : Int) ≤ j := by omega
      have e2 : ¬ (j : Int) < 0 := by omega
      have e3 : (j : Int) < kv.length := by omega
      simp (maxSteps := 1000000) (disch := first | omega | (simp; omega) | (simp; done) | fail) [c_wicketlaw12_LedgerRoom_S35, r13, r9, maxK_max, e1, e2, idxK_of, hr]
    by_cases hb : b = 0
    · subst hb
      obtain ⟨e, he, e1⟩ := lappend_bad (m := m) hT h.ld (.inr ⟨j, hx⟩)
      obtain ⟨t1, g1, k1, g18⟩ : ∃ t1, run (exec T (m + 2)) nn rd c_wicketlaw12_LedgerRoom_S34 ⟨tm, H, ds⟩ = some (.normal, ⟨t1, H, ds⟩) ∧ Keeps 16 tm t1 ∧ t1.get 18 = some (.int .i64 e) := by
        simp (maxSteps := 1000000) [c_wicketlaw12_LedgerRoom_S34, r6, r12, q2, e1]
      have r13 := k1.get s.r13
      rw [hat] at r13
      obtain ⟨t2, g2, k2, g19⟩ := may 0 H t1 h.ssl (k1.get h.r9) r13
      rw [decide_eq_false (by omega)] at g19
      have g18' := k2.get g18
      obtain ⟨t3, g3, k3, g162⟩ : ∃ t3, run (exec T (m + 2)) nn rd (.seq c_wicketlaw12_LedgerRoom_S38 c_wicketlaw12_LedgerRoom_S39) ⟨t2, H, ds⟩ = some (.normal, ⟨t3, H, ds⟩) ∧ Keeps 18 t2 t3 ∧ t3.get 162 = some (.bool false) := by
        simp (maxSteps := 1000000) [c_wicketlaw12_LedgerRoom_S36, c_wicketlaw12_LedgerRoom_S38, c_wicketlaw12_LedgerRoom_S39, g18', g19, he]
      have kk : Keeps 16 tm t3 := (k1.trans (k2.le (by decide))).trans (k3.le (by decide))
      refine ⟨t3, H, kv, used, st, _, ?_, (h.tm (kk.le (by decide))).later⟩
      rw [k2C, run_seq, g1, seqK_normal, run_seq, g2, seqK_normal, run_pre2, g3, seqK_normal, run_ff g162, run_skip]
    · obtain ⟨H1, e1, l1, f1⟩ := lappend_ok (m := m) hT h.ld h.fr.wf (by omega) (by omega) hx (by omega) (by omega)
      obtain ⟨x1, x2⟩ := h.sl2 f1
      obtain ⟨n1, n2, n3, n4⟩ := h.ns
      obtain ⟨t1, g1, k1, g18⟩ : ∃ t1, run (exec T (m + 2)) nn rd c_wicketlaw12_LedgerRoom_S34 ⟨tm, H, ds⟩ = some (.normal, ⟨t1, H1, ds⟩) ∧ Keeps 16 tm t1 ∧ t1.get 18 = some (.int .i64 0) := by
        simp (maxSteps := 1000000) [c_wicketlaw12_LedgerRoom_S34, r6, r12, q2, e1]
      have r13 := k1.get s.r13
      rw [hat] at r13
      obtain ⟨t2, g2, k2, g19⟩ := may b H1 t1 x2 (k1.get h.r9) r13
      rw [decide_eq_true (by omega)] at g19
      have g18' := k2.get g18
      obtain ⟨t3, g3, k3, g162⟩ : ∃ t3, run (exec T (m + 2)) nn rd (.seq c_wicketlaw12_LedgerRoom_S38 c_wicketlaw12_LedgerRoom_S39) ⟨t2, H1, ds⟩ = some (.normal, ⟨t3, H1, ds⟩) ∧ Keeps 18 t2 t3 ∧ t3.get 162 = some (.bool true) := by
        simp (maxSteps := 1000000) [c_wicketlaw12_LedgerRoom_S36, c_wicketlaw12_LedgerRoom_S38, c_wicketlaw12_LedgerRoom_S39, g18', g19]
      have kk : Keeps 16 tm t3 := (k1.trans (k2.le (by decide))).trans (k3.le (by decide))
      obtain ⟨H2, ew, x3, f2⟩ := x2.store (v := .int .i64 (b - 1)) f1.wf hjl
      have hr : readCells H1 bb j 1 = some [.int .i64 b] := by rw [x2.read (by omega), iz_at hjv]
      have r9' := kk.get h.r9; have r10' := kk.get h.r10
      have r13' : t3.get 13 = some (.int .i64 (j : Int)) := k3.get (k2.get r13)
      have w1 : IntKind.i64.wrap (b - 1) = b - 1 := wrap_i64 (by omega) (by omega)
      have w2 : IntKind.i64.wrap (used + 1) = used + 1 := wrap_i64 (by omega) (by omega)
      have e3 : (j : Int) < kv.length := by omega
      obtain ⟨t4, g4, k4, g10⟩ : ∃ t4, run (exec T (m + 2)) nn rd (.seq c_wicketlaw12_LedgerRoom_S40 (.reg [⟨(some 169), .move (.tmp 10), none⟩, ⟨(some 170), .bin .add (.tmp 169) (.const (.int .i64 1)), none⟩, ⟨(some 10), .move (.tmp 170), none⟩])) ⟨t3, H1, ds⟩ =
          some (.normal, ⟨t4, H2, ds⟩) ∧ KeepsB 16 [10] t3 t4 ∧ t4.get 10 = some (.int .i64 (used + 1)) := by
        simp (maxSteps := 1000000) (disch := first | omega | (simp; omega) | (simp; done) | fail) [c_wicketlaw12_LedgerRoom_S40, r13', r9', r10', idxK_of, hr, w1, w2, storeK_ptr, ew]
      have hfr1 : Fr H0 H1 [] := h.fr.step w0 f1 (by intro r hr; simp only [List.mem_cons, List.not_mem_nil, or_false] at hr; rcases hr with rfl | rfl; exact h.hl; exact h.hmb)
      have et : tot (kv.set j (o.ticket, b - 1)) = tot kv - 1 := by rw [tot_set hj]; simp; omega
      have e1' : (kv.set j (o.ticket, b - 1)).map (·.1) = kv.map (·.1) := by rw [map_set]; exact set_same (by simp [hj])
      have q : KeepsB 16 [10] tm t4 := fun x hx hn => (k4 x hx hn).trans (kk x hx)
      refine ⟨t4, H2, kv.set j (o.ticket, b - 1), used + 1, st, .slice (some ⟨bb, 0, sp⟩) kv.length cc, ?_, ?_⟩
      · rw [k2C, run_seq, g1, seqK_normal, run_seq, g2, seqK_normal, run_pre2, g3, seqK_normal, run_tt g162]
        exact g4
      · exact { ld := by rw [et]; exact l1.fr f2 (by simpa [blk] using n2) (by simpa [blk] using n4)
                sst := by rw [e1', List.length_set]; exact x1.fr f2 (fun x hx hm => h.dis x hx (by simpa [blk] using hm))
                ssl := by rw [List.length_set]; rw [map_set]; simpa [iz] using x3
                dis := h.dis
                bst := h.bst
                bsl := h.bsl
                nodup := by rw [e1']; exact h.nodup
                nn := fun p hp => by
                  rcases List.mem_or_eq_of_mem_set hp with h5 | h5
                  · exact h.nn p h5
                  · rw [h5]; show 0 ≤ b - 1; omega
                hu := by omega
                hle := by rw [et]; omega
                len := by have := h.len; simp; omega
                cst := by have := h.cst; omega
                csl := by have := h.csl; omega
                fr := hfr1.step w0 f2 (by intro r hr; exact h.bsl r (by simpa [blk] using hr))
                hl := h.hl
                hmb := h.hmb
                hc := hc
                r1 := q.get h.r1
                r5 := q.get h.r5
                r6 := q.get h.r6
                r8 := q.get h.r8
                r9 := q.get h.r9
                r10 := g10
                r11 := q.get h.r11 }
end
end Go.Proofs.Ytnpegkmoadjjeaa
