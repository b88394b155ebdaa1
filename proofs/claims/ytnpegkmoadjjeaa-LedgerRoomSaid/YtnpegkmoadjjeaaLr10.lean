/- LedgerRoom: Close and Free. -/
import Derived.Test.YtnpegkmoadjjeaaLr9
namespace Go.Proofs.Ytnpegkmoadjjeaa
open Go
set_option linter.unusedVariables false
set_option linter.unusedSimpArgs false
variable {T : Nat → Option AFun} {H : Heap} {m : Nat}
section
variable {H0 : Heap} {l mb : Nat} {c : Int} {v1 : Value} {i k : Nat} {kv : List (Int × Int)} {used : Int} {st sl : Value} {tm : Tr Value} {ds : List Nat} {box : Nat} {o : Op4} {nn : Nat} {rd : Option Nat}

def k3C : AC :=
  .seq c_wicketlaw12_LedgerRoom_S42 <| .seq c_wicketlaw12_LedgerRoom_S45 <| .seq c_wicketlaw12_LedgerRoom_S46 <|
  .cond (.tmp 183) (.seq c_wicketlaw12_LedgerRoom_S47 cutC2) (.skip)

theorem k3_ok (hT : LdT T) (w0 : WF H0) (h : Room H0 l mb c v1 i k kv used st sl tm H) (s : Seen box o kv tm H) (hk : k ≤ 200) (hbox : H0.next ≤ box) : Done H0 l mb c v1 i k ds (run (exec T (m + 2)) nn rd k3C ⟨tm, H, ds⟩) := by
  have r6 := h.r6; have r12 := s.r12
  have q2 := s.tk; have q3 := s.num
  have hpos := tot_nonneg h.nn
  have hc := h.hc; have hu := h.hu; have hle := h.hle
  cases hx : fidx o.ticket kv 0 with
  | none =>
    have hat := atOf_none hx
    have e1 := lclose_bad (m := m) hT h.ld hx
    obtain ⟨t1, g1, k1, g20⟩ : ∃ t1, run (exec T (m + 2)) nn rd c_wicketlaw12_LedgerRoom_S42 ⟨tm, H, ds⟩ = some (.normal, ⟨t1, H, ds⟩) ∧ Keeps 16 tm t1 ∧ t1.get 20 = some (.int .i64 110) := by
      simp (maxSteps := 1000000) [c_wicketlaw12_LedgerRoom_S42, r6, r12, q2, e1]
    have r13 := k1.get s.r13
    rw [hat] at r13
    obtain ⟨t3, g3, k3, g183⟩ : ∃ t3, run (exec T (m + 2)) nn rd (.seq c_wicketlaw12_LedgerRoom_S45 c_wicketlaw12_LedgerRoom_S46) ⟨t1, H, ds⟩ = some (.normal, ⟨t3, H, ds⟩) ∧ Keeps 16 t1 t3 ∧ t3.get 183 = some (.bool false) := by
      simp (maxSteps := 1000000) [c_wicketlaw12_LedgerRoom_S43, c_wicketlaw12_LedgerRoom_S45, c_wicketlaw12_LedgerRoom_S46, g20, r13]
    have kk : Keeps 16 tm t3 := k1.trans k3
    refine ⟨t3, H, kv, used, st, sl, ?_, (h.tm (kk.le (by decide))).later⟩
    rw [k3C, run_seq, g1, seqK_normal, run_pre2, g3, seqK_normal, run_ff g183, run_skip]
  | some p =>
    obtain ⟨j, b⟩ := p
    have hat := atOf_some hx
    obtain ⟨_, hj⟩ := fidx_at hx
    simp only [Nat.sub_zero] at hj
    have hjl : j < kv.length := (List.getElem?_eq_some_iff.1 hj).1
    have hmem : (o.ticket, b) ∈ kv := List.mem_of_getElem? hj
    have hb0 : 0 ≤ b := h.nn _ hmem
    have hbt : b ≤ tot kv := le_tot h.nn _ hmem
    have hlen := h.len
    obtain ⟨H1, e1, l1, f1⟩ := lclose_ok (m := m) hT h.ld h.fr.wf (by omega) hx (by omega) (by omega)
    obtain ⟨x1, x2⟩ := h.sl2 f1
    obtain ⟨t1, g1, k1, g20⟩ : ∃ t1, run (exec T (m + 2)) nn rd c_wicketlaw12_LedgerRoom_S42 ⟨tm, H, ds⟩ = some (.normal, ⟨t1, H1, ds⟩) ∧ Keeps 16 tm t1 ∧ t1.get 20 = some (.int .i64 0) := by
      simp (maxSteps := 1000000) [c_wicketlaw12_LedgerRoom_S42, r6, r12, q2, e1]
    have r13 := k1.get s.r13
    rw [hat] at r13
    have e0 : (0 : Int) ≤ j := by omega
    obtain ⟨t3, g3, k3, g183⟩ : ∃ t3, run (exec T (m + 2)) nn rd (.seq c_wicketlaw12_LedgerRoom_S45 c_wicketlaw12_LedgerRoom_S46) ⟨t1, H1, ds⟩ = some (.normal, ⟨t3, H1, ds⟩) ∧ Keeps 16 t1 t3 ∧ t3.get 183 = some (.bool true) := by
      simp (maxSteps := 1000000) [c_wicketlaw12_LedgerRoom_S43, c_wicketlaw12_LedgerRoom_S45, c_wicketlaw12_LedgerRoom_S46, g20, r13, e0]
    have kk : Keeps 16 tm t3 := k1.trans k3
    have r13' := k3.get r13
    obtain ⟨t4, H2, st', g4, k4, g8, f2, y1, b1, c1⟩ := cut1_ok (T := T) (m := m + 2) (ds := ds) (nn := nn) (rd := rd) f1.wf x1 hjl (by omega) (kk.get h.r8) r13'
    obtain ⟨t5, H3, sl', g5, k5, g9, f3, y2, b2, c2⟩ := cut2_ok (T := T) (m := m + 2) (ds := ds) (nn := nn) (rd := rd) f2.wf (x2.fr f2 (by simp)) hjl (by omega) (k4.get (kk.get h.r9)) (k4.get r13')
    have hfr1 : Fr H0 H1 [] := h.fr.step w0 f1 (by intro r hr; simp only [List.mem_cons, List.not_mem_nil, or_false] at hr; rcases hr with rfl | rfl; exact h.hl; exact h.hmb)
    have et : tot (kv.eraseIdx j) = tot kv - b := tot_erase hj
    have el : (kv.eraseIdx j).length = kv.length - 1 := by rw [List.length_eraseIdx, if_pos hjl]
    have z1 := y1.fr f3 (by simp)
    have q : KeepsB 16 [8, 9] tm t5 := fun x hx hn => ((k5 x hx (by simp at hn ⊢; omega)).trans (k4 x hx (by simp at hn ⊢; omega))).trans (kk x hx)
    refine ⟨t5, H3, kv.eraseIdx j, used, st', sl', ?_, ?_⟩
    · rw [k3C, run_seq, g1, seqK_normal, run_pre2, g3, seqK_normal, run_tt g183, run_seq, g4, seqK_normal, g5]
    · exact { ld := by rw [et]; exact (l1.fr f2 (by simp) (by simp)).fr f3 (by simp) (by simp)
              sst := by rw [el, ← map_eraseIdx]; simpa [iz, map_eraseIdx] using z1
              ssl := by rw [el, ← map_eraseIdx]; simpa [iz, map_eraseIdx] using y2
              dis := fun x h1 h2 => by
                have := b2 x h2
                have := y1.lt f2.wf x h1
                omega
              bst := fun x h1 => by
                have := b1 x h1
                have := hfr1.le
                omega
              bsl := fun x h1 => by
                have := b2 x h1
                have := hfr1.le
                have := f2.le
                omega
              nodup := by rw [← map_eraseIdx]; exact h.nodup.sublist (List.eraseIdx_sublist _ _)
              nn := fun p hp => h.nn p (List.mem_of_mem_eraseIdx hp)
              hu := hu
              hle := by rw [et]; omega
              len := by rw [el]; omega
              cst := by omega
              csl := by omega
              fr := (hfr1.step w0 f2 (by simp)).step w0 f3 (by simp)
              hl := h.hl
              hmb := h.hmb
              hc := hc
              r1 := q.get h.r1
              r5 := q.get h.r5
              r6 := q.get h.r6
              r8 := k5.get g8
              r9 := g9
              r10 := q.get h.r10
              r11 := q.get h.r11 }

def k4C : AC :=
  .seq c_wicketlaw12_LedgerRoom_S49 <| .seq c_wicketlaw12_LedgerRoom_S50 <| .seq c_wicketlaw12_LedgerRoom_S53 <| .seq c_wicketlaw12_LedgerRoom_S54 <|
  .cond (.tmp 223) (.reg [⟨(some 224), .move (.tmp 10), none⟩, ⟨(some 225), .fieldAddr 3 (.tmp 12), none⟩, ⟨(some 226), .load false 1 (.tmp 225), none⟩, ⟨(some 227), .bin .sub (.tmp 224) (.tmp 226), none⟩, ⟨(some 10), .move (.tmp 227), none⟩]) (.skip)

theorem k4_ok (hT : LdT T) (w0 : WF H0) (h : Room H0 l mb c v1 i k kv used st sl tm H) (s : Seen box o kv tm H) (hk : k ≤ 200) (hbox : H0.next ≤ box) : Done H0 l mb c v1 i k ds (run (exec T (m + 2)) nn rd k4C ⟨tm, H, ds⟩) := by
  have r6 := h.r6; have r12 := s.r12; have r10 := h.r10
  have q2 := s.tk; have q3 := s.num
  have hpos := tot_nonneg h.nn
  have hc := h.hc; have hu := h.hu; have hle := h.hle
  by_cases hmay : 0 ≤ o.n ∧ o.n ≤ used
  · obtain ⟨h1, h2⟩ := hmay
    obtain ⟨H1, e1, l1, f1⟩ := lfree_ok (m := m + 1) (n := o.n) hT h.ld h.fr.wf (by omega) h1 h2
    obtain ⟨x1, x2⟩ := h.sl2 f1
    have s1 := s.fr h.ld f1
    have q3' := s1.num
    obtain ⟨t1, g1, k1, g21, g22⟩ : ∃ t1, run (exec T (m + 2)) nn rd (.seq c_wicketlaw12_LedgerRoom_S49 c_wicketlaw12_LedgerRoom_S50) ⟨tm, H, ds⟩ = some (.normal, ⟨t1, H1, ds⟩) ∧ Keeps 16 tm t1 ∧ t1.get 21 = some (.int .i64 0) ∧ t1.get 22 = some (.bool true) := by
      simp (maxSteps := 1000000) [c_wicketlaw12_LedgerRoom_S49, c_wicketlaw12_LedgerRoom_S50, r6, r12, r10, q3, q3', e1, h1, h2]
    have w1 : IntKind.i64.wrap (used - o.n) = used - o.n := wrap_i64 (by omega) (by omega)
    have r10' := k1.get r10; have r12' := k1.get r12
    obtain ⟨t3, g3, k3, g223⟩ : ∃ t3, run (exec T (m + 2)) nn rd (.seq c_wicketlaw12_LedgerRoom_S53 c_wicketlaw12_LedgerRoom_S54) ⟨t1, H1, ds⟩ = some (.normal, ⟨t3, H1, ds⟩) ∧ Keeps 16 t1 t3 ∧ t3.get 223 = some (.bool true) := by
      simp (maxSteps := 1000000) [c_wicketlaw12_LedgerRoom_S51, c_wicketlaw12_LedgerRoom_S53, c_wicketlaw12_LedgerRoom_S54, g21, g22]
    have r10'' := k3.get r10'; have r12'' := k3.get r12'
    obtain ⟨t4, g4, k4, g10⟩ : ∃ t4, run (exec T (m + 2)) nn rd (.reg [⟨(some 224), .move (.tmp 10), none⟩, ⟨(some 225), .fieldAddr 3 (.tmp 12), none⟩, ⟨(some 226), .load false 1 (.tmp 225), none⟩, ⟨(some 227), .bin .sub (.tmp 224) (.tmp 226), none⟩, ⟨(some 10), .move (.tmp 227), none⟩]) ⟨t3, H1, ds⟩ =
        some (.normal, ⟨t4, H1, ds⟩) ∧ KeepsB 16 [10] t3 t4 ∧ t4.get 10 = some (.int .i64 (used - o.n)) := by
      simp (maxSteps := 1000000) [r10'', r12'', q3', w1]
    have hfr1 : Fr H0 H1 [] := h.fr.step w0 f1 (by intro r hr; simp only [List.mem_cons, List.not_mem_nil, or_false] at hr; rcases hr with rfl | rfl; exact h.hl; exact h.hmb)
    have kk := k1.trans k3
    have q : KeepsB 16 [10] tm t4 := fun x hx hn => (k4 x hx hn).trans (kk x hx)
    refine ⟨t4, H1, kv, used - o.n, st, sl, ?_, ?_⟩
    · rw [k4C, run_pre2, g1, seqK_normal, run_pre2, g3, seqK_normal, run_tt g223, g4]
    · have h' := h.later
      exact { h' with ld := l1, sst := x1, ssl := x2, hu := (by omega), hle := (by omega), fr := hfr1, r1 := q.get h.r1, r5 := q.get h.r5, r6 := q.get h.r6, r8 := q.get h.r8, r9 := q.get h.r9, r10 := g10, r11 := q.get h.r11 }
  · have e1 := lfree_bad (m := m + 1) (n := o.n) hT h.ld (by omega)
    obtain ⟨t1, g1, k1, g21, g22⟩ : ∃ t1, run (exec T (m + 2)) nn rd (.seq c_wicketlaw12_LedgerRoom_S49 c_wicketlaw12_LedgerRoom_S50) ⟨tm, H, ds⟩ = some (.normal, ⟨t1, H, ds⟩) ∧ Keeps 16 tm t1 ∧ t1.get 21 = some (.int .i64 2) ∧ t1.get 22 = some (.bool false) := by
      by_cases h1 : 0 ≤ o.n
      · have h2 : ¬ o.n ≤ used := fun h2 => hmay ⟨h1, h2⟩
        simp (maxSteps := 1000000) [c_wicketlaw12_LedgerRoom_S49, c_wicketlaw12_LedgerRoom_S50, r6, r12, r10, q3, e1, h1, h2]
      · simp (maxSteps := 1000000) [c_wicketlaw12_LedgerRoom_S49, c_wicketlaw12_LedgerRoom_S50, r6, r12, r10, q3, e1, h1]
    obtain ⟨t3, g3, k3, g223⟩ : ∃ t3, run (exec T (m + 2)) nn rd (.seq c_wicketlaw12_LedgerRoom_S53 c_wicketlaw12_LedgerRoom_S54) ⟨t1, H, ds⟩ = some (.normal, ⟨t3, H, ds⟩) ∧ Keeps 16 t1 t3 ∧ t3.get 223 = some (.bool false) := by
      simp (maxSteps := 1000000) [c_wicketlaw12_LedgerRoom_S51, c_wicketlaw12_LedgerRoom_S53, c_wicketlaw12_LedgerRoom_S54, g21, g22]
    have kk : Keeps 16 tm t3 := k1.trans k3
    refine ⟨t3, H, kv, used, st, sl, ?_, (h.tm (kk.le (by decide))).later⟩
    rw [k4C, run_pre2, g1, seqK_normal, run_pre2, g3, seqK_normal, run_ff g223, run_skip]
end
end Go.Proofs.Ytnpegkmoadjjeaa
