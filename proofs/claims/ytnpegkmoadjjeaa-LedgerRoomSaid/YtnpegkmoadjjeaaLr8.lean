/- LedgerRoom: Reserve. -/
import Derived.Test.YtnpegkmoadjjeaaLr7
namespace Go.Proofs.Ytnpegkmoadjjeaa
open Go
set_option linter.unusedVariables false
set_option linter.unusedSimpArgs false
variable {T : Nat → Option AFun} {H : Heap} {m : Nat}
section
variable {H0 : Heap} {l mb : Nat} {c : Int} {v1 : Value} {i k : Nat} {kv : List (Int × Int)} {used : Int} {st sl : Value} {tm : Tr Value} {ds : List Nat} {box : Nat} {o : Op4} {nn : Nat} {rd : Option Nat}

theorem run_tt {self : Self} {n t : Nat} {a b : AC} (h : tm.get t = some (.bool true)) : run self n rd (.cond (.tmp t) a b) ⟨tm, H, ds⟩ = run self n rd a ⟨tm, H, ds⟩ := by simp [h]
theorem run_ff {self : Self} {n t : Nat} {a b : AC} (h : tm.get t = some (.bool false)) : run self n rd (.cond (.tmp t) a b) ⟨tm, H, ds⟩ = run self n rd b ⟨tm, H, ds⟩ := by simp [h]

/-- One step is done. -/
def Done (H0 : Heap) (l mb : Nat) (c : Int) (v1 : Value) (i k : Nat) (ds : List Nat) (X : Option (AExit × St)) : Prop :=
  ∃ tm' H' kv' used' st' sl', X = some (.normal, ⟨tm', H', ds⟩) ∧ Room H0 l mb c v1 i (k + 1) kv' used' st' sl' tm' H'

theorem Room.later (h : Room H0 l mb c v1 i k kv used st sl tm H) : Room H0 l mb c v1 i (k + 1) kv used st sl tm H :=
  { h with len := by have := h.len; omega, cst := by have := h.cst; omega, csl := by have := h.csl; omega }

theorem atOf_none {t : Int} (h : fidx t kv 0 = none) : atOf t kv = -1 := by simp [atOf, h]
theorem atOf_some {t : Int} {j : Nat} {b : Int} (h : fidx t kv 0 = some (j, b)) : atOf t kv = j := by simp [atOf, h]

def k1C : AC :=
  .seq c_wicketlaw12_LedgerRoom_S27 <| .seq c_wicketlaw12_LedgerRoom_S28 <| .seq c_wicketlaw12_LedgerRoom_S31 <| .seq c_wicketlaw12_LedgerRoom_S32 <| .cond (.tmp 131) appendC (.skip)

theorem k1_ok (hT : LdT T) (w0 : WF H0) (h : Room H0 l mb c v1 i k kv used st sl tm H) (s : Seen box o kv tm H) (hk : k ≤ 200) (hbox : H0.next ≤ box) : Done H0 l mb c v1 i k ds (run (exec T (m + 2)) nn rd k1C ⟨tm, H, ds⟩) := by
  have r6 := h.r6; have r12 := s.r12
  have q2 := s.tk; have q3 := s.num
  have hpos := tot_nonneg h.nn
  have hc := h.hc; have hu := h.hu; have hle := h.hle
  by_cases hmay : o.ticket ≠ 0 ∧ 1 ≤ o.n ∧ atOf o.ticket kv < 0 ∧ o.n ≤ c - used - tot kv
  · obtain ⟨h1, h2, h3, h4⟩ := hmay
    have hf : fidx o.ticket kv 0 = none := by
      cases hx : fidx o.ticket kv 0 with
      | none => rfl
      | some p => obtain ⟨j, b⟩ := p; rw [atOf_some hx] at h3; omega
    obtain ⟨H1, e1, l1, f1⟩ := lreserve_ok (m := m) hT h.ld h.fr.wf (by omega) (by omega) (by omega) h1 h2 hf h4
    obtain ⟨t1, g1, k1, g16⟩ : ∃ t1, run (exec T (m + 2)) nn rd c_wicketlaw12_LedgerRoom_S27 ⟨tm, H, ds⟩ = some (.normal, ⟨t1, H1, ds⟩) ∧ Keeps 16 tm t1 ∧ t1.get 16 = some (.int .i64 0) := by
      simp (maxSteps := 1000000) [c_wicketlaw12_LedgerRoom_S27, r6, r12, q2, q3, e1]
    have s1 := (s.fr h.ld f1).regs k1
    obtain ⟨t2, g2, k2, g17⟩ := may1 (m := m + 2) (T := T) (ds := ds) (nn := nn) (rd := rd) s1 (k1.get h.r5) (k1.get h.r10) hc hu hpos hle
    rw [decide_eq_true (⟨h1, h2, h3, h4⟩ : o.ticket ≠ 0 ∧ 1 ≤ o.n ∧ atOf o.ticket kv < 0 ∧ o.n ≤ c - used - tot kv)] at g17
    have g16' := k2.get g16
    obtain ⟨t3, g3, k3, g131⟩ : ∃ t3, run (exec T (m + 2)) nn rd (.seq c_wicketlaw12_LedgerRoom_S31 c_wicketlaw12_LedgerRoom_S32) ⟨t2, H1, ds⟩ = some (.normal, ⟨t3, H1, ds⟩) ∧ Keeps 18 t2 t3 ∧ t3.get 131 = some (.bool true) := by
      simp (maxSteps := 1000000) [c_wicketlaw12_LedgerRoom_S29, c_wicketlaw12_LedgerRoom_S31, c_wicketlaw12_LedgerRoom_S32, g16', g17]
    have kk : Keeps 16 tm t3 := (k1.trans (k2.le (by decide))).trans (k3.le (by decide))
    obtain ⟨x1, x2⟩ := h.sl2 f1
    obtain ⟨n1, n2, n3, n4⟩ := h.ns
    obtain ⟨t4, H2, st', sl', g4, k4, g8, g9, f2, y1, y2, y3, y4, y5, y6, y7⟩ := appendC_ok (T := T) (m := m + 2) (ds := ds) (nn := nn) (rd := rd) f1.wf x1 x2 h.dis s1.hb (by have := h.len; omega) (kk.get h.r8) (kk.get h.r9) (kk.get r12)
    have hfr1 : Fr H0 H1 [] := h.fr.step w0 f1 (by intro r hr; simp only [List.mem_cons, List.not_mem_nil, or_false] at hr; rcases hr with rfl | rfl; exact h.hl; exact h.hmb)
    have et : tot (kv ++ [(o.ticket, o.n)]) = tot kv + o.n := by simp [tot_append, tot]
    have q : KeepsB 16 [8, 9] tm t4 := fun j hj hn => (k4 j hj hn).trans (kk j hj)
    refine ⟨t4, H2, kv ++ [(o.ticket, o.n)], used, st', sl', ?_, ?_⟩
    · rw [k1C, run_seq, g1, seqK_normal, run_seq, g2, seqK_normal, run_pre2, g3, seqK_normal, run_tt g131]
      exact g4
    · exact { ld := by rw [et]; exact l1.fr f2 (by simp [n1, n2]) (by simp [n3, n4])
              sst := by simpa using y1
              ssl := by simpa using y2
              dis := y3
              bst := fun b hb => by
                rcases y4 b hb with h5 | h5
                · exact h.bst b h5
                · have := hfr1.le; omega
              bsl := fun b hb => by
                rcases y5 b hb with h5 | h5
                · exact h.bsl b h5
                · have := hfr1.le; omega
              nodup := by
                rw [List.map_append, List.map_cons, List.map_nil]
                have := fidx_none.1 hf
                refine List.nodup_append.2 ⟨h.nodup, by simp, ?_⟩
                intro a ha b hb
                simp only [List.mem_singleton] at hb
                obtain ⟨p, hp, rfl⟩ := List.mem_map.1 ha
                rw [hb]; exact this p hp
              nn := fun p hp => by
                rcases List.mem_append.1 hp with h5 | h5
                · exact h.nn p h5
                · simp only [List.mem_singleton] at h5; subst h5; show 0 ≤ o.n; omega
              hu := hu
              hle := by rw [et]; omega
              len := by have := h.len; simp; omega
              cst := by have := h.len; have := h.cst; omega
              csl := by have := h.len; have := h.csl; omega
              fr := hfr1.step w0 f2 (by
                intro r hr
                rcases List.mem_append.1 hr with h5 | h5
                · exact h.bst r h5
                · exact h.bsl r h5)
              hl := h.hl
              hmb := h.hmb
              hc := hc
              r1 := q.get h.r1
              r5 := q.get h.r5
              r6 := q.get h.r6
              r8 := g8
              r9 := g9
              r10 := q.get h.r10
              r11 := q.get h.r11 }
  · obtain ⟨e, he, e1⟩ := lreserve_bad (m := m) (t := o.ticket) (n := o.n) hT h.ld (by omega) (by omega) (by omega) (by
      by_cases h1 : o.ticket = 0
      · exact .inl h1
      by_cases h2 : o.n < 1
      · exact .inr (.inl h2)
      by_cases h4 : c - used - tot kv < o.n
      · exact .inr (.inr (.inr h4))
      refine .inr (.inr (.inl ?_))
      cases hx : fidx o.ticket kv 0 with
      | none => exact absurd ⟨h1, by omega, by rw [atOf_none hx]; decide, by omega⟩ hmay
      | some p => rfl)
    obtain ⟨t1, g1, k1, g16⟩ : ∃ t1, run (exec T (m + 2)) nn rd c_wicketlaw12_LedgerRoom_S27 ⟨tm, H, ds⟩ = some (.normal, ⟨t1, H, ds⟩) ∧ Keeps 16 tm t1 ∧ t1.get 16 = some (.int .i64 e) := by
      simp (maxSteps := 1000000) [c_wicketlaw12_LedgerRoom_S27, r6, r12, q2, q3, e1]
    have s1 := s.regs k1
    obtain ⟨t2, g2, k2, g17⟩ := may1 (m := m + 2) (T := T) (ds := ds) (nn := nn) (rd := rd) s1 (k1.get h.r5) (k1.get h.r10) hc hu hpos hle
    rw [decide_eq_false hmay] at g17
    have g16' := k2.get g16
    obtain ⟨t3, g3, k3, g131⟩ : ∃ t3, run (exec T (m + 2)) nn rd (.seq c_wicketlaw12_LedgerRoom_S31 c_wicketlaw12_LedgerRoom_S32) ⟨t2, H, ds⟩ = some (.normal, ⟨t3, H, ds⟩) ∧ Keeps 18 t2 t3 ∧ t3.get 131 = some (.bool false) := by
      simp (maxSteps := 1000000) [c_wicketlaw12_LedgerRoom_S29, c_wicketlaw12_LedgerRoom_S31, c_wicketlaw12_LedgerRoom_S32, g16', g17, he]
    have kk : Keeps 16 tm t3 := (k1.trans (k2.le (by decide))).trans (k3.le (by decide))
    refine ⟨t3, H, kv, used, st, sl, ?_, (h.tm (kk.le (by decide))).later⟩
    rw [k1C, run_seq, g1, seqK_normal, run_seq, g2, seqK_normal, run_pre2, g3, seqK_normal, run_ff g131, run_skip]
end
end Go.Proofs.Ytnpegkmoadjjeaa
