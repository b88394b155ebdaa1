/- LedgerRoom: the whole law. -/
import Derived.Test.YtnpegkmoadjjeaaLr10
namespace Go.Proofs.Ytnpegkmoadjjeaa
open Go
set_option linter.unusedVariables false
set_option linter.unusedSimpArgs false
variable {T : Nat → Option AFun} {H : Heap} {m : Nat}
section
variable {H0 : Heap} {l mb : Nat} {c : Int} {v1 : Value} {i k : Nat} {kv : List (Int × Int)} {used : Int} {st sl : Value} {tm : Tr Value} {ds : List Nat} {box : Nat} {o : Op4} {nn : Nat} {rd : Option Nat}

theorem run_pre5 {self : Self} {n : Nat} {s : St} {a b c d e x : AC} : run self n rd (.seq a (.seq b (.seq c (.seq d (.seq e x))))) s = seqK self n rd x (run self n rd (.seq a (.seq b (.seq c (.seq d e)))) s) := by
  rw [run_seq, run_seq (b := .seq b _)]
  rcases run self n rd a s with _ | ⟨q, s1⟩
  · rfl
  cases q with
  | normal =>
    rw [seqK_normal, seqK_normal, run_seq, run_seq (b := .seq c _)]
    rcases run self n rd b s1 with _ | ⟨q, s2⟩
    · rfl
    cases q with
    | normal => rw [seqK_normal, seqK_normal, run_pre3]
    | _ => rfl
  | _ => rfl

theorem rest_eq : restC = .block 4 (.seq c_wicketlaw12_LedgerRoom_S26 (.cond (.tmp 97) k1C (.seq c_wicketlaw12_LedgerRoom_S33 (.cond (.tmp 142) k2C (.seq c_wicketlaw12_LedgerRoom_S41 (.cond (.tmp 171) k3C (.seq c_wicketlaw12_LedgerRoom_S48 (.cond (.tmp 204) k4C .skip)))))))) := rfl
theorem S55_eq : c_wicketlaw12_LedgerRoom_S55 = .block 1 (.seq c_wicketlaw12_LedgerRoom_S12 (.seq c_wicketlaw12_LedgerRoom_S13 (.seq c_wicketlaw12_LedgerRoom_S21 (.seq c_wicketlaw12_LedgerRoom_S24 (.seq c_wicketlaw12_LedgerRoom_S25 restC))))) := rfl

theorem Done.block {id : Nat} {X : Option (AExit × St)} (h : Done H0 l mb c v1 i k ds X) : Done H0 l mb c v1 i k ds (blockK id X) := by
  obtain ⟨tm', H', kv', used', st', sl', rfl, hr⟩ := h
  exact ⟨tm', H', kv', used', st', sl', rfl, hr⟩

theorem rest_ok (hT : LdT T) (w0 : WF H0) (h : Room H0 l mb c v1 i k kv used st sl tm H) (s : Seen box o kv tm H) (hk : k ≤ 200) (hbox : H0.next ≤ box) (r96 : tm.get 96 = some (.int .i64 o.kind)) :
    Done H0 l mb c v1 i k ds (run (exec T (m + 2)) nn rd restC ⟨tm, H, ds⟩) := by
  rw [rest_eq, run_block]
  refine Done.block ?_
  by_cases e1 : o.kind = 1
  · obtain ⟨t1, g1, k1, g⟩ : ∃ t1, run (exec T (m + 2)) nn rd c_wicketlaw12_LedgerRoom_S26 ⟨tm, H, ds⟩ = some (.normal, ⟨t1, H, ds⟩) ∧ Keeps 16 tm t1 ∧ t1.get 97 = some (.bool true) := by
      simp [c_wicketlaw12_LedgerRoom_S26, r96, e1]
    rw [run_seq, g1, seqK_normal, run_tt g]
    exact k1_ok hT w0 (h.tm (k1.le (by decide))) (s.regs k1) hk hbox
  obtain ⟨t1, g1, k1, g, r96⟩ : ∃ t1, run (exec T (m + 2)) nn rd c_wicketlaw12_LedgerRoom_S26 ⟨tm, H, ds⟩ = some (.normal, ⟨t1, H, ds⟩) ∧ Keeps 16 tm t1 ∧ t1.get 97 = some (.bool false) ∧ t1.get 96 = some (.int .i64 o.kind) := by
    simp [c_wicketlaw12_LedgerRoom_S26, r96, e1]
  rw [run_seq, g1, seqK_normal, run_ff g]
  by_cases e2 : o.kind = 2
  · obtain ⟨t2, g2, k2, g⟩ : ∃ t2, run (exec T (m + 2)) nn rd c_wicketlaw12_LedgerRoom_S33 ⟨t1, H, ds⟩ = some (.normal, ⟨t2, H, ds⟩) ∧ Keeps 16 t1 t2 ∧ t2.get 142 = some (.bool true) := by
      simp [c_wicketlaw12_LedgerRoom_S33, r96, e2]
    rw [run_seq, g2, seqK_normal, run_tt g]
    have kk := k1.trans k2
    exact k2_ok hT w0 (h.tm (kk.le (by decide))) (s.regs kk) hk hbox
  obtain ⟨t2, g2, k2, g, r96⟩ : ∃ t2, run (exec T (m + 2)) nn rd c_wicketlaw12_LedgerRoom_S33 ⟨t1, H, ds⟩ = some (.normal, ⟨t2, H, ds⟩) ∧ Keeps 16 t1 t2 ∧ t2.get 142 = some (.bool false) ∧ t2.get 96 = some (.int .i64 o.kind) := by
    simp [c_wicketlaw12_LedgerRoom_S33, r96, e2]
  rw [run_seq, g2, seqK_normal, run_ff g]
  by_cases e3 : o.kind = 3
  · obtain ⟨t3, g3, k3, g⟩ : ∃ t3, run (exec T (m + 2)) nn rd c_wicketlaw12_LedgerRoom_S41 ⟨t2, H, ds⟩ = some (.normal, ⟨t3, H, ds⟩) ∧ Keeps 16 t2 t3 ∧ t3.get 171 = some (.bool true) := by
      simp [c_wicketlaw12_LedgerRoom_S41, r96, e3]
    rw [run_seq, g3, seqK_normal, run_tt g]
    have kk := (k1.trans k2).trans k3
    exact k3_ok hT w0 (h.tm (kk.le (by decide))) (s.regs kk) hk hbox
  obtain ⟨t3, g3, k3, g, r96⟩ : ∃ t3, run (exec T (m + 2)) nn rd c_wicketlaw12_LedgerRoom_S41 ⟨t2, H, ds⟩ = some (.normal, ⟨t3, H, ds⟩) ∧ Keeps 16 t2 t3 ∧ t3.get 171 = some (.bool false) ∧ t3.get 96 = some (.int .i64 o.kind) := by
    simp [c_wicketlaw12_LedgerRoom_S41, r96, e3]
  rw [run_seq, g3, seqK_normal, run_ff g]
  by_cases e4 : o.kind = 4
  · obtain ⟨t4, g4, k4, g⟩ : ∃ t4, run (exec T (m + 2)) nn rd c_wicketlaw12_LedgerRoom_S48 ⟨t3, H, ds⟩ = some (.normal, ⟨t4, H, ds⟩) ∧ Keeps 16 t3 t4 ∧ t4.get 204 = some (.bool true) := by
      simp [c_wicketlaw12_LedgerRoom_S48, r96, e4]
    rw [run_seq, g4, seqK_normal, run_tt g]
    have kk := ((k1.trans k2).trans k3).trans k4
    exact k4_ok hT w0 (h.tm (kk.le (by decide))) (s.regs kk) hk hbox
  obtain ⟨t4, g4, k4, g⟩ : ∃ t4, run (exec T (m + 2)) nn rd c_wicketlaw12_LedgerRoom_S48 ⟨t3, H, ds⟩ = some (.normal, ⟨t4, H, ds⟩) ∧ Keeps 16 t3 t4 ∧ t4.get 204 = some (.bool false) := by
    simp [c_wicketlaw12_LedgerRoom_S48, r96, e4]
  rw [run_seq, g4, seqK_normal, run_ff g, run_skip]
  have kk := ((k1.trans k2).trans k3).trans k4
  exact ⟨_, _, _, _, _, _, rfl, (h.tm (kk.le (by decide))).later⟩

theorem room_loop (hT : LdT T) (w0 : WF H0) {n : Nat} (hm : 300 ≤ m) (hv : ∀ i, i < n → ∃ o : Op4, ∃ b0 sp, v1 = .slice (some ⟨b0, 0, sp⟩) n n ∧ ∀ H, Fr H0 H [] → readCells H b0 (i * 4) 4 = some o.cells) {a : Option Addr} (hform : v1 = .slice a n n)
    (h : Room H0 l mb c v1 0 0 kv used st sl tm H) :
    ∃ e s', loopN (run (exec T (m + 2)) (m + 2) none c_wicketlaw12_LedgerRoom_L56) (m + 2) ⟨tm, H, ds⟩ = some (e, s') ∧ e ≠ .normal ∧ (e = .exit 0 ∧ s'.ds = ds ∧ Fr H0 s'.h []) := by
  refine loopN_inv (I := fun j s => ∃ i tm H kv used st sl, s = ⟨tm, H, ds⟩ ∧ Room H0 l mb c v1 i i kv used st sl tm H ∧ i ≤ n ∧ i ≤ 150 ∧ j = min n 150 - i) ?_ (min n 150) _ _ ⟨0, tm, H, kv, used, st, sl, rfl, h, by omega, by omega, by omega⟩ (by omega)
  rintro j _ ⟨i, tm, H, kv, used, st, sl, rfl, h, hi, hi2, hj⟩
  have r1 := h.r1; have r11 := h.r11
  rw [hform] at r1
  by_cases hgo : i < n ∧ i < 150
  · have g1 : (i : Int) < n := by omega
    have g2 : (i : Int) < 150 := by omega
    obtain ⟨t1, e1, k1⟩ : ∃ t1, run (exec T (m + 2)) (m + 2) none c_wicketlaw12_LedgerRoom_S11 ⟨tm, H, ds⟩ = some (.normal, ⟨t1, H, ds⟩) ∧ Keeps 16 tm t1 := by
      simp [c_wicketlaw12_LedgerRoom_S10, c_wicketlaw12_LedgerRoom_S11, goInt, r1, r11, g1, g2, hgo.1, hgo.2]
    obtain ⟨o, b0, sp, hv1, hr⟩ := hv i hgo.1
    have h1 := h.tm (k1.le (by decide))
    obtain ⟨t2, box, H2, e2, h2, s2, hbox, r96⟩ := prefix_ok (m := m + 1) (ds := ds) hT w0 h1 (by omega) (by omega) (o := o) ⟨b0, sp, hv1, hr _ h.fr⟩ hgo.1 (by omega)
    obtain ⟨t3, H3, kv3, used3, st3, sl3, e3, h3⟩ := rest_ok (m := m) (nn := m + 2) (rd := none) (ds := ds) hT w0 h2 s2 (by omega) hbox r96
    have r11' := h3.r11
    have w1 : IntKind.i64.wrap ((i : Int) + 1) = ((i + 1 : Nat) : Int) := by rw [wrap_i64 (by omega) (by omega)]; rfl
    obtain ⟨t4, e4, k4, g11⟩ : ∃ t4, run (exec T (m + 2)) (m + 2) none (.reg [⟨(some 52), .move (.tmp 11), none⟩, ⟨(some 53), .bin .add (.tmp 52) (.const (.int .i64 1)), none⟩, ⟨(some 11), .move (.tmp 53), none⟩]) ⟨t3, H3, ds⟩ =
        some (.normal, ⟨t4, H3, ds⟩) ∧ KeepsB 16 [11] t3 t4 ∧ t4.get 11 = some (.int .i64 ((i + 1 : Nat) : Int)) := by
      simp [-Int.natCast_add, r11', w1]
    refine ⟨.normal, ⟨t4, H3, ds⟩, ?_, .inl ⟨rfl, min n 150 - (i + 1), by omega, i + 1, t4, H3, kv3, used3, st3, sl3, rfl, ?_, by omega, by omega, rfl⟩⟩
    · have e55 : run (exec T (m + 2)) (m + 2) none c_wicketlaw12_LedgerRoom_S55 ⟨t1, H, ds⟩ = some (.normal, ⟨t3, H3, ds⟩) := by
        rw [S55_eq, run_block, run_pre5]
        show blockK 1 (seqK _ _ _ restC (run (exec T (m + 2)) (m + 2) none prefixC _)) = _
        rw [e2, seqK_normal, e3]; rfl
      rw [c_wicketlaw12_LedgerRoom_L56, run_seq, e1, seqK_normal, run_seq, e55, seqK_normal]
      exact e4
    · exact { h3 with r1 := k4.get h3.r1, r5 := k4.get h3.r5, r6 := k4.get h3.r6, r8 := k4.get h3.r8, r9 := k4.get h3.r9, r10 := k4.get h3.r10, r11 := g11 }
  · obtain ⟨t1, e1⟩ : ∃ t1, run (exec T (m + 2)) (m + 2) none c_wicketlaw12_LedgerRoom_S11 ⟨tm, H, ds⟩ = some (.exit 0, ⟨t1, H, ds⟩) := by
      by_cases hn : i < n
      · have g1 : (i : Int) < n := by omega
        have g2 : ¬ (i : Int) < 150 := by omega
        have g3 : ¬ i < 150 := by omega
        simp [c_wicketlaw12_LedgerRoom_S10, c_wicketlaw12_LedgerRoom_S11, goInt, r1, r11, g1, g2, hn, g3]
      · have g1 : ¬ (i : Int) < n := by omega
        simp [c_wicketlaw12_LedgerRoom_S10, c_wicketlaw12_LedgerRoom_S11, goInt, r1, r11, g1, hn]
    exact ⟨.exit 0, ⟨t1, H, ds⟩, by rw [c_wicketlaw12_LedgerRoom_L56, run_seq, e1]; rfl, .inr ⟨by simp, rfl, rfl, h.fr⟩⟩
end

structure LrT (T : Nat → Option AFun) : Prop extends LdT T where
  law : T k_wicketlaw12_LedgerRoom = some c_wicketlaw12_LedgerRoom
  awake : ∀ n H, exec T (n + 1) (.fn k_wicketlaw12_awake) [] H = some (.bool true, H)

theorem ledgerRoom_ok (hT : LrT T) (wf : WF H) {v : Value} {n : Nat} {cs : List Value} (hv : InSl H 4 v n cs) (hops : ∀ i, i < n → ∃ o : Op4, (cs.drop (i * 4)).take 4 = o.cells) (cap : Int) (hm : 300 ≤ m) :
    ∃ H', exec T (m + 3) (.fn k_wicketlaw12_LedgerRoom) [.int .i64 cap, v] H = some (.bool true, H') ∧ Fr H H' [] := by
  obtain ⟨a, cc, hform0⟩ := hv.form
  have hform : v = .slice a n n := by cases hv with
    | empty => cases hform0; rfl
    | full hb hl => cases hform0; rfl
  clear hform0
  obtain ⟨c, hc1, hc2, hc⟩ : ∃ c : Int, 2 ≤ c ∧ c ≤ 64 ∧ c = ((cap.tmod 63 + 63).tmod 63) + 2 := by
    have h1 := Int.tmod_lt_of_pos cap (b := 63) (by omega)
    have h2 := Int.lt_tmod_of_pos cap (b := 63) (by omega)
    have h3 := Int.tmod_lt_of_pos (cap.tmod 63 + 63) (b := 63) (by omega)
    have h4 := Int.tmod_nonneg (a := cap.tmod 63 + 63) 63 (by omega)
    exact ⟨_, by omega, by omega, rfl⟩
  have b1 := Int.tmod_lt_of_pos cap (b := 63) (by omega)
  have b2 := Int.lt_tmod_of_pos cap (b := 63) (by omega)
  have w1 : IntKind.i64.wrap (cap.tmod 63 + 63) = cap.tmod 63 + 63 := wrap_i64 (by omega) (by omega)
  have w2 : IntKind.i64.wrap ((cap.tmod 63 + 63).tmod 63 + 2) = c := by rw [wrap_i64 (by omega) (by omega), hc]
  obtain ⟨H1, x1, l1, f1⟩ := lnew_ok (m := m + 1) hT.toLdT hc1 hc2 wf
  have aw := hT.awake (m + 1) H1
  obtain ⟨t1, e1, y1, y5⟩ : ∃ t1, run (exec T (m + 2)) (m + 2) none (.seq c_wicketlaw12_LedgerRoom_S0 c_wicketlaw12_LedgerRoom_S1) ⟨initTm 0 .nil [.int .i64 cap, v], H, []⟩ = some (.normal, ⟨t1, H, []⟩) ∧ t1.get 1 = some v ∧ t1.get 5 = some (.int .i64 c) := by
    simp (disch := first | omega | (simp; omega) | (simp; done) | fail) [c_wicketlaw12_LedgerRoom_S0, c_wicketlaw12_LedgerRoom_S1, binK_rem, w1, w2, hform]
  obtain ⟨t2, e2, z1, z5, z6⟩ : ∃ t2, run (exec T (m + 2)) (m + 2) none (.seq c_wicketlaw12_LedgerRoom_S2 c_wicketlaw12_LedgerRoom_S5) ⟨t1, H, []⟩ = some (.normal, ⟨t2, H1, []⟩) ∧ t2.get 1 = some v ∧ t2.get 5 = some (.int .i64 c) ∧ t2.get 6 = some (.pointer (some ⟨H.next + 1, 0, none⟩)) := by
    simp [c_wicketlaw12_LedgerRoom_S2, c_wicketlaw12_LedgerRoom_S3, c_wicketlaw12_LedgerRoom_S4, c_wicketlaw12_LedgerRoom_S5, y1, y5, x1, aw]
  obtain ⟨t3, e3, u1, u5, u6, u8, u9, u10⟩ : ∃ t3, run (exec T (m + 2)) (m + 2) none (.seq c_wicketlaw12_LedgerRoom_S6 (.seq c_wicketlaw12_LedgerRoom_S7 c_wicketlaw12_LedgerRoom_S8)) ⟨t2, H1, []⟩ = some (.normal, ⟨t3, H1, []⟩) ∧ t3.get 1 = some v ∧ t3.get 5 = some (.int .i64 c) ∧
      t3.get 6 = some (.pointer (some ⟨H.next + 1, 0, none⟩)) ∧ t3.get 8 = some (.slice none 0 0) ∧ t3.get 9 = some (.slice none 0 0) ∧ t3.get 10 = some (.int .i64 0) := by
    simp [c_wicketlaw12_LedgerRoom_S6, c_wicketlaw12_LedgerRoom_S7, c_wicketlaw12_LedgerRoom_S8, z1, z5, z6]
  obtain ⟨t4, e4, k4, u11⟩ : ∃ t4, run (exec T (m + 2)) (m + 2) none c_wicketlaw12_LedgerRoom_S9 ⟨t3, H1, []⟩ = some (.normal, ⟨t4, H1, []⟩) ∧ Keeps 11 t3 t4 ∧ t4.get 11 = some (.int .i64 (0 : Nat)) := by
    simp [c_wicketlaw12_LedgerRoom_S9]
  have room : Room H (H.next + 1) H.next c v 0 0 [] 0 (.slice none 0 0) (.slice none 0 0) t4 H1 :=
    { ld := l1, sst := .empty, ssl := .empty, dis := by simp [blk], bst := by simp [blk], bsl := by simp [blk], nodup := by simp, nn := by simp, hu := by omega, hle := by simp [tot]; omega, len := by simp, cst := by simp [capOf], csl := by simp [capOf],
      fr := f1, hl := by omega, hmb := by omega, hc := ⟨hc1, hc2⟩, r1 := k4.get u1, r5 := k4.get u5, r6 := k4.get u6, r8 := k4.get u8, r9 := k4.get u9, r10 := k4.get u10, r11 := u11 }
  obtain ⟨ex, s5, e5, _, rfl, hds, f5⟩ := room_loop (m := m) (ds := []) hT.toLdT wf (n := n) hm (fun i hi => by
    obtain ⟨o, ho⟩ := hops i hi
    obtain ⟨b, rfl, hr⟩ := hv.read hi
    refine ⟨o, b, none, rfl, fun H' f => ?_⟩
    obtain ⟨b', hb', hr'⟩ := (hv.fr f).read hi
    cases hb'
    rw [hr' _ _ (by omega), ho]) hform room
  obtain ⟨t5, H5, ds5⟩ := s5
  simp only at hds f5
  subst hds
  refine ⟨H5, ?_, f5⟩
  have e57 : run (exec T (m + 2)) (m + 2) none c_wicketlaw12_LedgerRoom_S57 ⟨t3, H1, []⟩ = some (.normal, ⟨t5, H5, []⟩) := by
    rw [c_wicketlaw12_LedgerRoom_S57, run_seq, e4, seqK_normal, run_block, run_loop, e5]; rfl
  rw [exec_fn hT.law, run_pre2, e1, seqK_normal, run_pre2, e2, seqK_normal, run_pre3, e3, seqK_normal, run_seq, e57, seqK_normal]
  simp [c_wicketlaw12_LedgerRoom_S58, endOf, takeAll, results?, resOf, endVal]
end Go.Proofs.Ytnpegkmoadjjeaa
