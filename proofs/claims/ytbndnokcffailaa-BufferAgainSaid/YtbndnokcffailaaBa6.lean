/- BufferAgain: plain facts, and the first loop. -/
import Derived.Test.YtbndnokcffailaaBa5
namespace Go.Proofs.Ytbndnokcffailaa
open Go
set_option linter.unusedVariables false
set_option linter.unusedSimpArgs false
variable {T : Nat → Option AFun} {H : Heap} {m : Nat} {v : Value} {L : List Int} {t : Int}

theorem img_at {M : List (Int × List Int)} (hM : ∀ p ∈ M, p.2.length = 32) {j : Nat} (hj : j < M.length) : ((M.flatMap img).drop (j * 33)).take 33 = img M[j] := by
  have : ∀ N : List (Int × List Int), (∀ p ∈ N, p.2.length = 32) → N.flatMap img = N.flatMap (fun p => (img p).take 33 ++ List.replicate (33 - (img p).length) (.int .i64 0)) := by
    intro N
    induction N with
    | nil => intro _; rfl
    | cons x N ih =>
      intro hN
      have hx := img_length (hN x (List.mem_cons_self ..))
      rw [List.flatMap_cons, List.flatMap_cons, ih fun p hp => hN p (List.mem_cons_of_mem _ hp), hx, List.take_of_length_le (by omega)]
      simp
  rw [this M hM, flat_at (z := M[j]) (fun z => by simp; omega) (List.getElem?_eq_getElem hj), img_length (hM _ (List.getElem_mem hj)), List.take_of_length_le (by rw [img_length (hM _ (List.getElem_mem hj))]; exact Nat.le_refl _)]
  simp
/-- What is read of a list of images. -/
theorem Rd.img {v : Value} {M : List (Int × List Int)} (h : Rd H 33 v M.length (M.flatMap img)) (hM : ∀ p ∈ M, p.2.length = 32) {j : Nat} (hj : j < M.length) :
    ∃ b sp c, v = .slice (some ⟨b, 0, sp⟩) M.length c ∧ readCells H b (j * 33) 1 = some [.int .i64 M[j].1] ∧ readCells H b (j * 33 + 1) 32 = some (iz .u8 M[j].2) := by
  obtain ⟨b, sp, c, rfl, hr⟩ := h.read j hj
  have e := img_at hM hj
  refine ⟨b, sp, c, rfl, ?_, ?_⟩
  · rw [hr _ _ (by omega)]
    have : ((M.flatMap Go.Proofs.Ytbndnokcffailaa.img).drop (j * 33)).take 1 = (((M.flatMap Go.Proofs.Ytbndnokcffailaa.img).drop (j * 33)).take 33).take 1 := by rw [List.take_take]; rfl
    rw [this, e]; rfl
  · rw [hr _ _ (by omega)]
    have : ((M.flatMap Go.Proofs.Ytbndnokcffailaa.img).drop (j * 33 + 1)).take 32 = (((M.flatMap Go.Proofs.Ytbndnokcffailaa.img).drop (j * 33)).take 33).drop 1 := by rw [List.drop_take, List.drop_drop]
    rw [this, e]; rfl

section
variable {kv : List (Int × List Int)}
theorem mem_imgs {p : Int × List Int} : p ∈ imgs L kv ↔ p.1 ∈ L ∧ getV p.1 kv = some p.2 := by
  simp only [imgs, List.mem_filterMap, Option.map_eq_some_iff]
  constructor
  · rintro ⟨b, hb, w, hw, rfl⟩; exact ⟨hb, hw⟩
  · rintro ⟨h1, h2⟩; exact ⟨p.1, h1, p.2, h2, rfl⟩
theorem imgs_lt (hg : Good L) : (imgs L kv).Pairwise (fun p q => p.1 < q.1) := by
  refine List.Pairwise.filterMap (R := fun a b => a < b) _ ?_ (List.pairwise_iff_getElem.2 fun i j hi hj hij => hg.lt hj hij)
  intro a a' hlt b hb b' hb'
  obtain ⟨w, _, rfl⟩ := Option.map_eq_some_iff.1 hb
  obtain ⟨w', _, rfl⟩ := Option.map_eq_some_iff.1 hb'
  exact hlt
theorem imgs_nodup (hg : Good L) : ((imgs L kv).map (·.1)).Nodup := by
  have := imgs_lt (kv := kv) hg
  refine List.pairwise_map.2 (this.imp ?_)
  intro a b h he
  omega
theorem imgs_count (hg : Good L) (hk : Kv L kv) : (imgs L kv).length = kv.length := by
  have hp : ((imgs L kv).map (·.1)).Perm (kv.map (·.1)) := by
    refine (List.perm_ext_iff_of_nodup (imgs_nodup hg) hk.nodup).2 fun a => ?_
    simp only [List.mem_map]
    constructor
    · rintro ⟨p, hp, rfl⟩
      obtain ⟨h1, h2⟩ := mem_imgs.1 hp
      exact ⟨_, (Kv.get_iff hk.nodup).1 h2, rfl⟩
    · rintro ⟨p, hp, rfl⟩
      exact ⟨p, mem_imgs.2 ⟨hk.sub p hp, (Kv.get_iff hk.nodup).2 hp⟩, rfl⟩
  have := hp.length_eq
  simpa using this
theorem imgs_le : (imgs L kv).length ≤ L.length := List.length_filterMap_le _ _

/-- In which order they are written. -/
def order (tn : Bool) (M : List (Int × List Int)) : List (Int × List Int) := if tn then M.reverse else M
theorem order_length {tn : Bool} {M : List (Int × List Int)} : (order tn M).length = M.length := by cases tn <;> simp [order]
theorem mem_order {tn : Bool} {M : List (Int × List Int)} {p : Int × List Int} : p ∈ order tn M ↔ p ∈ M := by cases tn <;> simp [order]
theorem order_kv {tn : Bool} (hg : Good L) (hk : Kv L kv) : Kv L (order tn (imgs L kv)) := by
  refine ⟨?_, fun p hp => (mem_imgs.1 (mem_order.1 hp)).1, fun p hp => imgs_len hk p (mem_order.1 hp)⟩
  have := imgs_nodup (kv := kv) hg
  cases tn
  · exact this
  · simp only [order, if_true, List.map_reverse]
    exact List.pairwise_reverse.2 (this.imp fun h he => h he.symm)
theorem order_get {tn : Bool} (hg : Good L) (hk : Kv L kv) (ht : t ∈ L) : getV t (order tn (imgs L kv)) = getV t kv := by
  have h1 := (order_kv (tn := tn) hg hk).nodup
  apply Option.ext
  intro w
  rw [Kv.get_iff h1, mem_order, mem_imgs]
  simp [ht]
theorem imgs_order {tn : Bool} (hg : Good L) (hk : Kv L kv) : imgs L (order tn (imgs L kv)) = imgs L kv := by
  have : ∀ (kv2 : List (Int × List Int)), (∀ b ∈ L, getV b kv2 = getV b kv) → ∀ M : List Int, (∀ b ∈ M, b ∈ L) → imgs M kv2 = imgs M kv := by
    intro kv2 h2 M
    induction M with
    | nil => intro _; rfl
    | cons b M ih =>
      intro hM
      have hb := h2 b (hM b (List.mem_cons_self ..))
      have := ih fun x hx => hM x (List.mem_cons_of_mem _ hx)
      simp only [imgs, List.filterMap_cons, hb] at this ⊢
      rw [this]
  exact this _ (fun b hb => order_get hg hk hb) L fun b hb => hb
theorem Kv.take (h : Kv L kv) {i : Nat} : Kv L (kv.take i) :=
  ⟨by rw [List.map_take]; exact h.nodup.sublist (List.take_sublist _ _), fun p hp => h.sub p (List.mem_of_mem_take hp), fun p hp => h.len p (List.mem_of_mem_take hp)⟩
theorem putV_take (h : Kv L kv) {i : Nat} (hi : i < kv.length) : putV kv[i].1 kv[i].2 (kv.take i) = kv.take (i + 1) := by
  have hn : vidx kv[i].1 (kv.take i) 0 = none := by
    rw [vidx_none]
    intro p hp he
    obtain ⟨a, ha, hpa⟩ := List.getElem_of_mem hp
    have hai : a < i := by simp at ha; omega
    rw [List.getElem_take] at hpa
    have := List.pairwise_iff_getElem.1 h.nodup a i (by simp; omega) (by simpa using hi) hai
    simp only [List.getElem_map, hpa] at this
    exact this he
  rw [putV, hn, List.take_add_one, List.getElem?_eq_getElem hi]
  rfl
end

/-- The first loop. -/
theorem loop1_ok (hT : BaT T) {H0 : Heap} (w0 : WF H0) {a0 a1 : Value} {Wr : List (Int × List Int)} {tn : Bool} (i0 : InSl H0 1 a0 L.length (iz .i64 L)) (i1 : InSl H0 33 a1 Wr.length (Wr.flatMap img)) (hW : ∀ p ∈ Wr, p.2.length = 32) (hg : Good L) (hm : 200 ≤ m)
    {lb mb : Nat} {sb : Value} {tm : Tr Value} {H1 : Heap} (hb : Bf H1 lb mb sb L []) (hf : Fr H0 H1 []) (hlb : H0.next ≤ lb) (hmb : H0.next ≤ mb) (hsb : ∀ b ∈ blk sb, H0.next ≤ b)
    (r0 : tm.get 0 = some a0) (r1 : tm.get 1 = some a1) (r2 : tm.get 2 = some (.bool tn)) (r7 : tm.get 7 = some (.pointer (some ⟨lb, 0, none⟩))) (r9 : tm.get 9 = some (.int .i64 (0 : Nat))) :
    ∃ e s', loopN (run (exec T (m + 5)) (m + 5) none c_wicketlaw16_BufferAgain_L16) (m + 5) ⟨tm, H1, []⟩ = some (e, s') ∧ e ≠ .normal ∧ e = .exit 0 ∧ s'.ds = [] ∧ s'.tm.get 0 = some a0 ∧ s'.tm.get 2 = some (.bool tn) ∧ s'.tm.get 7 = some (.pointer (some ⟨lb, 0, none⟩)) ∧ Fr H0 s'.h [] ∧ ∃ kv, Bf s'.h lb mb sb L kv ∧ Kv L kv := by
  have hl := hg.2.1
  obtain ⟨aa, ac, hform⟩ := i1.form
  refine loop_up (a := 0) (n := min Wr.length 100)
    (J := fun j s => s.ds = [] ∧ s.tm.get 0 = some a0 ∧ s.tm.get 1 = some a1 ∧ s.tm.get 2 = some (.bool tn) ∧ s.tm.get 7 = some (.pointer (some ⟨lb, 0, none⟩)) ∧ s.tm.get 9 = some (.int .i64 (j : Nat)) ∧ Fr H0 s.h [] ∧ ∃ kv, Bf s.h lb mb sb L kv ∧ Kv L kv) (by omega) (Nat.zero_le _)
    ⟨rfl, r0, r1, r2, r7, r9, hf, [], hb, ⟨by simp, by simp, by simp⟩⟩ ?_ ?_
  · rintro j ⟨tm, H, ds⟩ hj ⟨hds, u0, u1, u2, u7, u9, uf, kv, ub, uk⟩
    simp only at hds u0 u1 u2 u7 u9 uf ub
    subst hds
    have hj1 : j < Wr.length := by omega
    have hj2 : j < 100 := by omega
    have hj1' : (j : Int) < Wr.length := by omega
    have hj2' : (j : Int) < 100 := by omega
    have w1 : IntKind.i64.wrap ((j : Int) + 1) = ((j + 1 : Nat) : Int) := by rw [wrap_i64 (by omega) (by omega)]; rfl
    have v0 := (i0.fr uf).toRd
    obtain ⟨bb, sp, cc, hv1, x1, x2⟩ := (i1.fr uf).toRd.img hW hj1
    have hw32 := hW _ (List.getElem_mem hj1)
    obtain ⟨t, ht0⟩ : ∃ t, t = Wr[j].1 := ⟨_, rfl⟩
    obtain ⟨w, hw0⟩ : ∃ w, w = Wr[j].2 := ⟨_, rfl⟩
    rw [← ht0] at x1
    rw [← hw0] at x2 hw32
    subst hv1
    have c1 := refHas_ok (m := m + 4) (t := t) hT.rhas v0 (by omega) (by omega)
    obtain ⟨t0, e1a, k0⟩ : ∃ t0, run (exec T (m + 5)) (m + 5) none c_wicketlaw16_BufferAgain_S7 ⟨tm, H, []⟩ = some (.normal, ⟨t0, H, []⟩) ∧ Keeps 12 tm t0 := by
      simp (maxSteps := 1000000) (disch := first | omega | (simp; omega) | (simp; done) | fail) [c_wicketlaw16_BufferAgain_S6, c_wicketlaw16_BufferAgain_S7, u1, u9, goInt, hj1, hj2, hj1', hj2']
    have s0 := k0.get u0; have s1 := k0.get u1; have s9 := k0.get u9
    obtain ⟨t1, e1, k1', q10⟩ : ∃ t1, run (exec T (m + 5)) (m + 5) none c_wicketlaw16_BufferAgain_S8 ⟨t0, H, []⟩ = some (.normal, ⟨t1, H, []⟩) ∧ Keeps 10 t0 t1 ∧ t1.get 10 = some (.bool (decide (t ∈ L))) := by
      simp (maxSteps := 1000000) (disch := first | omega | (simp; omega) | (simp; done) | fail) [c_wicketlaw16_BufferAgain_S8, s0, s1, s9, goInt, idxK_of, x1, c1]
    have k1 : Keeps 10 tm t1 := (k0.le (by decide)).trans k1'
    have q0 := k1.get u0; have q1 := k1.get u1; have q2 := k1.get u2; have q7 := k1.get u7; have q9 := k1.get u9
    -- the write
    obtain ⟨kv', H2, c2, b2, k2', f2, hget⟩ : ∃ kv' H2, exec T (m + 5) (.fn k_buffer_Buffer_Write) [.pointer (some ⟨lb, 0, none⟩), .int .i64 t, .agg ⟨iz .u8 w⟩] H = some (.int .i64 (if t ∈ L then 0 else 160), H2) ∧ Bf H2 lb mb sb L kv' ∧ Kv L kv' ∧ Fr H0 H2 [] ∧ (t ∈ L → getV t kv' = some w) := by
      by_cases ht : t ∈ L
      · obtain ⟨H2, g1, g2, g3⟩ := bwrite_ok (m := m) hT ub uf.wf hl (by omega) hw32 ht
        obtain ⟨g4, g5⟩ := uk.put ht hw32
        exact ⟨_, H2, by rw [if_pos ht]; exact g1, g2, g4, uf.step w0 g3 (by simpa using hmb), fun _ => g5⟩
      · obtain ⟨H2, g1, g2⟩ := bwrite_bad (m := m) hT ub uf.wf hl (by omega) hw32 ht
        exact ⟨kv, H2, by rw [if_neg ht]; exact g1, ub.fr g2 (by simp) (by simp) (by simp), uk, uf.step w0 g2 (by simp), fun h => absurd h ht⟩
    obtain ⟨t2, e2, kk2⟩ : ∃ t2, run (exec T (m + 5)) (m + 5) none c_wicketlaw16_BufferAgain_S11 ⟨t1, H, []⟩ = some (.normal, ⟨t2, H2, []⟩) ∧ Keeps 12 t1 t2 := by
      by_cases ht : t ∈ L
      · rw [if_pos ht] at c2
        simp (maxSteps := 1000000) (disch := first | omega | (simp; omega) | (simp; done) | fail) [c_wicketlaw16_BufferAgain_S9, c_wicketlaw16_BufferAgain_S10, c_wicketlaw16_BufferAgain_S11, q1, q7, q9, q10, idxK_of, x1, x2, c2, ht]
      · rw [if_neg ht] at c2
        simp (maxSteps := 1000000) (disch := first | omega | (simp; omega) | (simp; done) | fail) [c_wicketlaw16_BufferAgain_S9, c_wicketlaw16_BufferAgain_S10, c_wicketlaw16_BufferAgain_S11, q1, q7, q9, q10, idxK_of, x1, x2, c2, ht]
    obtain ⟨H3, c3, f3⟩ := bread_ok (m := m) (t := t) hT b2 k2' f2.wf hl (by omega)
    have hx := getV_len' (t := t) k2'
    have f4 := Fr.new (o := .cells (iz .u8 (if t ∈ L then (getV t kv').getD zero32 else zero32)) false 0) f3.wf []
    have f34 := (f2.step w0 f3 (by simp)).step w0 f4 (by simp)
    have v2 := (i1.fr f2).toRd.img hW hj1
    obtain ⟨bb2, sp2, cc2, hv2, y1, _⟩ := v2
    cases hv2
    obtain ⟨bb2, sp2, cc2, hv2, _, y2⟩ := (i1.fr f34).toRd.img hW hj1
    cases hv2
    rw [← ht0] at y1
    rw [← hw0] at y2
    have p1 := kk2.get q1; have p7 := kk2.get q7; have p9 := kk2.get q9; have p10 := kk2.get q10
    have w1' : ∀ {tm5 : Tr Value}, tm5.get 9 = some (.int .i64 (j : Nat)) → ∃ t6, run (exec T (m + 5)) (m + 5) none (.reg [⟨(some 58), .move (.tmp 9), none⟩, ⟨(some 59), .bin .add (.tmp 58) (.const (.int .i64 1)), none⟩, ⟨(some 9), .move (.tmp 59), none⟩]) ⟨tm5, H3.new (.cells (iz .u8 (if t ∈ L then (getV t kv').getD zero32 else zero32)) false 0), []⟩ =
        some (.normal, ⟨t6, H3.new (.cells (iz .u8 (if t ∈ L then (getV t kv').getD zero32 else zero32)) false 0), []⟩) ∧ KeepsB 10 [9] tm5 t6 ∧ t6.get 9 = some (.int .i64 ((j + 1 : Nat) : Int)) := by
      intro tm5 h9
      simp [-Int.natCast_add, h9, w1]
    have z0 := zero32_length
    have b4 := b2.fr (f3.step f2.wf f4 (by simp)) (by simp) (by simp) (by simp)
    obtain ⟨t3, e3, kk3⟩ : ∃ t3, run (exec T (m + 5)) (m + 5) none (.seq c_wicketlaw16_BufferAgain_S12 (.seq c_wicketlaw16_BufferAgain_S13 (.cond (.tmp 110) (.seq c_wicketlaw16_BufferAgain_S14 .ret) .skip))) ⟨t2, H2, []⟩ = some (.normal, ⟨t3, H3.new (.cells (iz .u8 (if t ∈ L then (getV t kv').getD zero32 else zero32)) false 0), []⟩) ∧ Keeps 11 t2 t3 := by
      by_cases ht : t ∈ L
      · rw [if_pos ht] at c3
        rw [hget ht] at c3 hx
        simp only [if_pos ht, hget ht, Option.getD_some] at y2 ⊢
        simp only [hget ht, Option.getD_some, Option.isSome_some] at c3 hx
        have st := st32 (H := H3) hx zero32_length
        have rd := rd32 (H := H3) hx
        have ev : eqvK (H3.new (.cells (iz .u8 w) false 0)) true (.agg (List.replicate 32 false)) (.agg ⟨iz .u8 w⟩) (.agg ⟨iz .u8 w⟩) = some (.bool false, H3.new (.cells (iz .u8 w) false 0)) := by
          simp only [eqvK, eqVals, eqCells_iz hx hx, decide_eq_true, Option.map_some, cond_true, Bool.not_true]
        simp (maxSteps := 1000000) (disch := first | omega | (simp; omega) | (simp; done) | fail) [-List.reduceReplicate, zero32_iz, c_wicketlaw16_BufferAgain_S12, c_wicketlaw16_BufferAgain_S13, c_wicketlaw16_BufferAgain_S14, p1, p7, p9, p10, idxK_of, y1, y2, c3, st, rd, ev, ht]
      · rw [if_neg ht] at c3
        simp only [if_neg ht] at y2 ⊢
        have st := st32 (H := H3) zero32_length zero32_length
        simp (maxSteps := 1000000) (disch := first | omega | (simp; omega) | (simp; done) | fail) [-List.reduceReplicate, zero32_iz, c_wicketlaw16_BufferAgain_S12, c_wicketlaw16_BufferAgain_S13, c_wicketlaw16_BufferAgain_S14, p1, p7, p9, p10, idxK_of, y1, c3, st, ht]
    obtain ⟨t4, e4, k4, q9'⟩ := w1' (kk3.get p9)
    refine ⟨.normal, ⟨t4, _, []⟩, ?_, .inl ⟨rfl, rfl, ?_, ?_, ?_, ?_, q9', f34, kv', b4, k2'⟩⟩
    · rw [c_wicketlaw16_BufferAgain_L16, run_seq]
      rw [e1a, seqK_normal, run_seq, c_wicketlaw16_BufferAgain_S15, run_block, run_seq, e1, seqK_normal, run_seq, e2, seqK_normal, e3, blockK_normal, seqK_normal]
      exact e4
    · exact k4.get (kk3.get (kk2.get q0))
    · exact k4.get (kk3.get p1)
    · exact k4.get (kk3.get (kk2.get q2))
    · exact k4.get (kk3.get p7)
  · rintro ⟨tm, H, ds⟩ ⟨hds, u0, u1, u2, u7, u9, uf, kv, ub, uk⟩
    simp only at hds u0 u1 u2 u7 u9 uf ub
    subst hds
    obtain ⟨t3, g3, k3⟩ : ∃ t3, run (exec T (m + 5)) (m + 5) none c_wicketlaw16_BufferAgain_L16 ⟨tm, H, []⟩ = some (.exit 0, ⟨t3, H, []⟩) ∧ Keeps 10 tm t3 := by
      rw [hform] at u1
      by_cases hn : Wr.length ≤ 100
      · have hmin : min Wr.length 100 = Wr.length := by omega
        rw [hmin] at u9
        simp [c_wicketlaw16_BufferAgain_L16, c_wicketlaw16_BufferAgain_S6, c_wicketlaw16_BufferAgain_S7, u1, u9, goInt]
      · have hmin : min Wr.length 100 = 100 := by omega
        rw [hmin] at u9
        have h1 : (100 : Int) < Wr.length := by omega
        have h2 : 100 < Wr.length := by omega
        simp [c_wicketlaw16_BufferAgain_L16, c_wicketlaw16_BufferAgain_S6, c_wicketlaw16_BufferAgain_S7, u1, u9, goInt, h1, h2]
    exact ⟨_, _, g3, by simp, rfl, rfl, k3.get u0, k3.get u2, k3.get u7, uf, kv, ub, uk⟩
end Go.Proofs.Ytbndnokcffailaa
