/- Buffers: Images, and what compares them. -/
import Derived.Test.YtbndnokcffailaaBa4
namespace Go.Proofs.Ytbndnokcffailaa
open Go
set_option linter.unusedVariables false
set_option linter.unusedSimpArgs false
variable {T : Nat → Option AFun} {H : Heap} {m : Nat} {v : Value} {L : List Int} {t : Int}

def img (p : Int × List Int) : List Value := .int .i64 p.1 :: iz .u8 p.2
def imgs (L : List Int) (kv : List (Int × List Int)) : List (Int × List Int) := L.filterMap fun b => (getV b kv).map fun w => (b, w)
theorem img_length {p : Int × List Int} (h : p.2.length = 32) : (img p).length = 33 := by simp [img, h]
theorem eq_img {p q : Int × List Int} (hp : p.2.length = 32) (hq : q.2.length = 32) : eqCells (List.replicate 33 false) (img p) (img q) = some (decide (p = q)) := by
  have := eqCells_iz (k := .u8) hp hq
  obtain ⟨a, b⟩ := p
  obtain ⟨c, d⟩ := q
  simp only at this hp hq
  show eqCells (false :: List.replicate 32 false) (.int .i64 a :: iz .u8 b) (.int .i64 c :: iz .u8 d) = _
  simp only [eqCells, eqCell, if_true]
  rw [this]
  by_cases h1 : a = c <;> by_cases h2 : b = d <;> simp [h1, h2]

theorem st32 {x y : List Int} (hx : x.length = 32) (hy : y.length = 32) : storeK (H.new (.cells (iz .u8 y) false 0)) 32 (.agg ⟨iz .u8 x⟩) (.pointer (some ⟨H.next, 0, none⟩)) = some (undef, H.new (.cells (iz .u8 x) false 0)) := by
  have hnew : (H.new (.cells (iz .u8 y) false 0)).get H.next = some (.cells (iz .u8 y) false 0) := by simp
  rw [storeK_ptr (by simp; exact hx) (by simp), writeCells_of hnew (by simp; omega)]
  simp [writeAt_all (cs := iz .u8 y) (vs := iz .u8 x) (by simp; omega), new_put]
theorem rd32 {x : List Int} (hx : x.length = 32) : readCells (H.new (.cells (iz .u8 x) false 0)) H.next 0 32 = some (iz .u8 x) := by rw [readCells_new (by simp; omega), List.drop_zero, take_iz hx]

/-- Both lists say the same. -/
theorem same_ok (hT : T k_wicketref16_Same = some c_wicketref16_Same) {v1 v2 : Value} {M : List (Int × List Int)} (hM : ∀ p ∈ M, p.2.length = 32) (h1 : Rd H 33 v1 M.length (M.flatMap img)) (h2 : Rd H 33 v2 M.length (M.flatMap img)) (hm : M.length < m) (hb : M.length ≤ 1000000) :
    exec T (m + 1) (.fn k_wicketref16_Same) [v1, v2] H = some (.bool true, H) := by
  obtain ⟨a, c, rfl⟩ := h1.form
  obtain ⟨a', c', rfl⟩ := h2.form
  have fl : ∀ j (hj : j < M.length), ((M.flatMap img).drop (j * 33)).take 33 = img M[j] := by
    intro j hj
    have e : M.flatMap img = M.flatMap (fun p => (img p).take 33 ++ List.replicate (33 - (img p).length) (.int .i64 0)) := by
      have : ∀ N : List (Int × List Int), (∀ p ∈ N, p.2.length = 32) → N.flatMap img = N.flatMap (fun p => (img p).take 33 ++ List.replicate (33 - (img p).length) (.int .i64 0)) := by
        intro N
        induction N with
        | nil => intro _; rfl
        | cons x N ih =>
          intro hN
          have hx := img_length (hN x (List.mem_cons_self ..))
          rw [List.flatMap_cons, List.flatMap_cons, ih fun p hp => hN p (List.mem_cons_of_mem _ hp), hx, List.take_of_length_le (by omega)]
          simp
      exact this M hM
    rw [e, flat_at (z := M[j]) (fun z => by simp; omega) (List.getElem?_eq_getElem hj), img_length (hM _ (List.getElem_mem hj)), List.take_of_length_le (by rw [img_length (hM _ (List.getElem_mem hj))]; exact Nat.le_refl _)]
    simp
  obtain ⟨t1, e1, r0, r1⟩ : ∃ t1, run (exec T m) m none (.seq c_wicketref16_Same_S0 c_wicketref16_Same_S3) ⟨initTm 0 .nil [.slice a M.length c, .slice a' M.length c'], H, []⟩ = some (.normal, ⟨t1, H, []⟩) ∧ t1.get 0 = some (.slice a M.length c) ∧ t1.get 1 = some (.slice a' M.length c') := by
    simp [c_wicketref16_Same_S0, c_wicketref16_Same_S1, c_wicketref16_Same_S2, c_wicketref16_Same_S3, goInt]
  obtain ⟨t1', e1', r0', r1', r5⟩ : ∃ t2, run (exec T m) m none c_wicketref16_Same_S4 ⟨t1, H, []⟩ = some (.normal, ⟨t2, H, []⟩) ∧ t2.get 0 = some (.slice a M.length c) ∧ t2.get 1 = some (.slice a' M.length c') ∧ t2.get 5 = some (.int .i64 (0 : Nat)) := by
    simp [c_wicketref16_Same_S4, r0, r1]
  obtain ⟨e, ⟨t2, H2, ds2⟩, e2, hne, hH, hds, rfl⟩ := loop_up (f := run (exec T m) m none c_wicketref16_Same_L10) (a := 0) (n := M.length) (m := m) (s := ⟨t1', H, []⟩)
    (J := fun j s => s.h = H ∧ s.ds = [] ∧ s.tm.get 0 = some (.slice a M.length c) ∧ s.tm.get 1 = some (.slice a' M.length c') ∧ s.tm.get 5 = some (.int .i64 (j : Nat)))
    (Q := fun e s => s.h = H ∧ s.ds = [] ∧ e = .exit 0) (by omega) (Nat.zero_le _) ⟨rfl, rfl, r0', r1', r5⟩ (by
      rintro j ⟨tm, H', ds⟩ hj ⟨hH, hds, u0, u1, u5⟩
      simp only at hH hds u0 u1 u5
      subst hH hds
      obtain ⟨b, sp, c1, hc1, hr1⟩ := h1.read j hj
      obtain ⟨b', sp', c2, hc2, hr2⟩ := h2.read j hj
      cases hc1; cases hc2
      have hb33 : j * 33 + 33 ≤ M.length * 33 := by omega
      have hr1 := hr1 (j * 33) 33 hb33
      have hr2 := hr2 (j * 33) 33 hb33
      rw [fl j hj] at hr1 hr2
      have hM' := hM _ (List.getElem_mem hj)
      have he := eq_img hM' hM'
      rw [decide_eq_true rfl] at he
      have hj' : (j : Int) < M.length := by omega
      have w1 : IntKind.i64.wrap ((j : Int) + 1) = ((j + 1 : Nat) : Int) := by rw [wrap_i64 (by omega) (by omega)]; rfl
      have ev : eqvK H' true (.agg (List.replicate 33 false)) (.agg ⟨img M[j]⟩) (.agg ⟨img M[j]⟩) = some (.bool false, H') := by
        simp only [eqvK, eqVals, he, Option.map_some, cond_true, Bool.not_true]
      obtain ⟨t3, g3, q0, q1, q5⟩ : ∃ t3, run (exec T m) m none c_wicketref16_Same_L10 ⟨tm, H', []⟩ = some (.normal, ⟨t3, H', []⟩) ∧ t3.get 0 = some (.slice (some ⟨b, 0, sp⟩) M.length c) ∧ t3.get 1 = some (.slice (some ⟨b', 0, sp'⟩) M.length c') ∧ t3.get 5 = some (.int .i64 ((j + 1 : Nat) : Int)) := by
        simp (maxSteps := 1000000) (disch := first | omega | (simp; omega) | (simp; done) | fail) [-List.reduceReplicate, -Int.natCast_add, c_wicketref16_Same_L10, c_wicketref16_Same_S5, c_wicketref16_Same_S6, c_wicketref16_Same_S7, c_wicketref16_Same_S8, c_wicketref16_Same_S9, u0, u1, u5, goInt, hj, hj', idxK_of, hr1, hr2, ev, w1]
      exact ⟨_, _, g3, .inl ⟨rfl, rfl, rfl, q0, q1, q5⟩⟩) (by
      rintro ⟨tm, H', ds⟩ ⟨hH, hds, u0, u1, u5⟩
      simp only at hH hds u0 u1 u5
      subst hH hds
      obtain ⟨t3, g3⟩ : ∃ t3, run (exec T m) m none c_wicketref16_Same_L10 ⟨tm, H', []⟩ = some (.exit 0, ⟨t3, H', []⟩) := by
        simp [-List.reduceReplicate, c_wicketref16_Same_L10, c_wicketref16_Same_S5, c_wicketref16_Same_S6, c_wicketref16_Same_S7, c_wicketref16_Same_S8, c_wicketref16_Same_S9, u0, u5, goInt]
      exact ⟨_, _, g3, by simp, rfl, rfl, rfl⟩)
  simp only at hH hds
  subst hH hds
  have e3 : run (exec T m) m none c_wicketref16_Same_S11 ⟨t1, H2, []⟩ = some (.normal, ⟨t2, H2, []⟩) := by
    rw [c_wicketref16_Same_S11, run_seq, e1', seqK_normal, run_block, run_loop, e2]; rfl
  rw [exec_fn hT, run_pre2, e1, seqK_normal, run_seq, e3]
  simp [c_wicketref16_Same_S12, endOf, takeAll, results?, resOf, endVal]

section
variable {l mb : Nat} {s : Value} {kv : List (Int × List Int)}
theorem blook (h : Bf H l mb s L kv) : lookupK H .i64 (.agg ⟨iz .u8 zero32⟩) true (.map (some mb)) (.int .i64 t) = some (.tuple #[.agg ⟨iz .u8 ((getV t kv).getD zero32)⟩, .bool (getV t kv).isSome], H) := by
  cases hx : vidx t kv 0 with
  | none => rw [lookupK_none h.mp (by rw [findKv_bvs, hx]; rfl)]; simp [getV, hx]
  | some p =>
    obtain ⟨i, b⟩ := p
    rw [lookupK_some (i := i) (v := .agg ⟨iz .u8 b⟩) h.mp (by rw [findKv_bvs, hx]; rfl)]; simp [getV, hx]
theorem getV_len (hk : Kv L kv) {w : List Int} (h : getV t kv = some w) : w.length = 32 := hk.len _ ((Kv.get_iff hk.nodup).1 h)
theorem getV_len' (hk : Kv L kv) : ((getV t kv).getD zero32).length = 32 := by
  cases h : getV t kv with
  | none => exact zero32_length
  | some w => exact getV_len hk h
theorem imgs_len (hk : Kv L kv) {M : List Int} : ∀ p ∈ imgs M kv, p.2.length = 32 := by
  intro p hp
  obtain ⟨b, _, h⟩ := List.mem_filterMap.1 hp
  obtain ⟨w, hw, rfl⟩ := Option.map_eq_some_iff.1 h
  exact getV_len hk hw

theorem imgs_step {j : Nat} (hj : j < L.length) : imgs (L.take (j + 1)) kv = imgs (L.take j) kv ++ (match getV L[j] kv with | some w => [(L[j], w)] | none => []) := by
  simp only [imgs]
  rw [List.take_add_one, List.getElem?_eq_getElem hj, Option.toList_some, List.filterMap_append, List.filterMap_cons]
  cases getV L[j] kv <;> rfl
theorem bimages_ok (hT : BaT T) (h : Bf H l mb s L kv) (hk : Kv L kv) (wf : WF H) (hl : L.length ≤ 16) (hm : 20 ≤ m) :
    ∃ s' H', exec T (m + 1) (.fn k_buffer_Buffer_Images) [.pointer (some ⟨l, 0, none⟩)] H = some (s', H') ∧ Sl H' 33 s' (imgs L kv).length ((imgs L kv).flatMap img) ∧ Fr H H' [] ∧ (∀ b ∈ blk s', H.next ≤ b) := by
  obtain ⟨a, c, hs⟩ := h.sl.form
  have ra := readCells_of (off := 0) (m := 1) h.at_ (by simp)
  obtain ⟨t1, e1, r0, r3⟩ : ∃ t1, run (exec T m) m none (.seq c_buffer_Buffer_Images_S0 (.seq c_buffer_Buffer_Images_S3 c_buffer_Buffer_Images_S4)) ⟨initTm 0 .nil [.pointer (some ⟨l, 0, none⟩)], H, []⟩ = some (.normal, ⟨t1, H, []⟩) ∧ t1.get 0 = some (.pointer (some ⟨l, 0, none⟩)) ∧ t1.get 3 = some (.slice none 0 0) := by
    simp [c_buffer_Buffer_Images_S0, c_buffer_Buffer_Images_S1, c_buffer_Buffer_Images_S2, c_buffer_Buffer_Images_S3, c_buffer_Buffer_Images_S4]
  obtain ⟨t1', e1', r0', r3', r13, r14, r15⟩ : ∃ t2, run (exec T m) m none c_buffer_Buffer_Images_S5 ⟨t1, H, []⟩ = some (.normal, ⟨t2, H, []⟩) ∧ t2.get 0 = some (.pointer (some ⟨l, 0, none⟩)) ∧ t2.get 3 = some (.slice none 0 0) ∧ t2.get 13 = some s ∧ t2.get 14 = some (.int .i64 L.length) ∧ t2.get 15 = some (.int .i64 (0 : Nat)) := by
    subst hs
    simp [c_buffer_Buffer_Images_S5, r0, r3, ra, goInt]
  obtain ⟨e, ⟨t2, H2, ds2⟩, e2, hne, hds, rfl, s3, q3, qf, qs, qb⟩ := loop_up (f := run (exec T m) m none c_buffer_Buffer_Images_L12) (a := 0) (n := L.length) (m := m) (s := ⟨t1', H, []⟩)
    (J := fun j s' => s'.ds = [] ∧ s'.tm.get 0 = some (.pointer (some ⟨l, 0, none⟩)) ∧ s'.tm.get 13 = some s ∧ s'.tm.get 14 = some (.int .i64 L.length) ∧ s'.tm.get 15 = some (.int .i64 (j : Nat)) ∧ ∃ s3, s'.tm.get 3 = some s3 ∧ Fr H s'.h [] ∧ Sl s'.h 33 s3 (imgs (L.take j) kv).length ((imgs (L.take j) kv).flatMap img) ∧ ∀ b ∈ blk s3, H.next ≤ b)
    (Q := fun e s' => s'.ds = [] ∧ e = .exit 0 ∧ ∃ s3, s'.tm.get 3 = some s3 ∧ Fr H s'.h [] ∧ Sl s'.h 33 s3 (imgs L kv).length ((imgs L kv).flatMap img) ∧ ∀ b ∈ blk s3, H.next ≤ b) (by omega) (Nat.zero_le _) ⟨rfl, r0', r13, r14, r15, _, r3', Fr.refl wf _, .empty, by simp [blk]⟩ (by
      rintro j ⟨tm, H', ds⟩ hj ⟨hds, u0, u13, u14, u15, s3, u3, uf, us, ub⟩
      simp only at hds u0 u13 u14 u15 u3 uf us
      subst hds
      have hbf := h.fr uf (by simp) (by simp) (by simp)
      obtain ⟨a2, c2, hs2, _, hall⟩ := hbf.sl.toRd.all
      obtain ⟨b, sp, rfl, hr⟩ := hall j hj
      have hj' : (j : Int) < L.length := by omega
      have w1 : IntKind.i64.wrap ((j : Int) + 1) = ((j + 1 : Nat) : Int) := by rw [wrap_i64 (by omega) (by omega)]; rfl
      have rb := readCells_of (off := 1) (m := 1) hbf.at_ (by simp)
      have lk := blook (t := L[j]) hbf
      have hx32 := getV_len' (t := L[j]) hk
      have st := st32 (H := H') hx32 zero32_length
      have f1 := Fr.new (o := .cells (iz .u8 ((getV L[j] kv).getD zero32)) false 0) uf.wf []
      have us1 := us.fr f1 (by simp)
      have uf1 := uf.step wf f1 (by simp)
      subst hs2
      obtain ⟨t3, g3, k3, p5, p6, p28⟩ : ∃ t3, run (exec T m) m none (.seq c_buffer_Buffer_Images_S8 (.seq c_buffer_Buffer_Images_S9 c_buffer_Buffer_Images_S10)) ⟨(tm.set 16 (some (.bool true))), H', []⟩ = some (.normal, ⟨t3, H'.new (.cells (iz .u8 ((getV L[j] kv).getD zero32)) false 0), []⟩) ∧ KeepsB 16 [5, 6, 7] tm t3 ∧ t3.get 5 = some (.int .i64 L[j]) ∧ t3.get 6 = some (.pointer (some ⟨H'.next, 0, none⟩)) ∧ t3.get 28 = some (.bool (getV L[j] kv).isSome) := by
        simp (maxSteps := 1000000) (disch := first | omega | (simp; omega) | (simp; done) | fail) [-List.reduceReplicate, zero32_iz, c_buffer_Buffer_Images_S6, c_buffer_Buffer_Images_S7, c_buffer_Buffer_Images_S8, c_buffer_Buffer_Images_S9, c_buffer_Buffer_Images_S10, c_buffer_Buffer_Images_S11, u0, u13, u14, u15, hj', idxK_of, hr, rb, lk, st]
      have hstep := imgs_step (kv := kv) hj
      have e6 : run (exec T m) m none (.seq c_buffer_Buffer_Images_S6 c_buffer_Buffer_Images_S7) ⟨tm, H', []⟩ = some (.normal, ⟨tm.set 16 (some (.bool true)), H', []⟩) := by
        simp [c_buffer_Buffer_Images_S6, c_buffer_Buffer_Images_S7, u14, u15, hj', hj]
      have hil : (imgs (L.take j) kv).length ≤ 16 := by
        have := List.length_filterMap_le (fun b => (getV b kv).map fun w => (b, w)) (L.take j)
        simp only [imgs, List.length_take] at this ⊢
        omega
      cases hg : getV L[j] kv with
      | none =>
        have hi := hstep
        rw [hg, List.append_nil] at hi
        rw [hg] at p28
        have v15 := k3.get u15
        obtain ⟨t4, g4, k4, q15⟩ : ∃ t4, run (exec T m) m none c_buffer_Buffer_Images_L12 ⟨tm, H', []⟩ = some (.normal, ⟨t4, H'.new (.cells (iz .u8 ((getV L[j] kv).getD zero32)) false 0), []⟩) ∧ KeepsB 16 [5, 6, 7, 15] tm t4 ∧ t4.get 15 = some (.int .i64 ((j + 1 : Nat) : Int)) := by
          rw [c_buffer_Buffer_Images_L12, run_pre2, e6, seqK_normal, run_seq, c_buffer_Buffer_Images_S11, run_block, run_pre3, g3, seqK_normal, run_f p28, run_skip, blockK_normal, seqK_normal]
          simp [-Int.natCast_add, v15, w1]
          exact fun q h1 h2 => k3 q h1 (by simp at h2 ⊢; omega)
        exact ⟨_, _, g4, .inl ⟨rfl, rfl, k4.get u0, k4.get u13, k4.get u14, q15, s3, k4.get u3, uf1, by rw [hi]; exact us1, ub⟩⟩
      | some w =>
        have hi := hstep
        rw [hg] at hi p28
        have hw : (getV L[j] kv).getD zero32 = w := by rw [hg]; rfl
        rw [hw] at hx32 g3 f1 us1 uf1
        have rd := rd32 (H := H') hx32
        have v15 := k3.get u15
        have v3 := k3.get u3
        obtain ⟨s4, H4, e4, g4, f4, b4, _⟩ := us1.append1 (new := img (L[j], w)) f1.wf (by decide) (img_length hx32) (bytes := 40) (by omega)
        have e4' : appendK ((H'.new (.cells (iz .u8 w) false 0)).new (.cells (.int .i64 L[j] :: iz .u8 w) false 33)) 40 33 s3 (.slice (some ⟨H'.next + 1, 0, some 0⟩) 1 1) = some (s4, H4) := e4
        have wt : ∀ z : List Value, z.length = 32 → writeAt z 0 (iz .u8 w) = iz .u8 w := fun z hz => writeAt_all (by simp; omega)
        obtain ⟨t4, g5, k5, q3⟩ : ∃ t4, run (exec T m) m none (.cond (.tmp 28) (.reg [⟨(some 29), .move (.tmp 3), none⟩,
        ⟨(some 30), .move (.tmp 5), none⟩,
        ⟨(some 31), .load true 32 (.tmp 6), none⟩,
        ⟨(some 32), .build (.int .i64 0 :: List.replicate 32 (.int .u8 0)) [(0, 1, (.tmp 30)), (1, 32, (.tmp 31))], none⟩,
        ⟨(some 33), .buildSlice 1 33 (.int .i64 0 :: List.replicate 32 (.int .u8 0)) [(0, 33, (.tmp 32))], none⟩,
        ⟨(some 34), .append 40 33 (.tmp 29) (.tmp 33), none⟩,
        ⟨(some 3), .move (.tmp 34), none⟩]) (.skip)) ⟨t3, H'.new (.cells (iz .u8 w) false 0), []⟩ = some (.normal, ⟨t4, H4, []⟩) ∧ KeepsB 16 [3] t3 t4 ∧ t4.get 3 = some s4 := by
          rw [run_t p28]
          simp (maxSteps := 1000000) (disch := first | omega | (simp; omega) | (simp; done) | fail) [-List.reduceReplicate, p5, p6, v3, rd, hx32, wt, writeAt, iz_cell, e4']
        have v15' := k5.get v15
        obtain ⟨t5, g6, k6, q15⟩ : ∃ t5, run (exec T m) m none c_buffer_Buffer_Images_L12 ⟨tm, H', []⟩ = some (.normal, ⟨t5, H4, []⟩) ∧ KeepsB 16 [3, 5, 6, 7, 15] tm t5 ∧ t5.get 15 = some (.int .i64 ((j + 1 : Nat) : Int)) ∧ t5.get 3 = some s4 := by
          rw [c_buffer_Buffer_Images_L12, run_pre2, e6, seqK_normal, run_seq, c_buffer_Buffer_Images_S11, run_block, run_pre3, g3, seqK_normal]
          have : ∀ X, X = some (.normal, (⟨t4, H4, []⟩ : St)) → ∃ t5, seqK (exec T m) m none (.reg [⟨(some 35), .bin .add (.tmp 15) (.const (.int .i64 1)), none⟩, ⟨(some 15), .move (.tmp 35), none⟩]) (blockK 1 X) = some (.normal, ⟨t5, H4, []⟩) ∧ KeepsB 16 [3, 5, 6, 7, 15] tm t5 ∧ t5.get 15 = some (.int .i64 ((j + 1 : Nat) : Int)) ∧ t5.get 3 = some s4 := by
            rintro _ rfl
            simp [-Int.natCast_add, v15', w1, q3]
            exact fun q h1 h2 => (k5 q h1 (by simp at h2 ⊢; omega)).trans (k3 q h1 (by simp at h2 ⊢; omega))
          exact this _ g5
        refine ⟨_, _, g6, .inl ⟨rfl, rfl, k6.get u0, k6.get u13, k6.get u14, q15.1, s4, q15.2, ?_, ?_, ?_⟩⟩
        · exact uf1.step wf f4 (by intro r hr; exact ub r hr)
        · rw [hi]; simpa using g4
        · intro r hr
          rcases b4 r hr with h5 | h5
          · exact ub r h5
          · have := uf1.le; omega) (by
      rintro ⟨tm, H', ds⟩ ⟨hds, u0, u13, u14, u15, s3, u3, uf, us, ub⟩
      simp only at hds u0 u13 u14 u15 u3 uf us
      subst hds
      rw [List.take_length] at us
      obtain ⟨t3, g3, q3⟩ : ∃ t3, run (exec T m) m none c_buffer_Buffer_Images_L12 ⟨tm, H', []⟩ = some (.exit 0, ⟨t3, H', []⟩) ∧ t3.get 3 = some s3 := by
        simp [c_buffer_Buffer_Images_L12, c_buffer_Buffer_Images_S6, c_buffer_Buffer_Images_S7, u14, u15, u3]
      exact ⟨_, _, g3, by simp, rfl, rfl, s3, q3, uf, us, ub⟩)
  simp only at hds q3 qf qs
  subst hds
  have e3 : run (exec T m) m none c_buffer_Buffer_Images_S13 ⟨t1, H, []⟩ = some (.normal, ⟨t2, H2, []⟩) := by
    rw [c_buffer_Buffer_Images_S13, run_seq, e1', seqK_normal, run_block, run_loop, e2]; rfl
  obtain ⟨a3, c3, rfl⟩ := qs.form
  refine ⟨_, H2, ?_, qs, qf, qb⟩
  rw [exec_fn hT.images, run_pre3, e1, seqK_normal, run_seq, e3]
  simp [c_buffer_Buffer_Images_S14, endOf, takeAll, results?, resOf, endVal, q3]
end
end Go.Proofs.Ytbndnokcffailaa
