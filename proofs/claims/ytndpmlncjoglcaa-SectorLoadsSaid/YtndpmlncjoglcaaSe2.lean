/- Load and Image. -/
import Derived.Test.YtndpmlncjoglcaaSe
namespace Go.Proofs.Ytndpmlncjoglcaa
open Go
set_option linter.unusedVariables false
set_option linter.unusedSimpArgs false
variable {T : Nat → Option AFun} {H H' : Heap} {m n : Nat} {v s : Value} {L : List Int}

theorem load_refused (hT : T k_sector_Load = some c_sector_Load) {a : Option Addr} {c q r : Nat} (hq : q = n / 64) (hr : r = n % 64) (h : r ≠ 0 ∨ q < 1 ∨ 4096 < q) (hbig : n ≤ 900000) :
    exec T (m + 1) (.fn k_sector_Load) [.slice a n c] H = some (.tuple #[.pointer none, .int .i64 2], H) := by
  have e1 : IntKind.i64.wrap ((n : Int) / 64) = (q : Int) := by rw [wrap_i64 (by omega) (by omega)]; omega
  have e2 : (n : Int).tmod 64 = (r : Int) := by rw [Int.tmod_eq_emod_of_nonneg (by omega)]; omega
  rw [exec_fn hT]
  by_cases h1 : q = 0
  · have h1' : (q : Int) < 1 := by omega
    simp [-List.reduceReplicate, binK_quo, e1, h1, h1', goInt, endOf, takeAll, results?, resOf, endVal]
  · have h1' : ¬ (q : Int) < 1 := by omega
    by_cases h2 : 4096 < q
    · have h2' : (4096 : Int) < q := by omega
      simp [-List.reduceReplicate, binK_quo, e1, h1, h1', h2, h2', goInt, endOf, takeAll, results?, resOf, endVal]
    · have h2' : ¬ (4096 : Int) < q := by omega
      have h3 : ¬ (r = 0) := by omega
      have h3' : ¬ ((r : Int) = 0) := by omega
      simp [-List.reduceReplicate, binK_quo, binK_rem, e1, e2, h1, h1', h2, h2', h3, h3', goInt, endOf, takeAll, results?, resOf, endVal]

/-- What Load has laid after i sectors. -/
def part (L : List Int) (i : Nat) : List Int := L.take (i * 64) ++ List.replicate (L.length - i * 64) 0

theorem part_step {i : Nat} (hi : (i + 1) * 64 ≤ L.length) : writeAt (iz .u8 (part L i)) (i * 64) (iz .u8 ((L.drop (i * 64)).take 64)) = iz .u8 (part L (i + 1)) := by
  have h1 : (L.take (i * 64)).length = i * 64 := by simp; omega
  have h2 : ((L.drop (i * 64)).take 64).length = 64 := by simp; omega
  have e1 : (part L i).take (i * 64) = L.take (i * 64) := List.take_left' h1
  have e2 : (part L i).drop (i * 64 + 64) = List.replicate (L.length - (i * 64 + 64)) 0 := by
    unfold part
    rw [List.drop_append, List.drop_eq_nil_of_le (by omega), List.nil_append, h1, List.drop_replicate]
    congr 1; omega
  rw [writeAt_eq _ _ _ (by simp [part]; omega)]
  simp only [iz, ← List.map_take, ← List.map_drop, ← List.map_append, List.length_map, h2, e1, e2]
  congr 1
  have e : (i + 1) * 64 = i * 64 + 64 := by omega
  unfold part
  rw [e, List.take_add]

theorem iz_isCell : ∀ L : List Int, (iz .u8 L).all isCell = true := by
  intro L
  induction L with
  | nil => rfl
  | cons x L ih => simp [ih]

theorem iz_take {k : IntKind} {o : Nat} : (iz k L).take o = iz k (L.take o) := by simp [iz, List.map_take]
theorem iz_drop {k : IntKind} {o : Nat} : (iz k L).drop o = iz k (L.drop o) := by simp [iz, List.map_drop]

theorem load_ok (hT : T k_sector_Load = some c_sector_Load) {N : Nat} (h : Rd H 1 v n (iz .u8 L)) (wf : WF H) (hn : n = N * 64) (h1 : 1 ≤ N) (h2 : N ≤ 4096) (hm : N < m) :
    ∃ D d H', exec T (m + 1) (.fn k_sector_Load) [v] H = some (.tuple #[.pointer (some ⟨d, 0, none⟩), .int .i64 0], H') ∧ H'.get d = some (.cells [.slice (some ⟨D, 0, some 0⟩) N N, .slice none 0 0] false 0) ∧
      H'.get D = some (.cells (iz .u8 L) false 64) ∧ Fr H H' [] ∧ H.next ≤ D ∧ H.next ≤ d := by
  have hL : L.length = n := by have := h.len; simpa using this
  have e1 : IntKind.i64.wrap ((n : Int) / 64) = (N : Int) := by rw [wrap_i64 (by omega) (by omega)]; omega
  have e2 : (n : Int).tmod 64 = 0 := by rw [Int.tmod_eq_emod_of_nonneg (by omega)]; omega
  have hz : (List.replicate N (List.replicate 64 (Value.int .u8 0))).flatten = iz .u8 (part L 0) := by
    rw [List.flatten_replicate_replicate]; simp [-List.reduceReplicate, part, iz, hL, hn]
  have c1 : ¬ (N : Int) < 1 := by omega
  have c2 : ¬ (4096 : Int) < N := by omega
  have f1 := Fr.new (o := .cells (iz .u8 (part L 0)) false 64) wf []
  have f2 := Fr.new (o := .cells [.slice (some ⟨H.next, 0, some 0⟩) N N, .slice none 0 0] false 0) f1.wf []
  have f12 := f1.step wf f2 (by simp)
  obtain ⟨av, cv, rfl⟩ := h.form
  have loop : ∀ tm, tm.get 0 = some (.slice av n cv) → tm.get 5 = some (.pointer (some ⟨H.next + 1, 0, none⟩)) → tm.get 30 = some (.int .i64 N) → tm.get 31 = some (.int .i64 0) →
      ∃ e s', loopN (run (exec T m) m none c_sector_Load_L0) m ⟨tm, (H.new (.cells (iz .u8 (part L 0)) false 64)).new (.cells [.slice (some ⟨H.next, 0, some 0⟩) N N, .slice none 0 0] false 0), []⟩ = some (e, s') ∧
        e = .exit 0 ∧ s'.ds = [] ∧ s'.tm.get 5 = some (.pointer (some ⟨H.next + 1, 0, none⟩)) ∧ Fr H s'.h [] ∧ s'.h.get (H.next + 1) = some (.cells [.slice (some ⟨H.next, 0, some 0⟩) N N, .slice none 0 0] false 0) ∧ s'.h.get H.next = some (.cells (iz .u8 (part L N)) false 64) := by
    intro tm t0 t5 t30 t31
    refine Exists.elim (loopN_inv (f := run (exec T m) m none c_sector_Load_L0) (I := fun k st => ∃ i : Nat, k = N - i ∧ i ≤ N ∧ st.ds = [] ∧ Fr H st.h [] ∧ st.h.get (H.next + 1) = some (.cells [.slice (some ⟨H.next, 0, some 0⟩) N N, .slice none 0 0] false 0) ∧ st.h.get H.next = some (.cells (iz .u8 (part L i)) false 64) ∧
        st.tm.get 0 = some (.slice av n cv) ∧ st.tm.get 5 = some (.pointer (some ⟨H.next + 1, 0, none⟩)) ∧ st.tm.get 30 = some (.int .i64 N) ∧ st.tm.get 31 = some (.int .i64 i))
      (Q := fun e s' => e = .exit 0 ∧ s'.ds = [] ∧ s'.tm.get 5 = some (.pointer (some ⟨H.next + 1, 0, none⟩)) ∧ Fr H s'.h [] ∧ s'.h.get (H.next + 1) = some (.cells [.slice (some ⟨H.next, 0, some 0⟩) N N, .slice none 0 0] false 0) ∧ s'.h.get H.next = some (.cells (iz .u8 (part L N)) false 64)) ?_ N _ m ⟨0, by omega, by omega, rfl, f12, by simp, by simp, t0, t5, t30, t31⟩ hm) (fun e ⟨s', h1, _, h2⟩ => ⟨e, s', h1, h2⟩)
    rintro k ⟨tm1, H1, ds1⟩ ⟨i, hik, hi, hds, f, hd, hD, u0, u5, u30, u31⟩
    simp only at hds f hd hD u0 u5 u30 u31
    subst hds
    by_cases hlt : i < N
    · have hlt' : (i : Int) < N := by omega
      obtain ⟨b, sp, cc, heq, hread⟩ := (h.fr f).read (i * 64) (by omega)
      cases heq
      have hcc : n ≤ cv := h.cap (Nat.le_refl 1)
      have hr := hread (i * 64) 64 (by omega)
      rw [iz_drop, iz_take] at hr
      have hw1 : IntKind.i64.wrap ((i : Int) * 64) = ((i * 64 : Nat) : Int) := by rw [wrap_i64 (by omega) (by omega)]; omega
      have hw2 : IntKind.i64.wrap ((i : Int) + 1) = ((i + 1 : Nat) : Int) := by rw [wrap_i64 (by omega) (by omega)]; omega
      have hw3 : IntKind.i64.wrap (((i : Int) + 1) * 64) = (((i + 1) * 64 : Nat) : Int) := by rw [wrap_i64 (by omega) (by omega)]; omega
      have ht1 : ((i : Int) * 64).toNat = i * 64 := by omega
      have ht2 : (((i : Int) + 1) * 64).toNat = (i + 1) * 64 := by omega
      have hlen64 : ((L.drop (i * 64)).take 64).length = 64 := by simp; omega
      have hst : storeK H1 64 (.agg ⟨iz .u8 ((L.drop (i * 64)).take 64)⟩) (.pointer (some ⟨H.next, i * 64, none⟩)) = some (undef, H1.put H.next (.cells (iz .u8 (part L (i + 1))) false 64)) := by
        rw [storeK_ptr (sz := 64) (v := .agg ⟨iz .u8 ((L.drop (i * 64)).take 64)⟩) (by rw [cellsOf_agg, iz_length, hlen64]) (by rw [cellsOf_agg]; exact iz_isCell _)]
        simp only [cellsOf_agg]
        rw [writeCells_of hD (by simp [part]; omega), part_step (by omega)]
        rfl
      have hsub : (i + 1) * 64 - i * 64 = 64 := by omega
      obtain ⟨t2, e2, g0, g5, g30, g31⟩ : ∃ t2, run (exec T m) m none c_sector_Load_L0 ⟨tm1, H1, []⟩ = some (.normal, ⟨t2, H1.put H.next (.cells (iz .u8 (part L (i + 1))) false 64), []⟩) ∧ t2.get 0 = some (.slice (some ⟨b, 0, sp⟩) n cv) ∧ t2.get 5 = some (.pointer (some ⟨H.next + 1, 0, none⟩)) ∧ t2.get 30 = some (.int .i64 N) ∧ t2.get 31 = some (.int .i64 (i + 1 : Nat)) := by
        simp (maxSteps := 1000000) (disch := first | omega | (simp; omega) | (simp; done) | fail) [-List.reduceReplicate, c_sector_Load_L0, u0, u5, u30, u31, hlt', readCells_of hd, hw1, hw2, hw3, sliceK, natIn_of, ht1, ht2, hsub, arrAtK_of, hr, idxK_of, hst]
      have ff := Fr.put (r := H.next) (o := .cells (iz .u8 (part L (i + 1))) false 64) (fp := [H.next]) f.wf (by rw [hD]; simp) (by simp)
      exact ⟨.normal, _, e2, .inl ⟨rfl, N - i - 1, by omega, i + 1, by omega, by omega, rfl, f.step wf ff (by simp), ff.keep _ _ hd (by simp), by simp, g0, g5, g30, g31⟩⟩
    · obtain rfl : i = N := by omega
      obtain ⟨t2, e2, g5⟩ : ∃ t2, run (exec T m) m none c_sector_Load_L0 ⟨tm1, H1, []⟩ = some (.exit 0, ⟨t2, H1, []⟩) ∧ t2.get 5 = some (.pointer (some ⟨H.next + 1, 0, none⟩)) := by
        simp [c_sector_Load_L0, u30, u31, u5]
      exact ⟨.exit 0, _, e2, .inr ⟨by simp, rfl, rfl, g5, f, hd, hD⟩⟩
  have hpN : part L N = L := by
    unfold part
    rw [List.take_of_length_le (by omega), show L.length - N * 64 = 0 by omega]; simp
  rw [hpN] at loop
  rw [exec_fn hT]
  have c3 : ¬ (N = 0) := by omega
  have c4 : ¬ (4096 < N) := by omega
  have hmk := makeSliceK_nat (H := H) (bytes := 64) (es := 64) (zs := List.replicate 64 (.int .u8 0)) (k := .i64) (k' := .i64) (Nat.le_refl N) (by omega) (by omega)
  rw [hz] at hmk
  have q1 : ((H.new (.cells (iz .u8 (part L 0)) false 64)).new (.cells [.slice (some ⟨H.next, 0, some 0⟩) N N, .slice none 0 0] false 0)).get (H.next + 1) = some (.cells [.slice (some ⟨H.next, 0, some 0⟩) N N, .slice none 0 0] false 0) := by simp
  simp [-List.reduceReplicate, binK_quo, binK_rem, e1, e2, c1, c2, c3, c4, goInt, hmk, writeAt, boxK_agg, readCells_of q1, run_loop]
  refine thru (G := fun X => ∃ D d H', endK _ (seqK _ _ none _ (blockK 0 X)) = some (Value.tuple #[.pointer (some ⟨d, 0, none⟩), Value.int IntKind.i64 0], H') ∧ H'.get d = some (.cells [.slice (some ⟨D, 0, some 0⟩) N N, .slice none 0 0] false 0) ∧ H'.get D = some (.cells (iz .u8 L) false 64) ∧ Fr H H' [] ∧ H.next ≤ D ∧ H.next ≤ d) (loop _ (by simp) (by simp) (by simp) (by simp)) ?_
  rintro e ⟨tm', H', ds'⟩ ⟨rfl, hds, g5, f, hd, hD⟩
  simp only at hds g5 f hd hD
  subst hds
  exact ⟨H.next, H.next + 1, H', by simp [g5, endOf, takeAll, results?, resOf, endVal], hd, hD, f, Nat.le_refl _, Nat.le_succ _⟩

theorem image_ok (hT : T k_sector_Disk_Image = some c_sector_Disk_Image) {N D d : Nat} {sp : Option Nat} {x : Value} {ro : Bool} {cc : Nat} (hd : H.get d = some (.cells [.slice (some ⟨D, 0, sp⟩) N cc, x] false 0)) (hD : H.get D = some (.cells (iz .u8 L) ro 64)) (hL : L.length = N * 64)
    (wf : WF H) (hN : N ≤ 4096) (hm : N < m) :
    ∃ s' H', exec T (m + 1) (.fn k_sector_Disk_Image) [.pointer (some ⟨d, 0, none⟩)] H = some (s', H') ∧ Sl H' 1 s' L.length (iz .u8 L) ∧ Fr H H' [] ∧ ∀ b ∈ blk s', H.next ≤ b := by
  have f1 := Fr.new (o := .cells ((List.replicate (N * 64) [Value.int .u8 0]).flatten) false 1) wf []
  have h0 : Sl (H.new (.cells ((List.replicate (N * 64) [Value.int .u8 0]).flatten) false 1)) 1 (.slice (some ⟨H.next, 0, some 0⟩) 0 (N * 64)) 0 (iz .u8 (L.take (0 * 64))) := .full (rest := (List.replicate (N * 64) [Value.int .u8 0]).flatten) (by simp) (by simp) (by simp)
  have loop : ∀ tm, tm.get 18 = some (.slice (some ⟨D, 0, sp⟩) N cc) → tm.get 19 = some (.int .i64 N) → tm.get 20 = some (.int .i64 0) → tm.get 3 = some (.slice (some ⟨H.next, 0, some 0⟩) 0 (N * 64)) →
      ∃ e s', loopN (run (exec T m) m none c_sector_Disk_Image_L0) m ⟨tm, H.new (.cells ((List.replicate (N * 64) [Value.int .u8 0]).flatten) false 1), []⟩ = some (e, s') ∧ e = .exit 0 ∧ s'.ds = [] ∧ Fr H s'.h [] ∧ ∃ s1, s'.tm.get 3 = some s1 ∧ Sl s'.h 1 s1 (N * 64) (iz .u8 (L.take (N * 64))) ∧ ∀ b ∈ blk s1, H.next ≤ b := by
    intro tm t18 t19 t20 t3
    refine Exists.elim (loopN_inv (f := run (exec T m) m none c_sector_Disk_Image_L0) (I := fun k st => ∃ i : Nat, k = N - i ∧ i ≤ N ∧ st.ds = [] ∧ Fr H st.h [] ∧ st.tm.get 18 = some (.slice (some ⟨D, 0, sp⟩) N cc) ∧ st.tm.get 19 = some (.int .i64 N) ∧ st.tm.get 20 = some (.int .i64 i) ∧
        ∃ s1, st.tm.get 3 = some s1 ∧ Sl st.h 1 s1 (i * 64) (iz .u8 (L.take (i * 64))) ∧ ∀ b ∈ blk s1, H.next ≤ b)
      (Q := fun e s' => e = .exit 0 ∧ s'.ds = [] ∧ Fr H s'.h [] ∧ ∃ s1, s'.tm.get 3 = some s1 ∧ Sl s'.h 1 s1 (N * 64) (iz .u8 (L.take (N * 64))) ∧ ∀ b ∈ blk s1, H.next ≤ b) ?_ N _ m ⟨0, by omega, by omega, rfl, f1, t18, t19, t20, _, t3, by simpa using h0, by simp [blk]⟩ hm) (fun e ⟨s', h1, _, h2⟩ => ⟨e, s', h1, h2⟩)
    rintro k ⟨tm1, H1, ds1⟩ ⟨i, hik, hi, hds, f, u18, u19, u20, s1, u3, hs, hb⟩
    simp only at hds f u18 u19 u20 u3 hs
    subst hds
    by_cases hlt : i < N
    · have hlt' : (i : Int) < N := by omega
      have hD1 := f.keep _ _ hD (by simp)
      have hr : readCells H1 D (i * 64) 64 = some (iz .u8 ((L.drop (i * 64)).take 64)) := by
        rw [readCells_of hD1 (by simp; omega), iz_drop, iz_take]
      have hlen64 : ((L.drop (i * 64)).take 64).length = 64 := by simp; omega
      have f2 := Fr.new (o := .cells (List.replicate 64 (.int .u8 0)) false 0) f.wf []
      have hst : storeK (H1.new (.cells (List.replicate 64 (.int .u8 0)) false 0)) 64 (.agg ⟨iz .u8 ((L.drop (i * 64)).take 64)⟩) (.pointer (some ⟨H1.next, 0, none⟩)) = some (undef, (H1.new (.cells (List.replicate 64 (.int .u8 0)) false 0)).put H1.next (.cells (iz .u8 ((L.drop (i * 64)).take 64)) false 0)) := by
        rw [storeK_ptr (sz := 64) (v := .agg ⟨iz .u8 ((L.drop (i * 64)).take 64)⟩) (by rw [cellsOf_agg, iz_length, hlen64]) (by rw [cellsOf_agg]; exact iz_isCell _)]
        simp only [cellsOf_agg]
        rw [writeCells_of (cs := List.replicate 64 (.int .u8 0)) (es := 0) (by simp [-List.reduceReplicate]) (by simp [-List.reduceReplicate]; omega), writeAt_eq _ _ _ (by simp [-List.reduceReplicate]; omega)]
        simp [-List.reduceReplicate, hlen64]
      have f3 := Fr.put (r := H1.next) (o := .cells (iz .u8 ((L.drop (i * 64)).take 64)) false 0) (fp := [H1.next]) f2.wf (by simp) (by simp)
      have f23 := f2.step f.wf f3 (by simp)
      have hy : Rd ((H1.new (.cells (List.replicate 64 (.int .u8 0)) false 0)).put H1.next (.cells (iz .u8 ((L.drop (i * 64)).take 64)) false 0)) 1 (.slice (some ⟨H1.next, 0, some 0⟩) 64 64) 64 (iz .u8 ((L.drop (i * 64)).take 64)) := by
        refine ⟨⟨_, _, rfl⟩, fun j hj => ⟨H1.next, some 0, 64, rfl, fun o k hk => readCells_put (by rw [iz_length, hlen64]; omega)⟩, ⟨_, _, rfl, ?_⟩, by rw [iz_length, hlen64], fun _ => Nat.le_refl _⟩
        show readCells _ H1.next 0 (64 * 1) = _
        rw [readCells_put (by rw [iz_length, hlen64]; omega)]
        rw [List.drop_zero, List.take_of_length_le (by rw [iz_length, hlen64]; omega)]
      obtain ⟨s2, H4, e4, g4, f4, b4, c4⟩ := (hs.fr f23 (by simp)).appendR hy f3.wf (Nat.le_refl 1) (bytes := 1) (by omega)
      obtain ⟨a1, c1, rfl⟩ := hs.form
      have hw : IntKind.i64.wrap ((i : Int) + 1) = (i + 1 : Nat) := by rw [wrap_i64 (by omega) (by omega)]; omega
      obtain ⟨t2, e2, g3, g18, g19, g20⟩ : ∃ t2, run (exec T m) m none c_sector_Disk_Image_L0 ⟨tm1, H1, []⟩ = some (.normal, ⟨t2, H4, []⟩) ∧ t2.get 3 = some s2 ∧ t2.get 18 = some (.slice (some ⟨D, 0, sp⟩) N cc) ∧ t2.get 19 = some (.int .i64 N) ∧ t2.get 20 = some (.int .i64 (i + 1 : Nat)) := by
        simp (maxSteps := 1000000) (disch := first | omega | (simp; omega) | (simp; done) | fail) [-List.reduceReplicate, c_sector_Disk_Image_L0, u3, u18, u19, u20, hlt', idxK_of, hr, hst, cond_ble, e4, hw]
      have ff := f.step wf f23 (by simp)
      refine ⟨.normal, _, e2, .inl ⟨rfl, N - i - 1, by omega, i + 1, by omega, by omega, rfl, ff.step wf f4 hb, g18, g19, g20, s2, g3, ?_, fun b hb2 => ?_⟩⟩
      · have e : (i + 1) * 64 = i * 64 + 64 := by omega
        rw [e, List.take_add, iz_append]; exact g4
      · rcases b4 b hb2 with h5 | h5
        · exact hb b h5
        · have := ff.le; omega
    · obtain rfl : i = N := by omega
      obtain ⟨t2, e2, g3⟩ : ∃ t2, run (exec T m) m none c_sector_Disk_Image_L0 ⟨tm1, H1, []⟩ = some (.exit 0, ⟨t2, H1, []⟩) ∧ t2.get 3 = some s1 := by
        simp [c_sector_Disk_Image_L0, u3, u19, u20]
      exact ⟨.exit 0, _, e2, .inr ⟨by simp, rfl, rfl, f, s1, g3, hs, hb⟩⟩
  have hw : IntKind.i64.wrap ((N : Int) * 64) = ((N * 64 : Nat) : Int) := by rw [wrap_i64 (by omega) (by omega)]; omega
  have hmk := makeSliceK_nat (H := H) (bytes := 1) (es := 1) (zs := [.int .u8 0]) (k := .i64) (k' := .i64) (Nat.zero_le (N * 64)) (by omega) (by omega)
  have q1 := f1.keep _ _ hd (by simp)
  have hmk' : makeSliceK H 1 1 [.int .u8 0] (.int .i64 0) (.int .i64 ((N : Int) * 64)) = some (.slice (some ⟨H.next, 0, some 0⟩) 0 (N * 64), H.new (.cells ((List.replicate (N * 64) [Value.int .u8 0]).flatten) false 1)) := by
    have h := hmk
    rw [show ((N * 64 : Nat) : Int) = (N : Int) * 64 by omega] at h
    exact h
  have hw' : IntKind.i64.wrap ((N : Int) * 64) = (N : Int) * 64 := by rw [hw]; omega
  rw [exec_fn hT]
  simp only [c_sector_Disk_Image] at *
  simp [-List.reduceReplicate, -List.flatten_replicate_singleton, goInt, readCells_of hd, hw', hmk', readCells_of q1, run_loop]
  refine thru (G := fun X => ∃ s' H', endK _ (seqK _ _ none _ (blockK 0 X)) = some (s', H') ∧ Sl H' 1 s' L.length (iz .u8 L) ∧ Fr H H' [] ∧ ∀ b ∈ blk s', H.next ≤ b) (loop _ (by simp) (by simp) (by simp) (by simp)) ?_
  rintro e ⟨tm', H', ds'⟩ ⟨rfl, hds, f, s1, g3, g4, g5⟩
  simp only at hds f g3 g4
  subst hds
  rw [List.take_of_length_le (by omega), ← hL] at g4
  obtain ⟨a1, c1, rfl⟩ := g4.form
  exact ⟨_, H', by simp [g3, endOf, takeAll, results?, resOf, endVal], g4, f, g5⟩
end Go.Proofs.Ytndpmlncjoglcaa
