/- LedgerRoom: one element goes. -/
import Derived.Test.YtnpegkmoadjjeaaLr5
namespace Go.Proofs.Ytnpegkmoadjjeaa
open Go
set_option linter.unusedVariables false
set_option linter.unusedSimpArgs false
variable {T : Nat → Option AFun} {H : Heap} {m : Nat}

theorem slice_to {es n c i b : Nat} {sp : Option Nat} {k : IntKind} (h : i ≤ c) : sliceK H es none (some (.int k (i : Int))) none (.slice (some ⟨b, 0, sp⟩) n c) = some (.slice (some ⟨b, 0, sp⟩) i c, H) := by
  simp [sliceK, natIn_int h]
theorem slice_from {n c i b : Nat} {sp : Option Nat} {k : IntKind} (h : i ≤ n) (hc : n ≤ c) : sliceK H 1 (some (.int k (i : Int))) none none (.slice (some ⟨b, 0, sp⟩) n c) = some (.slice (some ⟨b, i, sp⟩) (n - i) (c - i), H) := by
  simp [sliceK, natIn_int h, ble_false, Nat.ble_eq_true_of_le hc]

theorem cut1_ok {s : Value} {n i : Nat} {cs : List Value} {tm : Tr Value} {ds : List Nat} {nn : Nat} {rd : Option Nat} (wf : WF H) (h : Sl H 1 s n cs) (hi : i < n) (hbig : n ≤ 1000)
    (t8 : tm.get 8 = some s) (t13 : tm.get 13 = some (.int .i64 (i : Int))) :
    ∃ tm' H' s', run (exec T m) nn rd c_wicketlaw12_LedgerRoom_S47 ⟨tm, H, ds⟩ = some (.normal, ⟨tm', H', ds⟩) ∧ KeepsB 16 [8] tm tm' ∧ tm'.get 8 = some s' ∧ Fr H H' [] ∧ Sl H' 1 s' (n - 1) (cs.eraseIdx i) ∧
      (∀ b ∈ blk s', H.next ≤ b) ∧ capOf s' ≤ n := by
  obtain ⟨b, sp, c, rfl⟩ := h.ne_nil (by omega)
  have hcap : n ≤ c := by have := h.toRd.cap (Nat.le_refl 1); simpa [capOf] using this
  have f1 := Fr.new (o := .cells [] false 1) wf []
  have h1 := h.fr f1 (by simp)
  have hb1 : b < H.next := h.lt wf b (by simp [blk])
  have s0 : Sl (H.new (.cells [] false 1)) 1 (.slice (some ⟨H.next, 0, some 0⟩) 0 0) 0 [] := .full (rest := []) (by simp) rfl rfl
  have r1 : srcCells (H.new (.cells [] false 1)) (some ⟨b, 0, sp⟩) (i * 1) = some (cs.take i) := by
    show readCells _ b 0 (i * 1) = _
    rw [h1.read (by omega)]; simp
  obtain ⟨s1, H1, e1, g1, f2, b1, c1⟩ := s0.appendS (c := c) r1 (by have := h.len; simp; omega) f1.wf (Nat.le_refl 1) (bytes := 8) (by omega)
  have h2 := h1.fr f2 (by simp [blk]; omega)
  have r2 : srcCells H1 (some ⟨b, i + 1, sp⟩) ((n - (i + 1)) * 1) = some (cs.drop (i + 1)) := by
    show readCells _ b (i + 1) ((n - (i + 1)) * 1) = _
    rw [h2.read (by omega)]
    rw [List.take_of_length_le (by have := h.len; simp; omega)]
  obtain ⟨s2, H2, e2, g2, f3, b2, c2⟩ := g1.appendS (c := c - (i + 1)) r2 (by have := h.len; simp; omega) f2.wf (Nat.le_refl 1) (bytes := 8) (by omega)
  have n1 : ∀ x ∈ blk s1, H.next ≤ x := fun x hx => by
    rcases b1 x hx with h3 | h3
    · simp [blk] at h3; omega
    · have : H.next + 1 ≤ x := h3; omega
  have hA : (H.new (.cells [] false 1)).get H.next = some (.cells [] false 1) := by simp
  have hq : H.next < (H.new (.cells [] false 1)).next := by simp
  have e1' := @slice_to ((H.new (.cells [] false 1)).drop H.next) 1 n c i b sp .i64 (by omega)
  have e2' := @slice_from ((H.new (.cells [] false 1)).drop H.next) n c (i + 1) b sp .i64 (by omega) hcap
  have w1 : IntKind.i64.wrap ((i : Int) + 1) = ((i + 1 : Nat) : Int) := by rw [wrap_i64 (by omega) (by omega)]; rfl
  obtain ⟨tm', er, k1, k8⟩ : ∃ tm', run (exec T m) nn rd c_wicketlaw12_LedgerRoom_S47 ⟨tm, .mk H.tr H.next, ds⟩ = some (.normal, ⟨tm', H2, ds⟩) ∧ KeepsB 16 [8] tm tm' ∧ tm'.get 8 = some s2 := by
    simp (disch := first | omega | (simp; omega) | (simp; done) | fail) [-Int.natCast_add, c_wicketlaw12_LedgerRoom_S47, t8, t13, hA, drop_put hA, doperK_h hq, e1', e2', w1, e1, e2]
  refine ⟨tm', H2, s2, er, k1, k8, (f1.step wf f2 (by simp [blk])).step wf f3 n1, ?_, ?_, ?_⟩
  · have e : cs.take i ++ cs.drop (i + 1) = cs.eraseIdx i := by rw [List.eraseIdx_eq_take_drop_succ]
    have := g2
    rw [List.nil_append, e] at this
    have hn : 0 + i + (n - (i + 1)) = n - 1 := by omega
    rwa [hn] at this
  · intro x hx
    rcases b2 x hx with h3 | h3
    · exact n1 x h3
    · have := f2.le; have h4 : H.next + 1 ≤ H1.next := this; omega
  · have c1' : capOf s1 ≤ max 0 (0 + i) := c1
    omega

theorem cut2_ok {s : Value} {n i : Nat} {cs : List Value} {tm : Tr Value} {ds : List Nat} {nn : Nat} {rd : Option Nat} (wf : WF H) (h : Sl H 1 s n cs) (hi : i < n) (hbig : n ≤ 1000)
    (t8 : tm.get 9 = some s) (t13 : tm.get 13 = some (.int .i64 (i : Int))) :
    ∃ tm' H' s', run (exec T m) nn rd cutC2 ⟨tm, H, ds⟩ = some (.normal, ⟨tm', H', ds⟩) ∧ KeepsB 16 [9] tm tm' ∧ tm'.get 9 = some s' ∧ Fr H H' [] ∧ Sl H' 1 s' (n - 1) (cs.eraseIdx i) ∧
      (∀ b ∈ blk s', H.next ≤ b) ∧ capOf s' ≤ n := by
  obtain ⟨b, sp, c, rfl⟩ := h.ne_nil (by omega)
  have hcap : n ≤ c := by have := h.toRd.cap (Nat.le_refl 1); simpa [capOf] using this
  have f1 := Fr.new (o := .cells [] false 1) wf []
  have h1 := h.fr f1 (by simp)
  have hb1 : b < H.next := h.lt wf b (by simp [blk])
  have s0 : Sl (H.new (.cells [] false 1)) 1 (.slice (some ⟨H.next, 0, some 0⟩) 0 0) 0 [] := .full (rest := []) (by simp) rfl rfl
  have r1 : srcCells (H.new (.cells [] false 1)) (some ⟨b, 0, sp⟩) (i * 1) = some (cs.take i) := by
    show readCells _ b 0 (i * 1) = _
    rw [h1.read (by omega)]; simp
  obtain ⟨s1, H1, e1, g1, f2, b1, c1⟩ := s0.appendS (c := c) r1 (by have := h.len; simp; omega) f1.wf (Nat.le_refl 1) (bytes := 8) (by omega)
  have h2 := h1.fr f2 (by simp [blk]; omega)
  have r2 : srcCells H1 (some ⟨b, i + 1, sp⟩) ((n - (i + 1)) * 1) = some (cs.drop (i + 1)) := by
    show readCells _ b (i + 1) ((n - (i + 1)) * 1) = _
    rw [h2.read (by omega)]
    rw [List.take_of_length_le (by have := h.len; simp; omega)]
  obtain ⟨s2, H2, e2, g2, f3, b2, c2⟩ := g1.appendS (c := c - (i + 1)) r2 (by have := h.len; simp; omega) f2.wf (Nat.le_refl 1) (bytes := 8) (by omega)
  have n1 : ∀ x ∈ blk s1, H.next ≤ x := fun x hx => by
    rcases b1 x hx with h3 | h3
    · simp [blk] at h3; omega
    · have : H.next + 1 ≤ x := h3; omega
  have hA : (H.new (.cells [] false 1)).get H.next = some (.cells [] false 1) := by simp
  have hq : H.next < (H.new (.cells [] false 1)).next := by simp
  have e1' := @slice_to ((H.new (.cells [] false 1)).drop H.next) 1 n c i b sp .i64 (by omega)
  have e2' := @slice_from ((H.new (.cells [] false 1)).drop H.next) n c (i + 1) b sp .i64 (by omega) hcap
  have w1 : IntKind.i64.wrap ((i : Int) + 1) = ((i + 1 : Nat) : Int) := by rw [wrap_i64 (by omega) (by omega)]; rfl
  obtain ⟨tm', er, k1, k8⟩ : ∃ tm', run (exec T m) nn rd cutC2 ⟨tm, .mk H.tr H.next, ds⟩ = some (.normal, ⟨tm', H2, ds⟩) ∧ KeepsB 16 [9] tm tm' ∧ tm'.get 9 = some s2 := by
    simp (disch := first | omega | (simp; omega) | (simp; done) | fail) [-Int.natCast_add, cutC2, t8, t13, hA, drop_put hA, doperK_h hq, e1', e2', w1, e1, e2]
  refine ⟨tm', H2, s2, er, k1, k8, (f1.step wf f2 (by simp [blk])).step wf f3 n1, ?_, ?_, ?_⟩
  · have e : cs.take i ++ cs.drop (i + 1) = cs.eraseIdx i := by rw [List.eraseIdx_eq_take_drop_succ]
    have := g2
    rw [List.nil_append, e] at this
    have hn : 0 + i + (n - (i + 1)) = n - 1 := by omega
    rwa [hn] at this
  · intro x hx
    rcases b2 x hx with h3 | h3
    · exact n1 x h3
    · have := f2.le; have h4 : H.next + 1 ≤ H1.next := this; omega
  · have c1' : capOf s1 ≤ max 0 (0 + i) := c1
    omega
end Go.Proofs.Ytnpegkmoadjjeaa
