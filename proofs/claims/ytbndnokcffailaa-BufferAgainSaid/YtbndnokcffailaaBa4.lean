/- Buffers: Write, Read. -/
import Derived.Test.YtbndnokcffailaaBa3
namespace Go.Proofs.Ytbndnokcffailaa
open Go
set_option linter.unusedVariables false
set_option linter.unusedSimpArgs false
variable {T : Nat → Option AFun} {H : Heap} {m : Nat} {v : Value} {L : List Int} {t : Int}
section
variable {l mb : Nat} {s : Value} {kv : List (Int × List Int)} {w : List Int}

theorem bwrite_bad (hT : BaT T) (h : Bf H l mb s L kv) (wf : WF H) (hl : L.length ≤ 16) (hm : 20 ≤ m) (hw : w.length = 32) (ht : t ∉ L) :
    ∃ H', exec T (m + 5) (.fn k_buffer_Buffer_Write) [.pointer (some ⟨l, 0, none⟩), .int .i64 t, .agg ⟨iz .u8 w⟩] H = some (.int .i64 160, H') ∧ Fr H H' [] := by
  have f1 := Fr.new (o := .cells (iz .u8 w) false 0) wf []
  have h1 := h.fr f1 (by simp) (by simp) (by simp)
  have e1 := refused_ok (m := m) (t := t) hT h1 hl hm
  rw [if_neg ht] at e1
  refine ⟨_, ?_, f1⟩
  rw [exec_fn hT.write]
  simp [boxK_agg, iz_cell, e1, endOf, takeAll, results?, resOf, endVal]
theorem bwrite_ok (hT : BaT T) (h : Bf H l mb s L kv) (wf : WF H) (hl : L.length ≤ 16) (hm : 20 ≤ m) (hw : w.length = 32) (ht : t ∈ L) :
    ∃ H', exec T (m + 5) (.fn k_buffer_Buffer_Write) [.pointer (some ⟨l, 0, none⟩), .int .i64 t, .agg ⟨iz .u8 w⟩] H = some (.int .i64 0, H') ∧ Bf H' l mb s L (putV t w kv) ∧ Fr H H' [mb] := by
  have f1 := Fr.new (o := .cells (iz .u8 w) false 0) wf []
  have h1 := h.fr f1 (by simp) (by simp) (by simp)
  have e1 := refused_ok (m := m) (t := t) hT h1 hl hm
  rw [if_pos ht] at e1
  have e2 := readCells_of (off := 1) (m := 1) h1.at_ (by simp)
  have e3 : readCells (H.new (.cells (iz .u8 w) false 0)) H.next 0 32 = some (iz .u8 w) := by
    rw [readCells_new (by simp; omega), List.drop_zero, take_iz hw]
  have e4 : mapUpdateK (H.new (.cells (iz .u8 w) false 0)) .i64 (.map (some mb)) (.int .i64 t) (.agg ⟨iz .u8 w⟩) = some (undef, (H.new (.cells (iz .u8 w) false 0)).put mb (.map (bvs (putV t w kv)))) := by
    cases hx : vidx t kv 0 with
    | none => rw [mapUpdateK_none h1.mp (by rw [findKv_bvs, hx]; rfl) rfl]; simp [putV, hx, bvs]
    | some p =>
      obtain ⟨i, b⟩ := p
      rw [mapUpdateK_some (i := i) (u := .agg ⟨iz .u8 b⟩) h1.mp (by rw [findKv_bvs, hx]; rfl) rfl]; simp [putV, hx, bvs, List.map_set]
  have f2 := Fr.put (r := mb) (o := .map (bvs (putV t w kv))) (fp := [mb]) f1.wf (by rw [h1.mp]; simp) (by simp)
  have n1 := h.ne
  have n2 := h.ns
  refine ⟨(H.new (.cells (iz .u8 w) false 0)).put mb (.map (bvs (putV t w kv))), ?_, ⟨f2.keep _ _ h1.at_ (by simpa using n1), by simp, h1.sl.frq f2 n2.2⟩, f1.trans wf f2 (by simp) (by simp)⟩
  rw [exec_fn hT.write]
  simp [boxK_agg, iz_cell, e1, e2, e3, e4, endOf, takeAll, results?, resOf, endVal]

theorem zero32_iz : List.replicate 32 (.int .u8 0) = iz .u8 zero32 := by simp [iz, zero32, List.map_replicate, -List.reduceReplicate]
theorem zero32_length : zero32.length = 32 := by simp [zero32]
theorem bread_ok (hT : BaT T) (h : Bf H l mb s L kv) (hk : Kv L kv) (wf : WF H) (hl : L.length ≤ 16) (hm : 20 ≤ m) :
    ∃ H', exec T (m + 5) (.fn k_buffer_Buffer_Read) [.pointer (some ⟨l, 0, none⟩), .int .i64 t] H =
      some (.tuple (if t ∈ L then #[.agg ⟨iz .u8 ((getV t kv).getD zero32)⟩, .bool (getV t kv).isSome, .int .i64 0] else #[.agg ⟨iz .u8 zero32⟩, .bool false, .int .i64 160]), H') ∧ Fr H H' [] := by
  have f1 := Fr.new (o := .cells (iz .u8 zero32) false 0) wf []
  have h1 := h.fr f1 (by simp) (by simp) (by simp)
  have e1 := refused_ok (m := m) (t := t) hT h1 hl hm
  have hz := zero32_length
  have hnew : (H.new (.cells (iz .u8 zero32) false 0)).get H.next = some (.cells (iz .u8 zero32) false 0) := by simp
  have st : ∀ {x : List Int}, x.length = 32 → storeK (H.new (.cells (iz .u8 zero32) false 0)) 32 (.agg ⟨iz .u8 x⟩) (.pointer (some ⟨H.next, 0, none⟩)) = some (undef, H.new (.cells (iz .u8 x) false 0)) := fun {x} hx => by
    rw [storeK_ptr (by simp; exact hx) (by simp), writeCells_of hnew (by simp; omega)]
    simp [writeAt_all (cs := iz .u8 zero32) (vs := iz .u8 x) (by simp; omega), new_put]
  by_cases ht : t ∈ L
  · rw [if_pos ht] at e1
    have e2 := readCells_of (off := 1) (m := 1) h1.at_ (by simp)
    have hget : ∃ x : List Int, x.length = 32 ∧ x = (getV t kv).getD zero32 ∧ lookupK (H.new (.cells (iz .u8 zero32) false 0)) .i64 (.agg ⟨iz .u8 zero32⟩) true (.map (some mb)) (.int .i64 t) = some (.tuple #[.agg ⟨iz .u8 x⟩, .bool (getV t kv).isSome], H.new (.cells (iz .u8 zero32) false 0)) := by
      cases hx : vidx t kv 0 with
      | none => exact ⟨zero32, hz, by simp [getV, hx], by rw [lookupK_none h1.mp (by rw [findKv_bvs, hx]; rfl)]; simp [getV, hx]⟩
      | some p =>
        obtain ⟨i, b⟩ := p
        obtain ⟨_, hj⟩ := vidx_at hx
        exact ⟨b, hk.len _ (List.mem_of_getElem? hj), by simp [getV, hx], by rw [lookupK_some (i := i) (v := .agg ⟨iz .u8 b⟩) h1.mp (by rw [findKv_bvs, hx]; rfl)]; simp [getV, hx]⟩
    obtain ⟨x, hx32, hx, e3⟩ := hget
    have f2 := Fr.new (o := .cells (iz .u8 x) false 0) wf []
    have hnew2 : (H.new (.cells (iz .u8 x) false 0)).get H.next = some (.cells (iz .u8 x) false 0) := by simp
    have e4 : readCells (H.new (.cells (iz .u8 x) false 0)) H.next 0 32 = some (iz .u8 x) := by rw [readCells_new (by simp; omega), List.drop_zero, take_iz hx32]
    have st2 : storeK (H.new (.cells (iz .u8 x) false 0)) 32 (.agg ⟨iz .u8 x⟩) (.pointer (some ⟨H.next, 0, none⟩)) = some (undef, H.new (.cells (iz .u8 x) false 0)) := by
      rw [storeK_ptr (by simp; exact hx32) (by simp), writeCells_of hnew2 (by simp)]
      simp [writeAt_all (cs := iz .u8 x) (vs := iz .u8 x) rfl, new_put]
    refine ⟨_, ?_, f2⟩
    rw [exec_fn hT.read, if_pos ht, ← hx]
    simp (maxSteps := 1000000) [-List.reduceReplicate, zero32_iz, e1, e2, e3, st hx32, e4, st2, endOf, takeAll, results?, resOf, endVal]
  · rw [if_neg ht] at e1
    have e4 : readCells (H.new (.cells (iz .u8 zero32) false 0)) H.next 0 32 = some (iz .u8 zero32) := by rw [readCells_new (by simp; omega), List.drop_zero, take_iz hz]
    refine ⟨_, ?_, f1⟩
    rw [exec_fn hT.read, if_neg ht]
    simp (maxSteps := 1000000) [-List.reduceReplicate, zero32_iz, e1, st hz, e4, endOf, takeAll, results?, resOf, endVal]
end
end Go.Proofs.Ytbndnokcffailaa
