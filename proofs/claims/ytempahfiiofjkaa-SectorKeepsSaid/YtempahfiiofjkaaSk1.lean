/- Disks: new ones, writes. -/
import Derived.Test.YtempahfiiofjkaaS3
import Derived.Test.YtempahfiiofjkaaLSectorKeeps
namespace Go.Proofs.Ytempahfiiofjkaa
open Go
set_option linter.unusedVariables false
set_option linter.unusedSimpArgs false

def wc (w : Int × List Int) : List Value := .int .i64 w.1 :: iz .u8 w.2
structure Okd (ds : List (List Int)) (ws : List (Int × List Int)) : Prop where
  d : ∀ d ∈ ds, (iz .u8 d).length = 64
  w : ∀ w ∈ ws, (wc w).length = 65
  r : ∀ w ∈ ws, 0 ≤ w.1 ∧ w.1 < ds.length
/-- A disk: its sectors, the writes that wait. -/
def Dk (p : Nat) (ds : List (List Int)) (ws : List (Int × List Int)) (L : Ch) : Prop :=
  ∃ sd sw A B, Slc 64 sd ds.length (ds.flatMap (iz .u8)) A ∧ Slc 65 sw ws.length (ws.flatMap wc) B ∧ Okd ds ws ∧ L = (p, .cells [sd, sw] false 0) :: (A ++ B)

section
variable {n p : Nat} {sp : Option Nat} {ds : List (List Int)} {ws : List (Int × List Int)} {L F G : Ch} {h : Heap} {i : Int} {s u : Value} {X : List Int}

theorem asked_ok (hd : Dk p ds ws L) (ho : Own h (L ++ F)) (h0 : 0 ≤ i) (h1 : i < ds.length) : f_sector_Disk_asked n (some ⟨p, 0, sp⟩) i h = some ((0, ()), h) := by
  obtain ⟨sd, sw, A, B, a1, a2, a3, rfl⟩ := hd
  have hg := ho.head
  have e1 : ¬ i < 0 := by omega
  have e2 : ¬ (ds.length : Int) ≤ i := by omega
  simp [f_sector_Disk_asked, ldT_of hg, a1.lenB, e1, e2]

theorem write_ok (hd : Dk p ds ws L) (hu : Sow 1 u 64 (iz .u8 X) G) (ho : Own h (L ++ (G ++ F))) (h0 : 0 ≤ i) (h1 : i < ds.length) (hlen : ws.length ≤ 1000) (hne : ∃ b k c, u = .slice (some b) k c) :
    ∃ h' L', f_sector_Disk_Write n (some ⟨p, 0, sp⟩) i u h = some ((0, ()), h') ∧ Dk p ds (ws ++ [(i, X)]) L' ∧ Own h' (L' ++ (G ++ F)) := by
  have ha := asked_ok (n := n) (sp := sp) hd ho h0 h1
  obtain ⟨sd, sw, A, B, a1, a2, a3, rfl⟩ := hd
  have hg := ho.head
  have hr := hu.rds (h := h) (F := (p, .cells [sd, sw] false 0) :: (A ++ B ++ F)) (ho.to fun x => by simp only [cnt_append, cnt_cons, cnt_nil]; omega)
  obtain ⟨b, k, c, rfl⟩ := hne
  obtain rfl : k = 64 := by have := hr.lenB; simpa using this
  have hX : (iz .u8 X).length = 64 := hr.len
  obtain ⟨a', c', e', src⟩ := hr.src
  cases e'
  have src' : readCells h b.block b.off 64 = some (iz .u8 X) := src
  have hld : ldA 64 h (some ⟨b.block, b.off, none⟩) = some (iz .u8 X) := src'
  have f1 : fillL (.int .i64 0 :: List.replicate 64 (.int .u8 0)) [(0, 1, .int .i64 i), (1, 64, .agg ⟨iz .u8 X⟩)] = some (wc (i, X)) := by
    have c1 : (Nat.beq (cellsOf (.agg ⟨iz .u8 X⟩)).length 64 && Nat.ble (1 + 64) (writeAt (.int .i64 0 :: List.replicate 64 (.int .u8 0)) 0 [.int .i64 i]).length && (cellsOf (.agg ⟨iz .u8 X⟩)).all isCell) = true := by
      show (Nat.beq (iz .u8 X).length 64 && true && (iz .u8 X).all isCell) = true
      rw [hX, iz_cell]; rfl
    show (bif (Nat.beq (cellsOf (.agg ⟨iz .u8 X⟩)).length 64 && Nat.ble (1 + 64) (writeAt (.int .i64 0 :: List.replicate 64 (.int .u8 0)) 0 [.int .i64 i]).length && (cellsOf (.agg ⟨iz .u8 X⟩)).all isCell) then some (writeAt (writeAt (.int .i64 0 :: List.replicate 64 (.int .u8 0)) 0 [.int .i64 i]) 1 (iz .u8 X)) else none) = _
    rw [c1, cond_true]
    show some (writeAt (.int .i64 i :: List.replicate 64 (.int .u8 0)) 1 (iz .u8 X)) = _
    rw [writeAt_tail (by rw [hX]; rfl)]; rfl
  have hwc : (wc (i, X)).length = 65 := by simp only [wc, List.length_cons, hX]
  have hwa : (wc (i, X)).all isCell = true := by simp only [wc, List.all_cons, iz_cell]; rfl
  have f2 : fillL (.int .i64 0 :: List.replicate 64 (.int .u8 0)) [(0, 65, .agg ⟨wc (i, X)⟩)] = some (wc (i, X)) := by
    show (bif (Nat.beq (wc (i, X)).length 65 && true && (wc (i, X)).all isCell) then some (writeAt (.int .i64 0 :: List.replicate 64 (.int .u8 0)) 0 (wc (i, X))) else none) = _
    rw [hwc, hwa]
    show some (writeAt _ 0 _) = _
    rw [writeAt_all (by rw [hwc]; rfl)]
  obtain ⟨s', h1', B', e1, e2, e3⟩ := a2.push (new := wc (i, X)) (F := (p, .cells [sd, sw] false 0) :: (A ++ (G ++ F))) (ho.to fun x => by simp only [cnt_append, cnt_cons, cnt_nil, List.cons_append]; omega) (by decide) hwc (bytes := 72) (by omega)
  have e4 : Own h1' ((p, .cells [sd, sw] false 0) :: (A ++ B' ++ (G ++ F))) := e3.to fun x => by simp only [cnt_append, cnt_cons, cnt_nil]; omega
  refine ⟨_, _, ?_, ⟨sd, s', A, B', a1, by simpa using e2, ⟨a3.d, fun w hw => ?_, fun w hw => ?_⟩, rfl⟩, e4.put (.cells [sd, s'] false 0)⟩
  · simp only [f_sector_Disk_Write, ha, Option.bind_some, decide_true, Bool.not_true, cond_false, lenB_slice]
    rw [show (!decide (((64 : Nat) : Int) = 64)) = false from rfl, cond_false]
    have ar : arrB h 64 (.slice (some b) 64 c) = some (some ⟨b.block, b.off, none⟩) := rfl
    simp only [ldT_of hg, fa_mk, Nat.zero_add, Option.bind_some, ar, hld, bnd_eq]
    have g1 := f1; have g2 := f2
    simp only [List.replicate] at g1 g2
    simp [g1, g2, e1, stB1_of e4.head e2.cellsOf e2.isCell]
  · rcases List.mem_append.1 hw with hw | hw
    · exact a3.w w hw
    · simp only [List.mem_singleton] at hw; subst hw; exact hwc
  · rcases List.mem_append.1 hw with hw | hw
    · exact a3.r w hw
    · simp only [List.mem_singleton] at hw; subst hw; exact ⟨h0, h1⟩
end
end Go.Proofs.Ytempahfiiofjkaa
