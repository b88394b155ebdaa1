import Derived.Test.YtndpmlncjoglcaaSe3
import Derived.Test.YtndpmlncjoglcaaPrim
namespace Go.Proofs.Ytndpmlncjoglcaa
open Go
set_option linter.unusedVariables false
set_option linter.unusedSimpArgs false
variable {T : Nat → Option AFun} {H H' : Heap} {m n : Nat} {v s : Value} {L : List Int}

structure SeT (T : Nat → Option AFun) : Prop where
  law : T k_wicketlaw04_SectorLoads = some c_wicketlaw04_SectorLoads
  own : T k_wicketlaw04_own = some c_wicketlaw04_own
  marked : T k_wicketlaw04_marked = some c_wicketlaw04_marked
  load : T k_sector_Load = some c_sector_Load
  rload : T k_wicketref04_Load = some c_wicketref04_Load
  held : T k_wicketlaw04_held = some c_wicketlaw04_held
  image : T k_sector_Disk_Image = some c_sector_Disk_Image
  len : T k_sector_Disk_Len = some c_sector_Disk_Len
  waiting : T k_sector_Disk_Waiting = some c_sector_Disk_Waiting
  awake : ∀ n H, exec T (n + 1) (.fn k_wicketlaw04_awake) [] H = some (.bool true, H)

/-- The last statement: what is loaded tells the image. -/
theorem last_refused (hT : SeT T) {tm : Tr Value} {ds : List Nat} {rd : Option Nat} {nn : Nat} (t9 : tm.get 9 = some (.pointer none)) :
    ∃ t2, run (exec T m) nn rd c_wicketlaw04_SectorLoads_S17 ⟨tm, H, ds⟩ = some (.normal, ⟨t2, H, ds⟩) ∧ t2.get 4 = some (.bool true) := by
  simp (maxSteps := 1000000) (disch := first | omega | (simp; omega) | (simp; done) | fail) [c_wicketlaw04_SectorLoads_S17, t9]

theorem last_good (hT : SeT T) {N D d r bb c : Nat} {sp : Option Nat} (wf : WF H) (hb : Sl H 1 (.slice (some ⟨bb, 0, sp⟩) (N * 64) c) (N * 64) (iz .u8 L)) (hd : H.get d = some (.cells [.slice (some ⟨D, 0, some 0⟩) N N, .slice none 0 0] false 0))
    (hD : H.get D = some (.cells (iz .u8 L) false 64)) (hN : N ≤ 4096) (hm : N < m) (h1 : 1 ≤ N) {tm : Tr Value} {ds : List Nat} {rd : Option Nat} {nn : Nat} (t9 : tm.get 9 = some (.pointer (some ⟨r, 0, none⟩)))
    (t7 : tm.get 7 = some (.pointer (some ⟨d, 0, none⟩))) (t5 : tm.get 5 = some (.slice (some ⟨bb, 0, sp⟩) (N * 64) c)) :
    ∃ t2 H', run (exec T (m + 2)) nn rd c_wicketlaw04_SectorLoads_S17 ⟨tm, H, ds⟩ = some (.normal, ⟨t2, H', ds⟩) ∧ t2.get 4 = some (.bool true) ∧ Fr H H' [] := by
  have hstr := toStr_ok hb.toRd
  have hL : L.length = N * 64 := by have := hb.len; simpa using this
  obtain ⟨xs, hbb⟩ := hb.cells (b := bb) (by simp [blk])
  have n1 : d ≠ bb := by rintro rfl; rw [hd] at hbb; cases hbb
  have n2 : D ≠ bb := by rintro rfl; rw [hD] at hbb; cases hbb
  have f0 := Fr.put (r := bb) (o := .cells xs true 1) (fp := [bb]) wf (by rw [hbb]; simp) (by simp)
  obtain ⟨s', H2, e, g1, f1, b1⟩ := image_ok (m := m + 1) hT.image (f0.keep _ _ hd (by simpa using n1)) (f0.keep _ _ hD (by simpa using n2)) hL f0.wf hN (by omega)
  have hbl : bb < H.next := wf.lt hbb
  have f2 := Fr.put' (r := bb) (o := .cells xs false 1) (fp := [bb]) f1.wf (by have := f1.le; simp at this; omega) (by simp)
  have g2 := g1.fr f2 (by intro b hb2; have := b1 b hb2; simp at this ⊢; omega)
  have hstr2 := toStr_ok g2.toRd
  have hF : Fr H (H2.put bb (.cells xs false 1)) [] := by
    refine ⟨f2.wf, fun q o hq _ => ?_, ?_⟩
    · by_cases hqb : q = bb
      · subst hqb; rw [hbb] at hq; cases hq; simp
      · exact f2.keep _ _ (f1.keep _ _ (f0.keep _ _ hq (by simpa using hqb)) (by simp)) (by simpa using hqb)
    · have := f1.le; simpa using this
  have hd3 := hF.keep _ _ hd (by simp)
  have hlen := len_ok (T := T) (m := m + 1) (n := N) hT.len hd3
  have hwait := waiting_ok (T := T) (m := m) hT.waiting hd3
  simp only [Nat.add_assoc, Nat.reduceAdd] at e hlen
  have e1 : IntKind.i64.wrap (((N : Int) * 64) / 64) = (N : Int) := by rw [wrap_i64 (by omega) (by omega)]; omega
  have e1' : IntKind.i64.wrap (N : Int) = (N : Int) := wrap_i64 (by omega) (by omega)
  refine Exists.elim (?_ : ∃ t2, run (exec T (m + 2)) nn rd c_wicketlaw04_SectorLoads_S17 ⟨tm, H, ds⟩ = some (.normal, ⟨t2, H2.put bb (.cells xs false 1), ds⟩) ∧ t2.get 4 = some (.bool true)) fun t2 ht => ⟨t2, _, ht.1, ht.2, hF⟩
  simp (maxSteps := 1000000) (disch := first | omega | (simp; omega) | (simp; done) | fail) [c_wicketlaw04_SectorLoads_S17, t9, t7, t5, hstr, doperK_read, roAt_cells hbb, putBack_cells hbb, e, hstr2, hlen, hwait, goInt, binK_quo, e1, e1']
end Go.Proofs.Ytndpmlncjoglcaa
