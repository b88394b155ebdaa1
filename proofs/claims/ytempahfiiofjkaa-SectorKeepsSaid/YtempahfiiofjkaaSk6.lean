/- Disks: reading behind a flush; the lists that are handed in. -/
import Derived.Test.YtempahfiiofjkaaSk5
namespace Go.Proofs.Ytempahfiiofjkaa
open Go
set_option linter.unusedVariables false
set_option linter.unusedSimpArgs false

section
variable {n p k i es m : Nat} {sp : Option Nat} {ds : List (List Int)} {ws : List (Int × List Int)} {L F G A B : Ch} {h : Heap} {s u : Value} {X K : List Int} {cs : List Value}
theorem some_ok (hu : Sow 1 u X.length (iz .i64 X) G) (hf : u = .slice none 0 0 ∨ ∃ b, u = .slice (some ⟨b, 0, none⟩) X.length X.length) (ho : Own h (G ++ F)) :
    ∃ s h' A', f_wicketlaw04_some n u h = some ((s, ()), h') ∧ Slc 1 s (X.take 30).length (iz .i64 (X.take 30)) A' ∧ Own h' (A' ++ (G ++ F)) := by
  have hm : (if 30 < (X.length : Int) then 30 else (X.length : Int)) = ((min X.length 30 : Nat) : Int) := by split <;> omega
  have hl := (hu.rds ho).lenB
  have o1 := ho.new (.cells [] false 1)
  have hs : Slc 1 (.slice (some ⟨h.next, 0, some 0⟩) 0 0) 0 [] [(h.next, .cells ([] ++ ([] ++ [])) false 1)] := .mk rfl rfl rfl
  have src := (hu.rds ho).src
  obtain ⟨u', e0, hu'⟩ : ∃ u', sliceK (h.new (.cells [] false 1)) 1 none (some (.int .i64 ((min X.length 30 : Nat) : Int))) none u = some (u', h.new (.cells [] false 1)) ∧ Rds (h.new (.cells [] false 1)) 1 u' (X.take 30).length (iz .i64 (X.take 30)) := by
    have hr := hu.rds (h := h.new (.cells [] false 1)) (F := (h.next, .cells [] false 1) :: F) (o1.to fun x => by simp only [cnt_append, cnt_cons]; omega)
    rcases hf with rfl | ⟨b, rfl⟩
    · have : X = [] := List.eq_nil_of_length_eq_zero (by simpa using hl.symm)
      subst this
      exact ⟨_, rfl, hr⟩
    · refine ⟨_, sliceK_h (by omega), ⟨some ⟨b, 0, none⟩, X.length, by rw [List.length_take, Nat.min_comm]⟩, by simp, fun i hi => ?_, some ⟨b, 0, none⟩, X.length, by rw [List.length_take, Nat.min_comm], ?_⟩
      · rw [List.length_take] at hi
        obtain ⟨q, e1, e2⟩ := hr.ix i (by omega)
        refine ⟨q, ?_, ?_⟩
        · have hA : ixB 1 (.slice (some ⟨b, 0, none⟩) X.length X.length) (i : Int) = (bif Nat.blt i X.length then some ⟨b, 0 + i * 1, none⟩ else none) := rfl
          rw [hA, show Nat.blt i X.length = true from Nat.ble_eq_true_of_le (by omega), cond_true] at e1
          show (bif Nat.blt i (min X.length 30) then _ else none) = _
          rw [show Nat.blt i (min X.length 30) = true from Nat.ble_eq_true_of_le (by omega), ← e1]; rfl
        · have : ((iz .i64 (X.take 30)).drop (i * 1)).take 1 = ((iz .i64 X).drop (i * 1)).take 1 := by
            simp only [iz, List.map_take]
            rw [List.drop_take, List.take_take]
            congr 1; omega
          rw [this]; exact e2
      · obtain ⟨a, c, e, e2⟩ := hr.src
        cases e
        have e2 : readCells (h.new (.cells [] false 1)) b 0 (X.length * 1) = some (iz .i64 X) := e2
        show readCells (h.new (.cells [] false 1)) b 0 ((X.take 30).length * 1) = _
        rw [List.length_take]
        simp only [readCells] at e2 ⊢
        split at e2
        · rename_i cs _ _ hgb
          cases hc : Nat.ble (0 + X.length * 1) cs.length with
          | false => rw [hc] at e2; cases e2
          | true =>
            rw [hc, cond_true] at e2
            have e3 := Option.some.inj e2
            have hle := Nat.le_of_ble_eq_true hc
            rw [show Nat.ble (0 + min 30 X.length * 1) cs.length = true from Nat.ble_eq_true_of_le (by omega), cond_true]
            congr 1
            have : iz .i64 (X.take 30) = (iz .i64 X).take 30 := by simp [iz, List.map_take]
            rw [this, ← e3, List.take_take]
            congr 1; omega
        · cases e2
  obtain ⟨s', h', A', e1, e2, e3⟩ := hs.app (F := G ++ F) o1 hu' (by decide) (bytes := 8) (by simp; omega)
  refine ⟨s', h', A', ?_, by simpa using e2, e3⟩
  have hf0 : fillL [] [] = some [] := rfl
  simp only [f_wicketlaw04_some, hf0, Option.bind_some, bnd_eq, hl, hm, e0, e1, e2.notT, Bool.not_false, cond_true]

/-- A part of a slice, as a slice of its own. -/
theorem slc_part (hs : Slc es s n cs A) (hi : i < n) (sp : Option Nat) : ∃ q, ixB es s (i : Int) = some q ∧ Sow 1 (.slice (some ⟨q.block, q.off, sp⟩) es es) es ((cs.drop (i * es)).take es) A := by
  cases hs with
  | nil => omega
  | @mk b off sp' _ c pre _ rest hp hl hr =>
    subst hp
    have h1 : (i + 1) * es ≤ n * es := Nat.mul_le_mul_right es hi
    rw [Nat.add_mul, Nat.one_mul] at h1
    refine ⟨⟨b, pre.length + i * es, none⟩, ?_, ?_⟩
    · show (bif Nat.blt i n then _ else none) = _
      rw [show Nat.blt i n = true from Nat.ble_eq_true_of_le hi]; rfl
    · have := Sow.piece (b := b) (off := pre.length + i * es) (n := es) (c := es) (sp := sp) (cs := pre ++ (cs ++ rest)) (ro := false) (e := es) (by simp; omega)
      rwa [← List.drop_drop, List.drop_left, List.drop_append_of_le_length (by omega), List.take_append_of_le_length (by simp; omega)] at this

theorem read_ok (hd : Dk p ds [] L) (ho : Own h (L ++ F)) (hi : i < ds.length) (hn : 1 ≤ n) :
    ∃ s h' A', f_sector_Disk_Read n (some ⟨p, 0, none⟩) (i : Int) h = some ((s, (0, ())), h') ∧ Slc 1 s 64 (iz .u8 ds[i]) A' ∧ Own h' (A' ++ (L ++ F)) := by
  have o1 := ho.new (.cells [.int .i64 (i : Int)] false 0)
  generalize hb0 : h.next = b0 at o1
  generalize hh1 : h.new (.cells [.int .i64 (i : Int)] false 0) = h1 at o1
  have o2 := o1.new (.cells [.slice none 0 0] false 0)
  generalize hb1 : h1.next = b1 at o2
  generalize hh2 : h1.new (.cells [.slice none 0 0] false 0) = h2 at o2
  have o3 := o2.new (.cells [.int .i64 0] false 0)
  generalize hb2 : h2.next = b2 at o3
  generalize hh3 : h2.new (.cells [.int .i64 0] false 0) = h3 at o3
  have ha := asked_ok (n := n) (sp := none) (i := (i : Int)) hd (F := (b2, .cells [.int .i64 0] false 0) :: (b1, .cells [.slice none 0 0] false 0) :: (b0, .cells [.int .i64 (i : Int)] false 0) :: F) (h := h3) (o3.to fun x => by simp only [cnt_append, cnt_cons]; omega) (by omega) (by omega)
  obtain ⟨sd, sw, A, B, a1, a2, a3, rfl⟩ := hd
  obtain ⟨n', rfl⟩ : ∃ n', n = n' + 1 := ⟨n - 1, by omega⟩
  have g3 := o3.get (p, .cells [sd, sw] false 0) (by simp)
  have l1 : ldT .any h3 (some ⟨p, 1, none⟩) = some sw := by rw [ldT_of g3]; rfl
  have l0 : ldT (.int .i64) h3 (some ⟨b0, 0, none⟩) = some (i : Int) := by rw [ldT_of (o3.get (b0, .cells [.int .i64 (i : Int)] false 0) (by simp))]; simp
  have o4 := o3.new (.cells [sw] false 0)
  generalize hb3 : h3.next = b3 at o4
  generalize hh4 : h3.new (.cells [sw] false 0) = h4 at o4
  have o5 := o4.hole.hole
  generalize hh5 : h4.hole.hole = h5 at o5
  have lw : ldT .any h5 (some ⟨b3, 0, none⟩) = some sw := by rw [ldT_of o5.head]; rfl
  have hl0 : lenB sw = some 0 := a2.lenB
  have hcs := a2.cellsOf
  have hw : IntKind.i64.wrap (((0 : Nat) : Int) - 1) = -1 := by decide
  have hbw : f_slices_Backward_sector_waiting_sector_waiting (n' + 1) sw h3 = some ((((some ⟨b3, 0, none⟩), ()), ()), h4) := by
    have : ([sw] : List Value).all isCell = true := by simp [a2.isCell]
    simp only [f_slices_Backward_sector_waiting_sector_waiting, hcs, this, cond_true, bnd_eq, hh4, nwA_eq, hb3]
  have hit : ∀ y, f_slices_Backward_sector_waiting_sector_waiting_1 (V := Heap × Nat) (fun v => v.1) (fun v h => (h, v.2)) y (n' + 1) (some ⟨b3, 0, none⟩) (h5, 0) = some (h5, 0) := by
    intro y
    simp only [f_slices_Backward_sector_waiting_sector_waiting_1, lw, Option.bind_some, hl0, hw]
    rfl
  have g5 := o5.get (p, .cells [sd, sw] false 0) (by simp)
  have l5 : ldT .any h5 (some ⟨p, 0, none⟩) = some sd := by rw [ldT_of g5]; rfl
  have l6 : ldT (.int .i64) h5 (some ⟨b0, 0, none⟩) = some (i : Int) := by rw [ldT_of (o5.get (b0, .cells [.int .i64 (i : Int)] false 0) (by simp))]; simp
  obtain ⟨q, e1, e2⟩ := slc_part a1 hi (some 0)
  rw [flat_get a3.d hi] at e2
  have e3 : sliceArrK h5 64 1 none none (.pointer (some q)) = some (.slice (some ⟨q.block, q.off, some 0⟩) 64 64, h5) := by
    show some (Value.slice (some ⟨q.block, q.off + 0 * 1, some 0⟩) 64 64, h5) = _
    rfl
  obtain ⟨s', h6, A', e4, e5, o6⟩ := clone1_ok (n := n' + 1) (G := A) e2 (F := (b1, .cells [.slice none 0 0] false 0) :: (b2, .cells [.int .i64 0] false 0) :: (p, .cells [sd, sw] false 0) :: (B ++ F)) (h := h5) (o5.to fun x => by simp only [cnt_append, cnt_cons, List.cons_append]; omega) (by omega)
  have o7 : Own h6 ((b1, .cells [.slice none 0 0] false 0) :: (b2, .cells [.int .i64 0] false 0) :: (A' ++ ((p, .cells [sd, sw] false 0) :: (A ++ (B ++ F))))) := o6.to fun x => by simp only [cnt_append, cnt_cons]; omega
  have e6 := stB1_of (sp := none) (o := 0) (v := s') o7.head e5.cellsOf e5.isCell (by decide)
  have o8 := o7.put (.cells [s'] false 0)
  simp only [List.set_cons_zero] at e6
  generalize hh7 : h6.put b1 (.cells [s'] false 0) = h7 at e6 o8
  have o9 : Own h7 ((b2, .cells [.int .i64 0] false 0) :: (b1, .cells [s'] false 0) :: (A' ++ ((p, .cells [sd, sw] false 0) :: (A ++ (B ++ F))))) := o8.to fun x => by simp only [cnt_append, cnt_cons]; omega
  have e7 := stB1_of (sp := none) (o := 0) (v := .int .i64 0) o9.head rfl rfl (by decide)
  have o10 := o9.put (.cells [.int .i64 0] false 0)
  simp only [List.set_cons_zero] at e7
  generalize hh8 : h7.put b2 (.cells [.int .i64 0] false 0) = h8 at e7 o10
  have l7 : ldT .any h8 (some ⟨b1, 0, none⟩) = some s' := by rw [ldT_of (o10.get (b1, .cells [s'] false 0) (by simp))]; rfl
  have l8 : ldT (.int .i64) h8 (some ⟨b2, 0, none⟩) = some 0 := by rw [ldT_of o10.head]; rfl
  refine ⟨s', h8, A', ?_, e5, o10.to fun x => by simp only [cnt_append, cnt_cons, List.cons_append]; omega⟩
  simp only [f_sector_Disk_Read, bnd_eq, hh1, hh2, hh3, nwA_eq, hb0, hb1, hb2, l0, Option.bind_some, ha, decide_true, Bool.not_true, cond_false, fa_mk, Nat.zero_add, l1, hbw, hh5, hit, nat_beq_eq, cond_true, l5, l6, e1, e3, e4, e6, e7, l7, e5.notT, Bool.not_false, l8]
end
end Go.Proofs.Ytempahfiiofjkaa
