/- Disks: what waits is written. -/
import Derived.Test.YtempahfiiofjkaaSk2
namespace Go.Proofs.Ytempahfiiofjkaa
open Go
set_option linter.unusedVariables false
set_option linter.unusedSimpArgs false

/-- The writes that are kept, one by one. -/
def ak (P : Nat → Bool) (ws : List (Int × List Int)) : Nat → List (List Int) → List (List Int)
  | 0, ds => ds
  | j + 1, ds => if P j then (match ws[j]? with | some w => (ak P ws j ds).set w.1.toNat w.2 | none => ak P ws j ds) else ak P ws j ds
section
variable {P : Nat → Bool} {ws : List (Int × List Int)} {ds : List (List Int)} {j : Nat}
theorem ak_succ (hj : j < ws.length) : ak P ws (j + 1) ds = if P j then (ak P ws j ds).set ws[j].1.toNat ws[j].2 else ak P ws j ds := by
  simp only [ak, List.getElem?_eq_getElem hj]
theorem ak_len : (ak P ws j ds).length = ds.length := by
  induction j with
  | zero => rfl
  | succ j ih =>
    simp only [ak]
    split
    · split
      · rw [List.length_set, ih]
      · exact ih
    · exact ih
theorem ak_ok (hd : Okd ds ws) : ∀ d ∈ ak P ws j ds, (iz .u8 d).length = 64 := by
  induction j with
  | zero => exact hd.d
  | succ j ih =>
    simp only [ak]
    split
    · split
      · rename_i w hw
        intro d hm
        rcases List.mem_or_eq_of_mem_set hm with hm | rfl
        · exact ih d hm
        · have := hd.w w (List.mem_of_getElem? hw)
          simpa [wc] using this
      · exact ih
    · exact ih
end

abbrev z65 : List Value := .int .i64 0 :: List.replicate 64 (.int .u8 0)

section
variable {n p t j : Nat} {sp : Option Nat} {ds : List (List Int)} {ws : List (Int × List Int)} {L F G A B : Ch} {h : Heap} {i : Int} {s u sd sw : Value} {X : List Int} {w : Int × List Int}

/-- A waiting write, loaded into a place of its own. -/
theorem temp_ok (a2 : Slc 65 sw ws.length (ws.flatMap wc) B) (hk : Okd ds ws) (ho : Own h (B ++ F)) (hj : j < ws.length) :
    ∃ q h', ixB 65 sw (j : Int) = some q ∧ ldA 65 h (some q) = some (wc ws[j]) ∧ stB 65 (.agg ⟨wc ws[j]⟩) (h.new (.cells z65 false 0)) (some ⟨h.next, 0, none⟩) = some h' ∧ Own h' ((h.next, .cells (wc ws[j]) false 0) :: (B ++ F)) := by
  obtain ⟨q, e1, e2⟩ := (a2.rds ho).ix j hj
  rw [flat_get hk.w hj] at e2
  have hl := hk.w _ (List.getElem_mem hj)
  have hc : (wc ws[j]).all isCell = true := by simp only [wc, List.all_cons, iz_cell]; rfl
  have e3 := e2.ldA0 (k := 65) (by rw [hl]; exact Nat.le_refl _)
  rw [List.take_of_length_le (by omega)] at e3
  have o1 := ho.new (.cells z65 false 0)
  refine ⟨q, _, e1, e3, ?_, o1.put (.cells (wc ws[j]) false 0)⟩
  rw [stBA_of o1.head hl hc (by simp), writeAt_all (by rw [hl]; simp)]

/-- Such a write, written. -/
theorem apply_ok (a1 : Slc 64 sd ds.length (ds.flatMap (iz .u8)) A) (hd : ∀ d ∈ ds, (iz .u8 d).length = 64) (hw : (wc w).length = 65) (h0 : 0 ≤ w.1) (h1 : w.1 < ds.length)
    (ho : Own h ((t, .cells (wc w) false 0) :: (p, .cells [sd, sw] false 0) :: (A ++ F))) :
    ∃ q h' A', ldT .any h (some ⟨p, 0, none⟩) = some sd ∧ ldT (.int .i64) h (some ⟨t, 0, none⟩) = some w.1 ∧ ldA 64 h (some ⟨t, 1, none⟩) = some (iz .u8 w.2) ∧ ixB 64 sd w.1 = some q ∧ stB 64 (.agg ⟨iz .u8 w.2⟩) h (some q) = some h' ∧
      Slc 64 sd ds.length ((ds.set w.1.toNat w.2).flatMap (iz .u8)) A' ∧ Own h' ((p, .cells [sd, sw] false 0) :: (A' ++ F)) := by
  have hl : (iz .u8 w.2).length = 64 := by simpa [wc] using hw
  have hi : w.1.toNat < ds.length := by omega
  obtain ⟨q, h', A', e1, e2, e3, e4⟩ := slc_set a1 (F := (p, .cells [sd, sw] false 0) :: F) (ho.to fun x => by simp only [cnt_append, cnt_cons]; omega) hi hl iz_cell
  rw [flat_set hd hl hi] at e3
  rw [Int.toNat_of_nonneg h0] at e1
  refine ⟨q, h', A', ?_, ?_, ?_, e1, e2, e3, e4.to fun x => by simp only [cnt_append, cnt_cons]; omega⟩
  · rw [ldT_of ho.tail.head]; rfl
  · rw [ldT_of ho.head]; simp [wc]
  · rw [ldA_of ho.head (by rw [hw]; exact Nat.le_refl _)]
    simp only [wc, List.drop_succ_cons, List.drop_zero]
    rw [List.take_of_length_le (by rw [hl]; exact Nat.le_refl _)]

theorem flush_ok (hd : Dk p ds ws L) (ho : Own h (L ++ F)) (hlen : ws.length ≤ 1000) (hn : 2000 ≤ n) :
    ∃ h' L', f_sector_Disk_Flush n (some ⟨p, 0, sp⟩) h = some (((ws.length : Int), (0, ())), h') ∧ Dk p (ak (fun _ => true) ws ws.length ds) [] L' ∧ Own h' (L' ++ F) := by
  obtain ⟨sd, sw, A, B, a1, a2, a3, rfl⟩ := hd
  have hg := ho.head
  obtain ⟨⟨x, h'⟩, e, A', q1, q2⟩ := loopT_up (f := fun a => f_sector_Disk_Flush_L15 n (some ⟨p, 0, sp⟩) sw ws.length a.1.1 a.2)
    (fun j (a : (Int × Unit) × Heap) => a.1.1 = (j : Int) ∧ ∃ A', Slc 64 sd ds.length ((ak (fun _ => true) ws j ds).flatMap (iz .u8)) A' ∧ Own a.2 ((p, .cells [sd, sw] false 0) :: (A' ++ (B ++ F))))
    (fun r => ∃ A', Slc 64 sd ds.length ((ak (fun _ => true) ws ws.length ds).flatMap (iz .u8)) A' ∧ Own r.2 ((p, .cells [sd, sw] false 0) :: (A' ++ (B ++ F)))) (N := ws.length) (k := n) (j := 0) (a := ((0, ()), h)) (by omega) (by omega)
    ⟨rfl, A, a1, ho.to fun x => by simp only [cnt_append, cnt_cons, List.cons_append]; omega⟩
    (fun j a hj hi => by
      obtain ⟨⟨v, _⟩, h1⟩ := a
      obtain ⟨rfl, A1, hs1, o1⟩ := hi
      have o1 : Own h1 _ := o1
      have hlt : (j : Int) < (ws.length : Int) := by omega
      obtain ⟨q, h2, e1, e2, e3, o2⟩ := temp_ok (F := (p, .cells [sd, sw] false 0) :: (A1 ++ F)) a2 a3 (o1.to fun x => by simp only [cnt_append, cnt_cons]; omega) hj
      generalize ht : h1.next = t at e3 o2
      have hw := a3.r _ (List.getElem_mem hj)
      rw [← ak_len (P := fun _ => true) (ws := ws) (j := j)] at hs1
      obtain ⟨q', h3, A3, g1, g2, g3, g4, g5, g6, o3⟩ := apply_ok (F := B ++ F) (sw := sw) (p := p) (t := t) hs1 (ak_ok a3) (a3.w _ (List.getElem_mem hj)) hw.1 (by rw [ak_len]; exact hw.2) (o2.to fun x => by simp only [cnt_append, cnt_cons]; omega)
      rw [ak_len] at g6
      refine .inl ⟨((((j + 1 : Nat) : Int), ()), h3), ?_, rfl, A3, by rw [ak_succ hj, if_pos rfl]; exact g6, o3⟩
      simp only [z65, List.replicate] at e3
      simp only [f_sector_Disk_Flush_L15, hlt, decide_true, cond_true, e1, e2, Option.bind_some, bnd_eq, nwA_eq, ht, e3, fa_mk, Nat.zero_add, g1, g2, g3, g4, g5, wrap_succ (show j < 4611686018427387904 by omega)])
    (fun a hi => by
      obtain ⟨⟨v, _⟩, h1⟩ := a
      obtain ⟨rfl, A1, hs1, o1⟩ := hi
      exact ⟨((), h1), by simp [f_sector_Disk_Flush_L15], A1, hs1, o1⟩)
  have o2 : Own h' _ := q2
  refine ⟨_, _, ?_, ⟨sd, .slice none 0 0, A', [], by rw [ak_len]; exact q1, .nil, ⟨ak_ok a3, fun _ h => absurd h List.not_mem_nil, fun _ h => absurd h List.not_mem_nil⟩, rfl⟩, (o2.put (.cells [sd, .slice none 0 0] false 0)).to fun x => by simp only [cnt_append, cnt_cons, cnt_nil, List.cons_append]; omega⟩
  have e' : loopT (fun a => f_sector_Disk_Flush_L15 n (some ⟨p, 0, sp⟩) sw ws.length a.1.1 a.2) n ((0, ()), h) = some (x, h') := e
  simp [f_sector_Disk_Flush, ldT_of hg, a2.lenB, e', ldT_of o2.head, stB1_of o2.head (v := .slice none 0 0) rfl rfl]
end
end Go.Proofs.Ytempahfiiofjkaa
