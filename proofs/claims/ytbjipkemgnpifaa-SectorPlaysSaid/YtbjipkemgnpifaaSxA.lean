/- SxA: put together from Sk1 Sk2 Sk3 Sk4 Sk5 Sk6. -/
import Derived.Test.YtbjipkemgnpifaaS5
import Derived.Test.YtbjipkemgnpifaaLSectorPlays
namespace Go.Proofs.Ytbjipkemgnpifaa
open Go
set_option linter.unusedVariables false
set_option linter.unusedSimpArgs false

/- ==== from Sk1 -/


def wc (w : Int × List Int) : List Value := .int .i64 w.1 :: iz .u8 w.2
structure Okd (ds : List (List Int)) (ws : List (Int × List Int)) : Prop where
  d : ∀ d ∈ ds, (iz .u8 d).length = 64
  w : ∀ w ∈ ws, (wc w).length = 65
  r : ∀ w ∈ ws, 0 ≤ w.1 ∧ w.1 < ds.length
/-- A disk: its sectors, the writes that wait. -/
def Dk (p : Nat) (ds : List (List Int)) (ws : List (Int × List Int)) (L : Ch) : Prop :=
  ∃ sd sw A B, Slc 64 sd ds.length (ds.flatMap (iz .u8)) A ∧ Slc 65 sw ws.length (ws.flatMap wc) B ∧ Okd ds ws ∧ L = (p, .cells [sd, sw] false 0) :: (A ++ B)

section
variable {n p : Nat} {sp : Option Nat} {ds : List (List Int)} {ws : List (Int × List Int)} {L F G : Ch} {h : Heap} {i : Int} {s u : Value} {X : List Int}

theorem asked_ok (hd : Dk p ds ws L) (ho : Own h (L ++ F)) (h0 : 0 ≤ i) (h1 : i < ds.length) : f_sector_Disk_asked n (some ⟨p, 0, sp⟩) i h = some ((0, ()), h) := by
  obtain ⟨sd, sw, A, B, a1, a2, a3, rfl⟩ := hd
  have hg := ho.head
  have e1 : ¬ i < 0 := by omega
  have e2 : ¬ (ds.length : Int) ≤ i := by omega
  simp [f_sector_Disk_asked, ldT_of hg, a1.lenB, e1, e2]

theorem write_ok (hd : Dk p ds ws L) (hu : Sow 1 u 64 (iz .u8 X) G) (ho : Own h (L ++ (G ++ F))) (h0 : 0 ≤ i) (h1 : i < ds.length) (hlen : ws.length ≤ 1000) (hne : ∃ b k c, u = .slice (some b) k c) :
    ∃ h' L', f_sector_Disk_Write n (some ⟨p, 0, sp⟩) i u h = some ((0, ()), h') ∧ Dk p ds (ws ++ [(i, X)]) L' ∧ Own h' (L' ++ (G ++ F)) := by
  have ha := asked_ok (n := n) (sp := sp) hd ho h0 h1
  obtain ⟨sd, sw, A, B, a1, a2, a3, rfl⟩ := hd
  have hg := ho.head
  have hr := hu.rds (h := h) (F := (p, .cells [sd, sw] false 0) :: (A ++ B ++ F)) (ho.to fun x => by simp only [cnt_append, cnt_cons, cnt_nil]; omega)
  obtain ⟨b, k, c, rfl⟩ := hne
  obtain rfl : k = 64 := by have := hr.lenB; simpa using this
  have hX : (iz .u8 X).length = 64 := hr.len
  obtain ⟨a', c', e', src⟩ := hr.src
  cases e'
  have src' : readCells h b.block b.off 64 = some (iz .u8 X) := src
  have hld : ldA 64 h (some ⟨b.block, b.off, none⟩) = some (iz .u8 X) := src'
  have f1 : fillL (.int .i64 0 :: List.replicate 64 (.int .u8 0)) [(0, 1, .int .i64 i), (1, 64, .agg ⟨iz .u8 X⟩)] = some (wc (i, X)) := by
    have c1 : (Nat.beq (cellsOf (.agg ⟨iz .u8 X⟩)).length 64 && Nat.ble (1 + 64) (writeAt (.int .i64 0 :: List.replicate 64 (.int .u8 0)) 0 [.int .i64 i]).length && (cellsOf (.agg ⟨iz .u8 X⟩)).all isCell) = true := by
      show (Nat.beq (iz .u8 X).length 64 && true && (iz .u8 X).all isCell) = true
      rw [hX, iz_cell]; rfl
    show (bif (Nat.beq (cellsOf (.agg ⟨iz .u8 X⟩)).length 64 && Nat.ble (1 + 64) (writeAt (.int .i64 0 :: List.replicate 64 (.int .u8 0)) 0 [.int .i64 i]).length && (cellsOf (.agg ⟨iz .u8 X⟩)).all isCell) then some (writeAt (writeAt (.int .i64 0 :: List.replicate 64 (.int .u8 0)) 0 [.int .i64 i]) 1 (iz .u8 X)) else none) = _
    rw [c1, cond_true]
    show some (writeAt (.int .i64 i :: List.replicate 64 (.int .u8 0)) 1 (iz .u8 X)) = _
    rw [writeAt_tail (by rw [hX]; rfl)]; rfl
  have hwc : (wc (i, X)).length = 65 := by simp only [wc, List.length_cons, hX]
  have hwa : (wc (i, X)).all isCell = true := by simp only [wc, List.all_cons, iz_cell]; rfl
  have f2 : fillL (.int .i64 0 :: List.replicate 64 (.int .u8 0)) [(0, 65, .agg ⟨wc (i, X)⟩)] = some (wc (i, X)) := by
    show (bif (Nat.beq (wc (i, X)).length 65 && true && (wc (i, X)).all isCell) then some (writeAt (.int .i64 0 :: List.replicate 64 (.int .u8 0)) 0 (wc (i, X))) else none) = _
    rw [hwc, hwa]
    show some (writeAt _ 0 _) = _
    rw [writeAt_all (by rw [hwc]; rfl)]
  obtain ⟨s', h1', B', e1, e2, e3⟩ := a2.push (new := wc (i, X)) (F := (p, .cells [sd, sw] false 0) :: (A ++ (G ++ F))) (ho.to fun x => by simp only [cnt_append, cnt_cons, cnt_nil, List.cons_append]; omega) (by decide) hwc (bytes := 72) (by omega)
  have e4 : Own h1' ((p, .cells [sd, sw] false 0) :: (A ++ B' ++ (G ++ F))) := e3.to fun x => by simp only [cnt_append, cnt_cons, cnt_nil]; omega
  refine ⟨_, _, ?_, ⟨sd, s', A, B', a1, by simpa using e2, ⟨a3.d, fun w hw => ?_, fun w hw => ?_⟩, rfl⟩, e4.put (.cells [sd, s'] false 0)⟩
  · simp only [f_sector_Disk_Write, ha, Option.bind_some, decide_true, Bool.not_true, cond_false, lenB_slice]
    rw [show (!decide (((64 : Nat) : Int) = 64)) = false from rfl, cond_false]
    have ar : arrB h 64 (.slice (some b) 64 c) = some (some ⟨b.block, b.off, none⟩) := rfl
    simp only [ldT_of hg, fa_mk, Nat.zero_add, Option.bind_some, ar, hld, bnd_eq]
    have g1 := f1; have g2 := f2
    simp only [List.replicate] at g1 g2
    simp [g1, g2, e1, stB1_of e4.head e2.cellsOf e2.isCell]
  · rcases List.mem_append.1 hw with hw | hw
    · exact a3.w w hw
    · simp only [List.mem_singleton] at hw; subst hw; exact hwc
  · rcases List.mem_append.1 hw with hw | hw
    · exact a3.r w hw
    · simp only [List.mem_singleton] at hw; subst hw; exact ⟨h0, h1⟩
end

/- ==== from Sk2 -/


theorem set_fill {α : Type} {a b : α} {j m : Nat} : (List.replicate j a ++ List.replicate (m + 1) b).set j a = List.replicate (j + 1) a ++ List.replicate m b := by
  rw [List.set_append_right _ _ (by simp)]
  rw [List.length_replicate, Nat.sub_self, List.replicate_succ, List.set_cons_zero, List.replicate_succ', List.append_assoc]; rfl
theorem iz_set {k : IntKind} {L : List Int} {j : Nat} {z : Int} : (iz k L).set j (.int k z) = iz k (L.set j z) := by simp [iz, List.map_set]
theorem iz_rep {k : IntKind} {m : Nat} {z : Int} : iz k (List.replicate m z) = List.replicate m (.int k z) := by simp [iz]

section
variable {n p : Nat} {sp : Option Nat} {ds : List (List Int)} {ws : List (Int × List Int)} {L F G : Ch} {h : Heap} {i : Int} {s u : Value} {X : List Int}

end

/- ==== from Sk3 -/


/-- The writes that are kept, one by one. -/
def ak (P : Nat → Bool) (ws : List (Int × List Int)) : Nat → List (List Int) → List (List Int)
  | 0, ds => ds
  | j + 1, ds => if P j then (match ws[j]? with | some w => (ak P ws j ds).set w.1.toNat w.2 | none => ak P ws j ds) else ak P ws j ds
section
variable {P : Nat → Bool} {ws : List (Int × List Int)} {ds : List (List Int)} {j : Nat}
theorem ak_succ (hj : j < ws.length) : ak P ws (j + 1) ds = if P j then (ak P ws j ds).set ws[j].1.toNat ws[j].2 else ak P ws j ds := by
  simp only [ak, List.getElem?_eq_getElem hj]
theorem ak_len : (ak P ws j ds).length = ds.length := by
  induction j with
  | zero => rfl
  | succ j ih =>
    simp only [ak]
    split
    · split
      · rw [List.length_set, ih]
      · exact ih
    · exact ih
theorem ak_ok (hd : Okd ds ws) : ∀ d ∈ ak P ws j ds, (iz .u8 d).length = 64 := by
  induction j with
  | zero => exact hd.d
  | succ j ih =>
    simp only [ak]
    split
    · split
      · rename_i w hw
        intro d hm
        rcases List.mem_or_eq_of_mem_set hm with hm | rfl
        · exact ih d hm
        · have := hd.w w (List.mem_of_getElem? hw)
          simpa [wc] using this
      · exact ih
    · exact ih
end

abbrev z65 : List Value := .int .i64 0 :: List.replicate 64 (.int .u8 0)

section
variable {n p t j : Nat} {sp : Option Nat} {ds : List (List Int)} {ws : List (Int × List Int)} {L F G A B : Ch} {h : Heap} {i : Int} {s u sd sw : Value} {X : List Int} {w : Int × List Int}

/-- A waiting write, loaded into a place of its own. -/
theorem temp_ok (a2 : Slc 65 sw ws.length (ws.flatMap wc) B) (hk : Okd ds ws) (ho : Own h (B ++ F)) (hj : j < ws.length) :
    ∃ q h', ixB 65 sw (j : Int) = some q ∧ ldA 65 h (some q) = some (wc ws[j]) ∧ stB 65 (.agg ⟨wc ws[j]⟩) (h.new (.cells z65 false 0)) (some ⟨h.next, 0, none⟩) = some h' ∧ Own h' ((h.next, .cells (wc ws[j]) false 0) :: (B ++ F)) := by
  obtain ⟨q, e1, e2⟩ := (a2.rds ho).ix j hj
  rw [flat_get hk.w hj] at e2
  have hl := hk.w _ (List.getElem_mem hj)
  have hc : (wc ws[j]).all isCell = true := by simp only [wc, List.all_cons, iz_cell]; rfl
  have e3 := e2.ldA0 (k := 65) (by rw [hl]; exact Nat.le_refl _)
  rw [List.take_of_length_le (by omega)] at e3
  have o1 := ho.new (.cells z65 false 0)
  refine ⟨q, _, e1, e3, ?_, o1.put (.cells (wc ws[j]) false 0)⟩
  rw [stBA_of o1.head hl hc (by simp), writeAt_all (by rw [hl]; simp)]

/-- Such a write, written. -/
theorem apply_ok (a1 : Slc 64 sd ds.length (ds.flatMap (iz .u8)) A) (hd : ∀ d ∈ ds, (iz .u8 d).length = 64) (hw : (wc w).length = 65) (h0 : 0 ≤ w.1) (h1 : w.1 < ds.length)
    (ho : Own h ((t, .cells (wc w) false 0) :: (p, .cells [sd, sw] false 0) :: (A ++ F))) :
    ∃ q h' A', ldT .any h (some ⟨p, 0, none⟩) = some sd ∧ ldT (.int .i64) h (some ⟨t, 0, none⟩) = some w.1 ∧ ldA 64 h (some ⟨t, 1, none⟩) = some (iz .u8 w.2) ∧ ixB 64 sd w.1 = some q ∧ stB 64 (.agg ⟨iz .u8 w.2⟩) h (some q) = some h' ∧
      Slc 64 sd ds.length ((ds.set w.1.toNat w.2).flatMap (iz .u8)) A' ∧ Own h' ((p, .cells [sd, sw] false 0) :: (A' ++ F)) := by
  have hl : (iz .u8 w.2).length = 64 := by simpa [wc] using hw
  have hi : w.1.toNat < ds.length := by omega
  obtain ⟨q, h', A', e1, e2, e3, e4⟩ := slc_set a1 (F := (p, .cells [sd, sw] false 0) :: F) (ho.to fun x => by simp only [cnt_append, cnt_cons]; omega) hi hl iz_cell
  rw [flat_set hd hl hi] at e3
  rw [Int.toNat_of_nonneg h0] at e1
  refine ⟨q, h', A', ?_, ?_, ?_, e1, e2, e3, e4.to fun x => by simp only [cnt_append, cnt_cons]; omega⟩
  · rw [ldT_of ho.tail.head]; rfl
  · rw [ldT_of ho.head]; simp [wc]
  · rw [ldA_of ho.head (by rw [hw]; exact Nat.le_refl _)]
    simp only [wc, List.drop_succ_cons, List.drop_zero]
    rw [List.take_of_length_le (by rw [hl]; exact Nat.le_refl _)]

theorem flush_ok (hd : Dk p ds ws L) (ho : Own h (L ++ F)) (hlen : ws.length ≤ 1000) (hn : 2000 ≤ n) :
    ∃ h' L', f_sector_Disk_Flush n (some ⟨p, 0, sp⟩) h = some (((ws.length : Int), (0, ())), h') ∧ Dk p (ak (fun _ => true) ws ws.length ds) [] L' ∧ Own h' (L' ++ F) := by
  obtain ⟨sd, sw, A, B, a1, a2, a3, rfl⟩ := hd
  have hg := ho.head
  obtain ⟨⟨x, h'⟩, e, A', q1, q2⟩ := loopT_up (f := fun a => f_sector_Disk_Flush_L15 n (some ⟨p, 0, sp⟩) sw ws.length a.1.1 a.2)
    (fun j (a : (Int × Unit) × Heap) => a.1.1 = (j : Int) ∧ ∃ A', Slc 64 sd ds.length ((ak (fun _ => true) ws j ds).flatMap (iz .u8)) A' ∧ Own a.2 ((p, .cells [sd, sw] false 0) :: (A' ++ (B ++ F))))
    (fun r => ∃ A', Slc 64 sd ds.length ((ak (fun _ => true) ws ws.length ds).flatMap (iz .u8)) A' ∧ Own r.2 ((p, .cells [sd, sw] false 0) :: (A' ++ (B ++ F)))) (N := ws.length) (k := n) (j := 0) (a := ((0, ()), h)) (by omega) (by omega)
    ⟨rfl, A, a1, ho.to fun x => by simp only [cnt_append, cnt_cons, List.cons_append]; omega⟩
    (fun j a hj hi => by
      obtain ⟨⟨v, _⟩, h1⟩ := a
      obtain ⟨rfl, A1, hs1, o1⟩ := hi
      have o1 : Own h1 _ := o1
      have hlt : (j : Int) < (ws.length : Int) := by omega
      obtain ⟨q, h2, e1, e2, e3, o2⟩ := temp_ok (F := (p, .cells [sd, sw] false 0) :: (A1 ++ F)) a2 a3 (o1.to fun x => by simp only [cnt_append, cnt_cons]; omega) hj
      generalize ht : h1.next = t at e3 o2
      have hw := a3.r _ (List.getElem_mem hj)
      rw [← ak_len (P := fun _ => true) (ws := ws) (j := j)] at hs1
      obtain ⟨q', h3, A3, g1, g2, g3, g4, g5, g6, o3⟩ := apply_ok (F := B ++ F) (sw := sw) (p := p) (t := t) hs1 (ak_ok a3) (a3.w _ (List.getElem_mem hj)) hw.1 (by rw [ak_len]; exact hw.2) (o2.to fun x => by simp only [cnt_append, cnt_cons]; omega)
      rw [ak_len] at g6
      refine .inl ⟨((((j + 1 : Nat) : Int), ()), h3), ?_, rfl, A3, by rw [ak_succ hj, if_pos rfl]; exact g6, o3⟩
      simp only [z65, List.replicate] at e3
      simp only [f_sector_Disk_Flush_L15, hlt, decide_true, cond_true, e1, e2, Option.bind_some, bnd_eq, nwA_eq, ht, e3, fa_mk, Nat.zero_add, g1, g2, g3, g4, g5, wrap_succ (show j < 4611686018427387904 by omega)])
    (fun a hi => by
      obtain ⟨⟨v, _⟩, h1⟩ := a
      obtain ⟨rfl, A1, hs1, o1⟩ := hi
      exact ⟨((), h1), by simp [f_sector_Disk_Flush_L15], A1, hs1, o1⟩)
  have o2 : Own h' _ := q2
  refine ⟨_, _, ?_, ⟨sd, .slice none 0 0, A', [], by rw [ak_len]; exact q1, .nil, ⟨ak_ok a3, fun _ h => absurd h List.not_mem_nil, fun _ h => absurd h List.not_mem_nil⟩, rfl⟩, (o2.put (.cells [sd, .slice none 0 0] false 0)).to fun x => by simp only [cnt_append, cnt_cons, cnt_nil, List.cons_append]; omega⟩
  have e' : loopT (fun a => f_sector_Disk_Flush_L15 n (some ⟨p, 0, sp⟩) sw ws.length a.1.1 a.2) n ((0, ()), h) = some (x, h') := e
  simp [f_sector_Disk_Flush, ldT_of hg, a2.lenB, e', ldT_of o2.head, stB1_of o2.head (v := .slice none 0 0) rfl rfl]
end

/- ==== from Sk4 -/


/-- Which of so many are named. -/
def kp (K : List Int) (m : Nat) : List Int := (List.range m).map fun (j : Nat) => if (j : Int) ∈ K then 1 else 0
@[simp] theorem kp_len {K : List Int} {m : Nat} : (kp K m).length = m := by simp [kp]
theorem kp_at {K : List Int} {m j : Nat} (hj : j < m) : (kp K m)[j]'(by simpa using hj) = if (j : Int) ∈ K then 1 else 0 := by simp [kp]
theorem kp_set {K : List Int} {m : Nat} {x : Int} (h0 : 0 ≤ x) : (kp K m).set x.toNat 1 = kp (K ++ [x]) m := by
  apply List.ext_getElem
  · simp
  · intro j h1 h2
    have hj : j < m := by simpa using h1
    rw [List.getElem_set, kp_at hj, kp_at hj]
    by_cases e : x.toNat = j
    · rw [if_pos e, if_pos]; simp; right; omega
    · rw [if_neg e]
      have : ¬ (j : Int) = x := by omega
      simp [this]
theorem kp_out {K : List Int} {m : Nat} {x : Int} (h0 : x < 0 ∨ (m : Int) ≤ x) : kp (K ++ [x]) m = kp K m := by
  apply List.ext_getElem
  · simp
  · intro j h1 h2
    have hj : j < m := by simpa using h1
    rw [kp_at hj, kp_at hj]
    have : ¬ (j : Int) = x := by omega
    simp [this]
theorem kp_nil {m : Nat} : kp [] m = List.replicate m 0 := by
  apply List.ext_getElem
  · simp
  · intro j h1 h2
    rw [kp_at (by simpa using h1)]; simp
theorem flat_rep1 {z : Value} {m : Nat} : (List.replicate m [z]).flatten = List.replicate m z := by
  induction m with
  | zero => rfl
  | succ m ih => simp [List.replicate_succ, ih]

section
variable {n p t j : Nat} {sp : Option Nat} {ds : List (List Int)} {ws : List (Int × List Int)} {L F G A B : Ch} {h : Heap} {i : Int} {s u sd sw : Value} {X K : List Int} {w : Int × List Int}

theorem keeps_ok {v : Value} {ob : AObj} {m : Nat} {M : Ch} (hu : Sow 1 u K.length (iz .i64 K) G) (hv : Slc 1 v m (iz .u8 (kp [] m)) M) (ho : Own h (M ++ (G ++ F))) (hK : K.length ≤ 1152921504606846976) (hn : K.length + 2000 ≤ n) :
    ∃ h' M', loopT (fun a => f_sector_Disk_Crash_L15 n u (v, ob) K.length a.1.1 a.2) n (((0 : Int), ()), h) = some ((), h') ∧ Slc 1 v m (iz .u8 (kp K m)) M' ∧ Own h' (M' ++ (G ++ F)) := by
  obtain ⟨⟨x, h'⟩, e, M', q1, q2⟩ := loopT_up (f := fun a => f_sector_Disk_Crash_L15 n u (v, ob) K.length a.1.1 a.2)
    (fun j (a : (Int × Unit) × Heap) => a.1.1 = (j : Int) ∧ ∃ M', Slc 1 v m (iz .u8 (kp (K.take j) m)) M' ∧ Own a.2 (M' ++ (G ++ F)))
    (fun r => ∃ M', Slc 1 v m (iz .u8 (kp K m)) M' ∧ Own r.2 (M' ++ (G ++ F))) (N := K.length) (k := n) (j := 0) (a := ((0, ()), h)) (by omega) (by omega)
    ⟨rfl, M, by simpa using hv, ho⟩
    (fun j a hj hi => by
      obtain ⟨⟨v0, _⟩, h1⟩ := a
      obtain ⟨rfl, M1, hs1, o1⟩ := hi
      have o1 : Own h1 _ := o1
      have hlt : (j : Int) < (K.length : Int) := by omega
      obtain ⟨q, e1, e2⟩ := (hu.rds (h := h1) (F := M1 ++ F) (o1.to fun x => by simp only [cnt_append]; omega)).int hj
      by_cases hr : 0 ≤ K[j] ∧ K[j] < (m : Int)
      · obtain ⟨q', h2, M2, g1, g2, g3, o2⟩ := slc_set1 hs1 o1 (i := K[j].toNat) (by omega) (v := .int .u8 1) rfl rfl
        rw [iz_set, kp_set hr.1, ← take_snoc hj] at g3
        rw [Int.toNat_of_nonneg hr.1] at g1
        refine .inl ⟨((((j + 1 : Nat) : Int), ()), h2), ?_, rfl, M2, g3, o2⟩
        simp only [f_sector_Disk_Crash_L15]
        simp [hlt, e1, e2, hr.1, hs1.lenB, hr.2, g1, g2, wrap_succ (show j < 4611686018427387904 by omega)]
      · refine .inl ⟨((((j + 1 : Nat) : Int), ()), h1), ?_, rfl, M1, ?_, o1⟩
        · simp only [f_sector_Disk_Crash_L15]
          by_cases h0 : 0 ≤ K[j]
          · have h3 : ¬ K[j] < (m : Int) := fun h => hr ⟨h0, h⟩
            simp [hlt, e1, e2, h0, hs1.lenB, h3, wrap_succ (show j < 4611686018427387904 by omega)]
          · simp [hlt, e1, e2, h0, wrap_succ (show j < 4611686018427387904 by omega)]
        · rw [take_snoc hj, kp_out (by omega)]; exact hs1)
    (fun a hi => by
      obtain ⟨⟨v0, _⟩, h1⟩ := a
      obtain ⟨rfl, M1, hs1, o1⟩ := hi
      rw [List.take_length] at hs1
      exact ⟨((), h1), by simp [f_sector_Disk_Crash_L15], M1, hs1, o1⟩)
  exact ⟨h', M', e, q1, q2⟩

theorem crash_ok (hd : Dk p ds ws L) (hu : Sow 1 u K.length (iz .i64 K) G) (ho : Own h (L ++ (G ++ F))) (hlen : ws.length ≤ 1000) (hK : K.length ≤ 1152921504606846976) (hn : K.length + 2000 ≤ n) :
    ∃ h' L', f_sector_Disk_Crash n (some ⟨p, 0, sp⟩) u h = some (((ws.length : Int), (0, ())), h') ∧ Dk p (ak (fun j => decide ((j : Int) ∈ K)) ws ws.length ds) [] L' ∧ Own h' (L' ++ (G ++ F)) := by
  obtain ⟨sd, sw, A, B, a1, a2, a3, rfl⟩ := hd
  have hg := ho.head
  generalize hP : (fun j : Nat => decide ((j : Int) ∈ K)) = P
  -- what is kept
  have hmk := mkSl_of (nx := h.next) (bytes := 1) (es := 1) (zs := [.int .u8 0]) (k := .i64) (k' := .i64) (l := ws.length) (c := ws.length) (by omega) (by omega) (by omega)
  rw [flat_rep1] at hmk
  have hv : Slc 1 (.slice (some ⟨h.next, 0, some 0⟩) ws.length ws.length) ws.length (iz .u8 (kp [] ws.length)) [(h.next, .cells ([] ++ (iz .u8 (kp [] ws.length) ++ [])) false 1)] := .mk rfl (by simp) (by simp)
  have ekp : iz .u8 (kp [] ws.length) = List.replicate ws.length (.int .u8 0) := by rw [kp_nil, iz_rep]
  have o1 := ho.new (.cells (List.replicate ws.length (.int .u8 0)) false 1)
  have o1' : Own (h.new (.cells (List.replicate ws.length (.int .u8 0)) false 1)) ([(h.next, .cells ([] ++ (iz .u8 (kp [] ws.length) ++ [])) false 1)] ++ (G ++ ((p, .cells [sd, sw] false 0) :: (A ++ (B ++ F))))) := by
    rw [ekp]
    exact o1.to fun x => by simp only [cnt_append, cnt_cons, cnt_nil, List.cons_append, List.append_nil, List.nil_append]; omega
  generalize hb : h.next = b at hmk hv o1'
  generalize hh1 : h.new (.cells (List.replicate ws.length (.int .u8 0)) false 1) = h1 at o1'
  clear o1
  obtain ⟨h2, M, e2, hv2, o2⟩ := keeps_ok (n := n) (ob := .cells (List.replicate ws.length (.int .u8 0)) false 1) hu hv o1' hK hn
  have g2 : h2.get p = some (.cells [sd, sw] false 0) := o2.get (p, _) (by simp)
  generalize hvv : Value.slice (some ⟨b, 0, some 0⟩) ws.length ws.length = vv at hmk hv hv2 e2
  obtain ⟨⟨x, h'⟩, e, A', q1, q2⟩ := loopT_up (f := fun a => f_sector_Disk_Crash_L35 n (some ⟨p, 0, sp⟩) (vv, .cells (List.replicate ws.length (.int .u8 0)) false 1) sw ws.length a.1.1 a.2)
    (fun j (a : (Int × Unit) × Heap) => a.1.1 = (j : Int) ∧ ∃ A', Slc 64 sd ds.length ((ak P ws j ds).flatMap (iz .u8)) A' ∧ Own a.2 ((p, .cells [sd, sw] false 0) :: (A' ++ (M ++ (B ++ (G ++ F))))))
    (fun r => ∃ A', Slc 64 sd ds.length ((ak P ws ws.length ds).flatMap (iz .u8)) A' ∧ Own r.2 ((p, .cells [sd, sw] false 0) :: (A' ++ (M ++ (B ++ (G ++ F)))))) (N := ws.length) (k := n) (j := 0) (a := ((0, ()), h2)) (by omega) (by omega)
    ⟨rfl, A, a1, o2.to fun x => by simp only [cnt_append, cnt_cons]; omega⟩
    (fun j a hj hi => by
      obtain ⟨⟨v, _⟩, h1⟩ := a
      obtain ⟨rfl, A1, hs1, o1⟩ := hi
      have o1 : Own h1 _ := o1
      have hlt : (j : Int) < (ws.length : Int) := by omega
      obtain ⟨q, h2, e1, e2, e3, o2⟩ := temp_ok (F := (p, .cells [sd, sw] false 0) :: (A1 ++ (M ++ (G ++ F)))) a2 a3 (o1.to fun x => by simp only [cnt_append, cnt_cons]; omega) hj
      generalize ht : h1.next = t at e3 o2
      obtain ⟨qk, k1, k2⟩ := (hv2.rds (h := h2) (F := (t, .cells (wc ws[j]) false 0) :: (B ++ (p, .cells [sd, sw] false 0) :: (A1 ++ (G ++ F)))) (o2.to fun x => by simp only [cnt_append, cnt_cons]; omega)).intn (L := kp K ws.length) (i := j) kp_len hj
      rw [kp_at hj] at k2
      simp only [z65, List.replicate] at e3
      have hPj : P j = decide ((j : Int) ∈ K) := by rw [← hP]
      by_cases hk : (j : Int) ∈ K
      · have hw := a3.r _ (List.getElem_mem hj)
        rw [← ak_len (P := P) (ws := ws) (j := j)] at hs1
        obtain ⟨q', h3, A3, g1, g2, g3, g4, g5, g6, o3⟩ := apply_ok (F := M ++ (B ++ (G ++ F))) (sw := sw) (p := p) (t := t) hs1 (ak_ok a3) (a3.w _ (List.getElem_mem hj)) hw.1 (by rw [ak_len]; exact hw.2) (o2.to fun x => by simp only [cnt_append, cnt_cons]; omega)
        rw [ak_len] at g6
        refine .inl ⟨((((j + 1 : Nat) : Int), ()), h3), ?_, rfl, A3, by rw [ak_succ hj, hPj, decide_eq_true hk, if_pos rfl]; exact g6, o3⟩
        rw [if_pos hk] at k2
        simp only [f_sector_Disk_Crash_L35, hlt, decide_true, cond_true, e1, e2, Option.bind_some, bnd_eq, nwA_eq, ht, e3, fa_mk, Nat.zero_add, k1, k2, g1, g2, g3, g4, g5, wrap_succ (show j < 4611686018427387904 by omega)]
      · refine .inl ⟨((((j + 1 : Nat) : Int), ()), h2), ?_, rfl, A1, by rw [ak_succ hj, hPj, decide_eq_false hk, if_neg (by decide)]; exact hs1, o2.to fun x => by simp only [cnt_append, cnt_cons]; omega⟩
        rw [if_neg hk] at k2
        simp only [f_sector_Disk_Crash_L35, hlt, decide_true, cond_true, e1, e2, Option.bind_some, bnd_eq, nwA_eq, ht, e3, fa_mk, Nat.zero_add, k1, k2, wrap_succ (show j < 4611686018427387904 by omega)]
        rfl)
    (fun a hi => by
      obtain ⟨⟨v, _⟩, h1⟩ := a
      obtain ⟨rfl, A1, hs1, o1⟩ := hi
      exact ⟨((), h1), by simp [f_sector_Disk_Crash_L35], A1, hs1, o1⟩)
  have o3 : Own h' _ := q2
  refine ⟨_, _, ?_, ⟨sd, .slice none 0 0, A', [], by rw [ak_len]; exact q1, .nil, ⟨ak_ok a3, fun _ h => absurd h List.not_mem_nil, fun _ h => absurd h List.not_mem_nil⟩, rfl⟩, (o3.put (.cells [sd, .slice none 0 0] false 0)).to fun x => by simp only [cnt_append, cnt_cons, cnt_nil, List.cons_append]; omega⟩
  have hl := (hu.rds (h := h) (F := (p, .cells [sd, sw] false 0) :: (A ++ B ++ F)) (ho.to fun x => by simp only [cnt_append, cnt_cons, List.cons_append]; omega)).lenB
  simp only [f_sector_Disk_Crash, Option.isNone_some, cond_false, Option.bind_some, fa_mk, Nat.zero_add, ldT_of hg, a2.lenB, hmk, hb, bnd_eq, hh1, hl, e2]
  simp [a2.lenB, hmk, hl, hh1, hb, e2, ldT_of g2, e, ldT_of o3.head, stB1_of o3.head (v := .slice none 0 0) rfl rfl]
end

/- ==== from Sk5 -/


section
variable {n p t j : Nat} {sp : Option Nat} {ds : List (List Int)} {ws : List (Int × List Int)} {L F G A B : Ch} {h : Heap} {i : Int} {s u sd sw : Value} {X K : List Int} {w : Int × List Int}

theorem isTuple_of {a : Option Addr} {k c : Nat} : isTuple (.slice a k c) = false := rfl
theorem rep64 : (List.replicate 64 (Value.int .u8 0)).length = 64 := rfl

theorem image_ok' (hd : Dk p ds ws L) (ho : Own h (L ++ F)) (hN : ds.length ≤ 4096) (hn : 5000 ≤ n) :
    ∃ s h' A', f_sector_Disk_Image n (some ⟨p, 0, sp⟩) h = some ((s, ()), h') ∧ Slc 1 s (ds.length * 64) (iz .u8 ds.flatten) A' ∧ Own h' (A' ++ (L ++ F)) := by
  obtain ⟨sd, sw, A, B, a1, a2, a3, rfl⟩ := hd
  have hg := ho.head
  have hmk := mkSl_of (nx := h.next) (bytes := 1) (es := 1) (zs := [.int .u8 0]) (k := .i64) (k' := .i64) (l := 0) (c := ds.length * 64) (by omega) (by omega) (by omega)
  rw [flat_rep1] at hmk
  have hv : Slc 1 (.slice (some ⟨h.next, 0, some 0⟩) 0 (ds.length * 64)) 0 [] [(h.next, .cells ([] ++ ([] ++ List.replicate (ds.length * 64) (.int .u8 0))) false 1)] := .mk rfl rfl (by simp)
  have o1 := ho.new (.cells (List.replicate (ds.length * 64) (.int .u8 0)) false 1)
  have hg1 := o1.get (p, .cells [sd, sw] false 0) (by simp)
  generalize hb : h.next = b at hmk hv o1
  generalize hh1 : h.new (.cells (List.replicate (ds.length * 64) (.int .u8 0)) false 1) = h1 at o1 hg1
  obtain ⟨⟨x, h'⟩, e, s', hx, A', q1, q2⟩ := loopT_up (f := fun a => f_sector_Disk_Image_L17 n sd ds.length a.1.1 a.1.2.1 a.2)
    (fun j (a : (Value × Int × Unit) × Heap) => a.1.2.1 = (j : Int) ∧ ∃ A', Slc 1 a.1.1 (j * 64) (iz .u8 (ds.take j).flatten) A' ∧ Own a.2 (A' ++ ((p, .cells [sd, sw] false 0) :: (A ++ B) ++ F)))
    (fun r => ∃ s', r.1 = (s', ()) ∧ ∃ A', Slc 1 s' (ds.length * 64) (iz .u8 ds.flatten) A' ∧ Own r.2 (A' ++ ((p, .cells [sd, sw] false 0) :: (A ++ B) ++ F))) (N := ds.length) (k := n) (j := 0) (a := ((.slice (some ⟨b, 0, some 0⟩) 0 (ds.length * 64), (0, ())), h1)) (by omega) (by omega)
    ⟨rfl, _, by simpa using hv, o1⟩
    (fun j a hj hi => by
      obtain ⟨⟨v, i, _⟩, h1⟩ := a
      obtain ⟨hi0, A1, hs1, o1⟩ := hi
      have hi0 : i = (j : Int) := hi0
      subst hi0
      have o1 : Own h1 _ := o1
      have hs1 : Slc 1 v (j * 64) (iz .u8 (ds.take j).flatten) A1 := hs1
      have hlt : (j : Int) < (ds.length : Int) := by omega
      obtain ⟨q, e1, e2⟩ := (a1.rds (h := h1) (F := (p, .cells [sd, sw] false 0) :: (A1 ++ (B ++ F))) (o1.to fun x => by simp only [cnt_append, cnt_cons, List.cons_append]; omega)).ix j hj
      rw [flat_get a3.d hj] at e2
      have hl := a3.d _ (List.getElem_mem hj)
      have hl' : ds[j].length = 64 := by simpa using hl
      have e3 := e2.ldA0 (k := 64) (by rw [hl]; exact Nat.le_refl _)
      rw [List.take_of_length_le (by omega)] at e3
      have o2 := o1.new (.cells (List.replicate 64 (.int .u8 0)) false 0)
      generalize ht : h1.next = t at o2
      generalize hh2 : h1.new (.cells (List.replicate 64 (.int .u8 0)) false 0) = h2 at o2
      have e4 := stBA_of (sp := none) (o := 0) o2.head hl iz_cell (by rw [rep64]; exact Nat.le_refl _)
      rw [writeAt_all (by rw [hl]; rfl)] at e4
      have o3 := o2.put (.cells (iz .u8 ds[j]) false 0)
      generalize hh3 : h2.put t (.cells (iz .u8 ds[j]) false 0) = h3 at o3 e4
      have e5 : sliceArrK h3 64 1 none none (.pointer (some ⟨t, 0, none⟩)) = some (.slice (some ⟨t, 0, some 0⟩) 64 64, h3) := rfl
      have hpc := Sow.piece (b := t) (off := 0) (n := 64) (c := 64) (sp := some 0) (cs := iz .u8 ds[j]) (ro := false) (e := 0) (by simp [hl'])
      rw [List.drop_zero, List.take_of_length_le (by simp [hl'])] at hpc
      obtain ⟨s4, h4, A4, e6, hs4, o4⟩ := hpc.app hs1 (F := (p, .cells [sd, sw] false 0) :: (A ++ B) ++ F) (o3.to fun x => by simp only [cnt_append, cnt_cons, cnt_nil, List.cons_append]; omega) (by decide) (bytes := 1) (by omega)
      refine .inl ⟨((s4, (((j + 1 : Nat) : Int), ())), h4), ?_, rfl, A4, ?_, o4.to fun x => by simp only [cnt_append, cnt_cons, cnt_nil, List.cons_append]; omega⟩
      · simp only [f_sector_Disk_Image_L17, hlt, decide_true, cond_true, e1, e3, Option.bind_some, bnd_eq, nwA_eq, ht, hh2, e4, e5, e6, wrap_succ (show j < 4611686018427387904 by omega)]
      · rw [take_snoc hj, List.flatten_append, iz_append, Nat.add_mul]
        simpa using hs4)
    (fun a hi => by
      obtain ⟨⟨v, i, _⟩, h1⟩ := a
      obtain ⟨hi0, A1, hs1, o1⟩ := hi
      have hi0 : i = (ds.length : Int) := hi0
      subst hi0
      rw [List.take_length] at hs1
      have hs1 : Slc 1 v (ds.length * 64) (iz .u8 ds.flatten) A1 := hs1
      exact ⟨((v, ()), h1), by simp [f_sector_Disk_Image_L17, hs1.notT], v, rfl, A1, hs1, o1⟩)
  have hx : x = (s', ()) := hx
  subst hx
  refine ⟨s', h', A', ?_, q1, q2⟩
  have hw : IntKind.i64.wrap ((ds.length : Int) * 64) = ((ds.length * 64 : Nat) : Int) := by rw [wrap_i64 (by omega) (by omega)]; omega
  have hmk' : mkSl b 1 1 [.int .u8 0] (.int .i64 0) (.int .i64 ((ds.length * 64 : Nat) : Int)) = some (.slice (some ⟨b, 0, some 0⟩) 0 (ds.length * 64), .cells (List.replicate (ds.length * 64) (.int .u8 0)) false 1) := hmk
  have e' : loopT (fun a => f_sector_Disk_Image_L17 n sd ds.length a.1.1 a.1.2.1 a.2) n ((.slice (some ⟨b, 0, some 0⟩) 0 (ds.length * 64), (0, ())), h1) = some ((s', ()), h') := e
  have l0 : ldT .any h (some ⟨p, 0, none⟩) = some sd := by rw [ldT_of hg]; rfl
  have l1 : ldT .any h1 (some ⟨p, 0, none⟩) = some sd := by rw [ldT_of hg1]; rfl
  simp only [f_sector_Disk_Image, Option.isNone_some, cond_false, Option.bind_some, fa_mk, Nat.zero_add, l0, a1.lenB, hw, hb, hmk', bnd_eq, hh1, l1, e']

end

/- slices.Clone, of any elements -/
section
variable {n m : Nat} {h : Heap} {s : Value} {cs : List Value} {G F : Ch}
theorem clone1_ok (hr : Sow 1 s m cs G) (ho : Own h (G ++ F)) (hlen : m ≤ 1000000) :
    ∃ s' h' A', f_slices_Clone_byte_byte n s h = some ((s', ()), h') ∧ Slc 1 s' m cs A' ∧ Own h' (A' ++ (G ++ F)) := by
  obtain ⟨a, c, hf, hsrc⟩ := (hr.rds ho).src
  have hcl := (hr.rds ho).len
  subst hf
  cases a with
  | none =>
    have h1 : (some [] : Option (List Value)) = some cs := hsrc
    cases h1
    obtain rfl : m = 0 := by simp at hcl; omega
    exact ⟨.slice none 0 0, h, [], by simp [f_slices_Clone_byte_byte, eqVals_slice_nil], .nil, ho⟩
  | some p =>
    have o1 := ho.new (.cells [] false 1)
    have hs : Slc 1 (.slice (some ⟨h.next, 0, some 0⟩) 0 0) 0 [] [(h.next, .cells ([] ++ ([] ++ [])) false 1)] := .mk rfl rfl rfl
    obtain ⟨s', h', A', e1, e2, e3⟩ := hr.app hs (F := F) o1 (by decide) (bytes := 1) (by omega)
    refine ⟨s', h', A', ?_, by simpa using e2, e3⟩
    have := e2.notT
    simp [f_slices_Clone_byte_byte, eqVals_slice_nil, e1, this]
theorem clone64_ok (hr : Sow 64 s m cs G) (ho : Own h (G ++ F)) (hlen : m ≤ 1000000) :
    ∃ s' h' A', f_slices_Clone_sector_data_sector_data n s h = some ((s', ()), h') ∧ Slc 64 s' m cs A' ∧ Own h' (A' ++ (G ++ F)) := by
  obtain ⟨a, c, hf, hsrc⟩ := (hr.rds ho).src
  have hcl := (hr.rds ho).len
  subst hf
  cases a with
  | none =>
    have h1 : (some [] : Option (List Value)) = some cs := hsrc
    cases h1
    obtain rfl : m = 0 := by simp at hcl; omega
    exact ⟨.slice none 0 0, h, [], by simp [f_slices_Clone_sector_data_sector_data, eqVals_slice_nil], .nil, ho⟩
  | some p =>
    have o1 := ho.new (.cells [] false 64)
    have hs : Slc 64 (.slice (some ⟨h.next, 0, some 0⟩) 0 0) 0 [] [(h.next, .cells ([] ++ ([] ++ [])) false 64)] := .mk rfl rfl rfl
    obtain ⟨s', h', A', e1, e2, e3⟩ := hr.app hs (F := F) o1 (by decide) (bytes := 64) (by omega)
    refine ⟨s', h', A', ?_, by simpa using e2, e3⟩
    have := e2.notT
    simp [f_slices_Clone_sector_data_sector_data, eqVals_slice_nil, e1, this]
theorem clone65_ok (hr : Sow 65 s m cs G) (ho : Own h (G ++ F)) (hlen : m ≤ 1000000) :
    ∃ s' h' A', f_slices_Clone_sector_waiting_sector_waiting n s h = some ((s', ()), h') ∧ Slc 65 s' m cs A' ∧ Own h' (A' ++ (G ++ F)) := by
  obtain ⟨a, c, hf, hsrc⟩ := (hr.rds ho).src
  have hcl := (hr.rds ho).len
  subst hf
  cases a with
  | none =>
    have h1 : (some [] : Option (List Value)) = some cs := hsrc
    cases h1
    obtain rfl : m = 0 := by simp at hcl; omega
    exact ⟨.slice none 0 0, h, [], by simp [f_slices_Clone_sector_waiting_sector_waiting, eqVals_slice_nil], .nil, ho⟩
  | some p =>
    have o1 := ho.new (.cells [] false 65)
    have hs : Slc 65 (.slice (some ⟨h.next, 0, some 0⟩) 0 0) 0 [] [(h.next, .cells ([] ++ ([] ++ [])) false 65)] := .mk rfl rfl rfl
    obtain ⟨s', h', A', e1, e2, e3⟩ := hr.app hs (F := F) o1 (by decide) (bytes := 72) (by omega)
    refine ⟨s', h', A', ?_, by simpa using e2, e3⟩
    have := e2.notT
    simp [f_slices_Clone_sector_waiting_sector_waiting, eqVals_slice_nil, e1, this]
end

section
variable {n p : Nat} {ds : List (List Int)} {ws : List (Int × List Int)} {L F : Ch} {h : Heap}
theorem copy_ok' (hd : Dk p ds ws L) (ho : Own h (L ++ F)) (hN : ds.length ≤ 4096) (hW : ws.length ≤ 4096) :
    ∃ p' h' L', f_sector_Disk_Copy n (some ⟨p, 0, none⟩) h = some ((some ⟨p', 0, none⟩, ()), h') ∧ Dk p' ds ws L' ∧ Own h' (L' ++ (L ++ F)) := by
  obtain ⟨sd, sw, A, B, a1, a2, a3, rfl⟩ := hd
  have o0 : Own h ((p, .cells [sd, sw] false 0) :: (A ++ (B ++ F))) := ho.to fun x => by simp only [cnt_append, cnt_cons, List.cons_append]; omega
  have hg := o0.head
  have o1 := o0.ro
  obtain ⟨s1, h1, A1, e1, e2, o2⟩ := clone64_ok (n := n) a1.sow (F := (p, .cells [sd, sw] true 0) :: (B ++ F)) (o1.to fun x => by simp only [cnt_append, cnt_cons]; omega) (by omega)
  have o3 := Own.back (X := A1 ++ (A ++ (B ++ F))) (o2.to fun x => by simp only [cnt_append, cnt_cons]; omega) hg
  generalize hh3 : h1.putBack h [p] = h3 at o3
  obtain ⟨s2, h4, B1, e3, e4, o4⟩ := clone65_ok (n := n) a2.sow (F := (p, .cells [sd, sw] false 0) :: (A1 ++ (A ++ F))) (o3.to fun x => by simp only [cnt_append, cnt_cons]; omega) (by omega)
  have o5 := o4.new (.cells [s1, s2] false 0)
  refine ⟨h4.next, _, (h4.next, .cells [s1, s2] false 0) :: (A1 ++ B1), ?_, ⟨s1, s2, A1, B1, e2, e4, a3, rfl⟩, o5.to fun x => by simp only [cnt_append, cnt_cons, List.cons_append]; omega⟩
  have f1 : fillL [.slice none 0 0, .slice none 0 0] [(0, 1, s1), (1, 1, s2)] = some [s1, s2] := by
    obtain ⟨x, y, rfl⟩ := e2.form; obtain ⟨z, w, rfl⟩ := e4.form; rfl
  have l0 : ldT .any h (some ⟨p, 0, none⟩) = some sd := by rw [ldT_of hg]; rfl
  have l1 : ldT .any h (some ⟨p, 1, none⟩) = some sw := by rw [ldT_of hg]; rfl
  have hc : ([s1, s2] : List Value).all isCell = true := by simp [e2.isCell, e4.isCell]
  simp only [f_sector_Disk_Copy, Option.isNone_some, cond_false, Option.bind_some, fa_mk, Nat.zero_add, l0, l1, e1, List.nil_append, bnd_eq, hh3, e3, f1, hc, cond_true, nwA_eq]

theorem new_ok {N : Nat} (ho : Own h F) (h1 : 1 ≤ N) (h2 : N ≤ 4096) :
    ∃ p h' L, f_sector_New n (N : Int) h = some ((some ⟨p, 0, none⟩, (0, ())), h') ∧ Dk p (List.replicate N (List.replicate 64 0)) [] L ∧ Own h' (L ++ F) := by
  have hmk := mkSl_of (nx := h.next) (bytes := 64) (es := 64) (zs := List.replicate 64 (.int .u8 0)) (k := .i64) (k' := .i64) (l := N) (c := N) (by omega) (by omega) (by omega)
  have ef : (List.replicate N (List.replicate 64 (Value.int .u8 0))).flatten = (List.replicate N (List.replicate 64 0)).flatMap (iz .u8) := by
    clear hmk h1 h2
    induction N with
    | zero => rfl
    | succ N ih => rw [List.replicate_succ, List.flatten_cons, ih, List.replicate_succ (n := N) (a := List.replicate 64 (0 : Int)), List.flatMap_cons, iz_rep]
  have hd : ∀ d ∈ List.replicate N (List.replicate 64 (0 : Int)), (iz .u8 d).length = 64 := by
    intro d hd
    rw [List.eq_of_mem_replicate hd]; rfl
  have hfl := flat_len hd
  rw [List.length_replicate] at hfl
  rw [ef] at hmk
  generalize hC : (List.replicate N (List.replicate 64 (0 : Int))).flatMap (iz .u8) = C at hmk hfl
  have hv : Slc 64 (.slice (some ⟨h.next, 0, some 0⟩) N N) N C [(h.next, .cells ([] ++ (C ++ [])) false 64)] := .mk rfl hfl (by simp [hfl])
  have o1 := ho.new (.cells C false 64)
  generalize hb : h.next = b at hmk hv o1
  generalize hh1 : h.new (.cells C false 64) = h1' at o1
  have o2 := o1.new (.cells [.slice (some ⟨b, 0, some 0⟩) N N, .slice none 0 0] false 0)
  refine ⟨h1'.next, _, _, ?_, ⟨_, .slice none 0 0, _, [], by rw [List.length_replicate, hC]; exact hv, .nil, ⟨hd, fun _ h => absurd h List.not_mem_nil, fun _ h => absurd h List.not_mem_nil⟩, rfl⟩, o2.to fun x => by simp only [cnt_append, cnt_cons, cnt_nil, List.cons_append, List.nil_append, List.append_nil]; omega⟩
  have c1 : ¬ (N : Int) < 1 := by omega
  have c2 : ¬ 4096 < (N : Int) := by omega
  have f1 : fillL [.slice none 0 0, .slice none 0 0] [(0, 1, .slice (some ⟨b, 0, some 0⟩) N N)] = some [.slice (some ⟨b, 0, some 0⟩) N N, .slice none 0 0] := rfl
  have hc : ([.slice (some ⟨b, 0, some 0⟩) N N, .slice none 0 0] : List Value).all isCell = true := rfl
  simp only [f_sector_New, c1, c2, decide_false, cond_false, Option.bind_some, hb, hmk, bnd_eq, hh1, f1, hc, cond_true, nwA_eq]
end

/- ==== from Sk6 -/


section
variable {n p k i es m : Nat} {sp : Option Nat} {ds : List (List Int)} {ws : List (Int × List Int)} {L F G A B : Ch} {h : Heap} {s u : Value} {X K : List Int} {cs : List Value}
/-- A part of a slice, as a slice of its own. -/
theorem slc_part (hs : Slc es s n cs A) (hi : i < n) (sp : Option Nat) : ∃ q, ixB es s (i : Int) = some q ∧ Sow 1 (.slice (some ⟨q.block, q.off, sp⟩) es es) es ((cs.drop (i * es)).take es) A := by
  cases hs with
  | nil => omega
  | @mk b off sp' _ c pre _ rest hp hl hr =>
    subst hp
    have h1 : (i + 1) * es ≤ n * es := Nat.mul_le_mul_right es hi
    rw [Nat.add_mul, Nat.one_mul] at h1
    refine ⟨⟨b, pre.length + i * es, none⟩, ?_, ?_⟩
    · show (bif Nat.blt i n then _ else none) = _
      rw [show Nat.blt i n = true from Nat.ble_eq_true_of_le hi]; rfl
    · have := Sow.piece (b := b) (off := pre.length + i * es) (n := es) (c := es) (sp := sp) (cs := pre ++ (cs ++ rest)) (ro := false) (e := es) (by simp; omega)
      rwa [← List.drop_drop, List.drop_left, List.drop_append_of_le_length (by omega), List.take_append_of_le_length (by simp; omega)] at this

end

end Go.Proofs.Ytbjipkemgnpifaa
