import Derived.Test.YtbjipkemgnpifaaSxA
/- Disks: reads, what waits. -/
namespace Go.Proofs.Ytbjipkemgnpifaa
open Go
set_option linter.unusedVariables false
set_option linter.unusedSimpArgs false

/-- What is read of a sector. -/
def rdv (ws : List (Int × List Int)) (i : Int) (d : List Int) : List Int := ws.foldl (fun a w => if w.1 = i then w.2 else a) d
theorem rdv_snoc {ws : List (Int × List Int)} {w : Int × List Int} {i : Int} {d : List Int} : rdv (ws ++ [w]) i d = if w.1 = i then w.2 else rdv ws i d := by simp [rdv]
theorem rdv_len {ws : List (Int × List Int)} {i : Int} {d : List Int} (hw : ∀ w ∈ ws, w.2.length = 64) (hd : d.length = 64) : (rdv ws i d).length = 64 := by
  induction ws generalizing d with
  | nil => exact hd
  | cons w ws ih =>
    show (rdv ws i (if w.1 = i then w.2 else d)).length = 64
    refine ih (fun w' h => hw w' (List.mem_cons_of_mem _ h)) ?_
    split
    · exact hw w (List.mem_cons_self ..)
    · exact hd

section
variable {n p i m : Nat} {sp : Option Nat} {ds : List (List Int)} {ws : List (Int × List Int)} {L F G A B : Ch} {h : Heap} {z : Int} {s u : Value} {X K : List Int} {cs : List Value}
theorem asked_bad (hd : Dk p ds ws L) (ho : Own h (L ++ F)) (hz : z < 0 ∨ (ds.length : Int) ≤ z) : f_sector_Disk_asked n (some ⟨p, 0, sp⟩) z h = some ((40, ()), h) := by
  obtain ⟨sd, sw, A, B, a1, a2, a3, rfl⟩ := hd
  have hg := ho.head
  by_cases h0 : z < 0
  · simp [f_sector_Disk_asked, h0]
  · have h1 : (ds.length : Int) ≤ z := by omega
    simp [f_sector_Disk_asked, ldT_of hg, a1.lenB, h0, h1]
theorem write_bad (hd : Dk p ds ws L) (ho : Own h (L ++ F)) (hz : z < 0 ∨ (ds.length : Int) ≤ z) : f_sector_Disk_Write n (some ⟨p, 0, sp⟩) z u h = some ((40, ()), h) := by
  have ha := asked_bad (n := n) (sp := sp) hd ho hz
  simp [f_sector_Disk_Write, ha]
theorem write_len (hd : Dk p ds ws L) (ho : Own h (L ++ F)) (h0 : 0 ≤ z) (h1 : z < ds.length) (hl : lenB u = some m) (hm : m ≠ 64) : f_sector_Disk_Write n (some ⟨p, 0, sp⟩) z u h = some ((2, ()), h) := by
  have ha := asked_ok (n := n) (sp := sp) hd ho h0 h1
  have : ¬ (m : Int) = 64 := by omega
  simp [f_sector_Disk_Write, ha, hl, this]
theorem len_ok (hd : Dk p ds ws L) (ho : Own h (L ++ F)) : f_sector_Disk_Len n (some ⟨p, 0, sp⟩) h = some (((ds.length : Int), ()), h) := by
  obtain ⟨sd, sw, A, B, a1, a2, a3, rfl⟩ := hd
  have hg := ho.head
  simp [f_sector_Disk_Len, ldT_of hg, a1.lenB]
theorem read_bad (hd : Dk p ds ws L) (ho : Own h (L ++ F)) (hz : z < 0 ∨ (ds.length : Int) ≤ z) :
    ∃ h', f_sector_Disk_Read n (some ⟨p, 0, none⟩) z h = some ((.slice none 0 0, (40, ())), h') ∧ Own h' (L ++ F) := by
  have o1 := ho.new (.cells [.int .i64 z] false 0)
  generalize hb0 : h.next = b0 at o1
  generalize hh1 : h.new (.cells [.int .i64 z] false 0) = h1 at o1
  have o2 := o1.new (.cells [.slice none 0 0] false 0)
  generalize hb1 : h1.next = b1 at o2
  generalize hh2 : h1.new (.cells [.slice none 0 0] false 0) = h2 at o2
  have o3 := o2.new (.cells [.int .i64 0] false 0)
  generalize hb2 : h2.next = b2 at o3
  generalize hh3 : h2.new (.cells [.int .i64 0] false 0) = h3 at o3
  have ha := asked_bad (n := n) (sp := none) hd (F := (b2, .cells [.int .i64 0] false 0) :: (b1, .cells [.slice none 0 0] false 0) :: (b0, .cells [.int .i64 z] false 0) :: F) (h := h3) (o3.to fun x => by simp only [cnt_append, cnt_cons]; omega) hz
  have l0 : ldT (.int .i64) h3 (some ⟨b0, 0, none⟩) = some z := by rw [ldT_of (o3.get (b0, .cells [.int .i64 z] false 0) (by simp))]; simp
  have o7 : Own h3 ((b1, .cells [.slice none 0 0] false 0) :: (b2, .cells [.int .i64 0] false 0) :: (L ++ F)) := o3.to fun x => by simp only [cnt_append, cnt_cons]; omega
  have e6 := stB1_of (sp := none) (o := 0) (v := .slice none 0 0) o7.head rfl rfl (by decide)
  have o8 := o7.put (.cells [.slice none 0 0] false 0)
  simp only [List.set_cons_zero] at e6
  generalize hh7 : h3.put b1 (.cells [.slice none 0 0] false 0) = h7 at e6 o8
  have o9 : Own h7 ((b2, .cells [.int .i64 0] false 0) :: (b1, .cells [.slice none 0 0] false 0) :: (L ++ F)) := o8.to fun x => by simp only [cnt_append, cnt_cons]; omega
  have e7 := stB1_of (sp := none) (o := 0) (v := .int .i64 40) o9.head rfl rfl (by decide)
  have o10 := o9.put (.cells [.int .i64 40] false 0)
  simp only [List.set_cons_zero] at e7
  generalize hh8 : h7.put b2 (.cells [.int .i64 40] false 0) = h8 at e7 o10
  have l7 : ldT .any h8 (some ⟨b1, 0, none⟩) = some (.slice none 0 0) := by rw [ldT_of (o10.get (b1, .cells [.slice none 0 0] false 0) (by simp))]; rfl
  have l8 : ldT (.int .i64) h8 (some ⟨b2, 0, none⟩) = some 40 := by rw [ldT_of o10.head]; rfl
  refine ⟨h8, ?_, o10.tail.tail⟩
  simp only [f_sector_Disk_Read, bnd_eq, hh1, hh2, hh3, nwA_eq, hb0, hb1, hb2, l0, Option.bind_some, ha]
  simp [e6, e7, l7, l8, isTuple]

theorem read_any (hd : Dk p ds ws L) (ho : Own h (L ++ F)) (hi : i < ds.length) (hW : ws.length ≤ 1000) (hn : 2000 ≤ n) :
    ∃ s h' A', f_sector_Disk_Read n (some ⟨p, 0, none⟩) (i : Int) h = some ((s, (0, ())), h') ∧ Slc 1 s 64 (iz .u8 (rdv ws i ds[i])) A' ∧ Own h' (A' ++ (L ++ F)) := by
  have o1 := ho.new (.cells [.int .i64 (i : Int)] false 0)
  generalize hb0 : h.next = b0 at o1
  generalize hh1 : h.new (.cells [.int .i64 (i : Int)] false 0) = h1 at o1
  have o2 := o1.new (.cells [.slice none 0 0] false 0)
  generalize hb1 : h1.next = b1 at o2
  generalize hh2 : h1.new (.cells [.slice none 0 0] false 0) = h2 at o2
  have o3 := o2.new (.cells [.int .i64 0] false 0)
  generalize hb2 : h2.next = b2 at o3
  generalize hh3 : h2.new (.cells [.int .i64 0] false 0) = h3 at o3
  have ha := asked_ok (n := n) (sp := none) (i := (i : Int)) hd (F := (b2, .cells [.int .i64 0] false 0) :: (b1, .cells [.slice none 0 0] false 0) :: (b0, .cells [.int .i64 (i : Int)] false 0) :: F) (h := h3) (o3.to fun x => by simp only [cnt_append, cnt_cons]; omega) (by omega) (by omega)
  obtain ⟨sd, sw, A, B, a1, a2, a3, rfl⟩ := hd
  have g3 := o3.get (p, .cells [sd, sw] false 0) (by simp)
  have l1 : ldT .any h3 (some ⟨p, 1, none⟩) = some sw := by rw [ldT_of g3]; rfl
  have l0 : ldT (.int .i64) h3 (some ⟨b0, 0, none⟩) = some (i : Int) := by rw [ldT_of (o3.get (b0, .cells [.int .i64 (i : Int)] false 0) (by simp))]; simp
  have o4 := o3.new (.cells [sw] false 0)
  generalize hb3 : h3.next = b3 at o4
  generalize hh4 : h3.new (.cells [sw] false 0) = h4 at o4
  have o5 := o4.hole.hole
  generalize hh5 : h4.hole.hole = h5 at o5
  have lw : ldT .any h5 (some ⟨b3, 0, none⟩) = some sw := by rw [ldT_of o5.head]; rfl
  have hl0 : lenB sw = some ws.length := a2.lenB
  have hcs := a2.cellsOf
  have hbw : f_slices_Backward_sector_waiting_sector_waiting n sw h3 = some ((((some ⟨b3, 0, none⟩), ()), ()), h4) := by
    have : ([sw] : List Value).all isCell = true := by simp [a2.isCell]
    simp only [f_slices_Backward_sector_waiting_sector_waiting, hcs, this, cond_true, bnd_eq, hh4, nwA_eq, hb3]
  have hw : IntKind.i64.wrap ((ws.length : Int) - 1) = (ws.length : Int) - 1 := wrap_i64 (by omega) (by omega)
  -- the writes, the last one first
  let Fr : Ch := (p, .cells [sd, sw] false 0) :: (A ++ (B ++ F))
  let C0 : Ch := [(b0, .cells [.int .i64 (i : Int)] false 0), (b3, .cells [sw] false 0)]
  obtain ⟨⟨h6, c6⟩, e6, q6⟩ := loopT_up (f := fun a => f_slices_Backward_sector_waiting_sector_waiting_1_L8 (V := Heap × Nat) (fun v => v.1) (fun v h => (h, v.2)) (fun a v => f_sector_Disk_Read_B23 n h h1 h2 a.1 a.2.1 v) n (some ⟨b3, 0, none⟩) a.1.1 a.2)
    (fun j (a : (Int × Unit) × (Heap × Nat)) => a.1.1 = (ws.length : Int) - 1 - j ∧ a.2.2 = 0 ∧ rdv (ws.take (ws.length - j)) i ds[i] = rdv ws i ds[i] ∧ Own a.2.1 ((b2, .cells [.int .i64 0] false 0) :: (b1, .cells [.slice none 0 0] false 0) :: (C0 ++ Fr)))
    (fun r => (r.2 = 0 ∧ rdv ws i ds[i] = ds[i] ∧ Own r.1 ((b2, .cells [.int .i64 0] false 0) :: (b1, .cells [.slice none 0 0] false 0) :: (C0 ++ Fr))) ∨
      (r.2 = 1 ∧ ∃ s A', Slc 1 s 64 (iz .u8 (rdv ws i ds[i])) A' ∧ Own r.1 ((b2, .cells [.int .i64 0] false 0) :: (b1, .cells [s] false 0) :: (A' ++ Fr))))
    (N := ws.length) (k := n) (j := 0) (a := (((ws.length : Int) - 1, ()), (h5, 0))) (by omega) (by omega)
    ⟨by simp, rfl, by simp, o5.to fun x => by simp only [C0, Fr, cnt_append, cnt_cons, cnt_nil, List.cons_append]; omega⟩
    (fun j a hj hi' => by
      obtain ⟨⟨v, _⟩, h1', c⟩ := a
      obtain ⟨rfl, rfl, i3, i4⟩ := hi'
      have i3 : rdv (ws.take (ws.length - j)) i ds[i] = rdv ws i ds[i] := i3
      have i4 : Own h1' _ := i4
      have hk : ws.length - 1 - j < ws.length := by omega
      have hv : (ws.length : Int) - 1 - j = ((ws.length - 1 - j : Nat) : Int) := by omega
      have hv2 : IntKind.i64.wrap ((ws.length : Int) - 1 - j - 1) = (ws.length : Int) - 1 - ((j + 1 : Nat) : Int) := by rw [wrap_i64 (by omega) (by omega)]; omega
      have hp0 : (0 : Int) ≤ ((ws.length - 1 - j : Nat) : Int) := by omega
      generalize hkk : ws.length - 1 - j = k at hk hv hp0
      have lw' : ldT .any h1' (some ⟨b3, 0, none⟩) = some sw := by rw [ldT_of (i4.get (b3, .cells [sw] false 0) (by simp [C0]))]; rfl
      have l0' : ∀ {g : Heap} {F' : Ch}, Own g ((b0, .cells [.int .i64 (i : Int)] false 0) :: F') → ldT (.int .i64) g (some ⟨b0, 0, none⟩) = some (i : Int) := fun o => by rw [ldT_of o.head]; simp
      obtain ⟨q, h2', e1, e2, e3, oo⟩ := temp_ok (j := k) (F := (b2, .cells [.int .i64 0] false 0) :: (b1, .cells [.slice none 0 0] false 0) :: (C0 ++ (p, .cells [sd, sw] false 0) :: (A ++ F))) a2 a3 (i4.to fun x => by simp only [C0, Fr, cnt_append, cnt_cons, cnt_nil, List.cons_append]; omega) hk
      generalize ht : h1'.next = t at e3 oo
      have lt : ldT (.int .i64) h2' (some ⟨t, 0, none⟩) = some ws[k].1 := by rw [ldT_of oo.head]; simp [wc]
      have oo2 : Own h2' ((b0, .cells [.int .i64 (i : Int)] false 0) :: (t, .cells (wc ws[k]) false 0) :: ((b2, .cells [.int .i64 0] false 0) :: (b1, .cells [.slice none 0 0] false 0) :: ((b3, .cells [sw] false 0) :: Fr))) := oo.to fun x => by simp only [C0, Fr, cnt_append, cnt_cons, cnt_nil, List.cons_append]; omega
      have lb := l0' oo2
      have htk : ws.take (ws.length - j) = ws.take k ++ [ws[k]] := by rw [show ws.length - j = k + 1 by omega, take_snoc hk]
      rw [htk, rdv_snoc] at i3
      simp only [z65, List.replicate] at e3
      by_cases hs : ws[k].1 = (i : Int)
      · rw [if_pos hs] at i3
        have hX : (iz .u8 ws[k].2).length = 64 := by have := a3.w _ (List.getElem_mem hk); simpa [wc] using this
        have e4 : sliceArrK h2' 64 1 none none (.pointer (some ⟨t, 1, none⟩)) = some (.slice (some ⟨t, 1, some 0⟩) 64 64, h2') := rfl
        have hpc := Sow.piece (b := t) (off := 1) (n := 64) (c := 64) (sp := some 0) (cs := wc ws[k]) (ro := false) (e := 0) (by have := a3.w _ (List.getElem_mem hk); omega)
        have hpc' : Sow 1 (.slice (some ⟨t, 1, some 0⟩) 64 64) 64 (iz .u8 ws[k].2) [(t, .cells (wc ws[k]) false 0)] := by
          have : ((wc ws[k]).drop 1).take 64 = iz .u8 ws[k].2 := by
            show (iz .u8 ws[k].2).take 64 = _
            rw [List.take_of_length_le (by omega)]
          rwa [this] at hpc
        obtain ⟨s', h3', A', e5, e6, o6⟩ := clone1_ok (n := n) hpc' (F := (b1, .cells [.slice none 0 0] false 0) :: (b2, .cells [.int .i64 0] false 0) :: Fr) (h := h2') (oo2.to fun x => by simp only [C0, Fr, cnt_append, cnt_cons, cnt_nil, List.cons_append]; omega) (by omega)
        have o7 : Own h3' ((b1, .cells [.slice none 0 0] false 0) :: (b2, .cells [.int .i64 0] false 0) :: (A' ++ Fr)) := o6.to fun x => by simp only [cnt_append, cnt_cons, cnt_nil]; omega
        have e7 := stB1_of (sp := none) (o := 0) (v := s') o7.head e6.cellsOf e6.isCell (by decide)
        have o8 := o7.put (.cells [s'] false 0)
        simp only [List.set_cons_zero] at e7
        generalize hh7 : h3'.put b1 (.cells [s'] false 0) = h7 at e7 o8
        have o9 : Own h7 ((b2, .cells [.int .i64 0] false 0) :: (b1, .cells [s'] false 0) :: (A' ++ Fr)) := o8.to fun x => by simp only [cnt_append, cnt_cons]; omega
        have e8 := stB1_of (sp := none) (o := 0) (v := .int .i64 0) o9.head rfl rfl (by decide)
        have o10 := o9.put (.cells [.int .i64 0] false 0)
        simp only [List.set_cons_zero] at e8
        refine .inr ⟨(_, 1), ?_, .inr ⟨rfl, s', A', by rw [← i3]; exact e6, o10⟩⟩
        simp only [f_slices_Backward_sector_waiting_sector_waiting_1_L8, hv, hp0, decide_true, cond_true, lw', Option.bind_some, e1, e2, f_sector_Disk_Read_B23, nat_beq_eq, bnd_eq, nwA_eq, ht, e3, fa_mk, Nat.zero_add, lt, hb0, lb, hs, e4, e5, hb1, e7, hb2, e8, Bool.not_false]
        rfl
      · rw [if_neg hs] at i3
        refine .inl ⟨(((ws.length : Int) - 1 - ((j + 1 : Nat) : Int), ()), (h2', 0)), ?_, rfl, rfl, ?_, oo2.to fun x => by simp only [C0, Fr, cnt_append, cnt_cons, cnt_nil, List.cons_append]; omega⟩
        · rw [hv] at hv2
          simp only [f_slices_Backward_sector_waiting_sector_waiting_1_L8, hv, hp0, decide_true, cond_true, lw', Option.bind_some, e1, e2, f_sector_Disk_Read_B23, nat_beq_eq, bnd_eq, nwA_eq, ht, e3, fa_mk, Nat.zero_add, lt, hb0, lb, hs, decide_false, cond_false, Bool.not_true, hv2]
        · rw [show ws.length - (j + 1) = k by omega]; exact i3)
    (fun a hi' => by
      obtain ⟨⟨v, _⟩, h1', c⟩ := a
      obtain ⟨rfl, rfl, i3, i4⟩ := hi'
      have hneg : ¬ (0 : Int) ≤ (ws.length : Int) - 1 - ws.length := by omega
      refine ⟨(h1', 0), by simp only [f_slices_Backward_sector_waiting_sector_waiting_1_L8, decide_eq_false hneg, cond_false], .inl ⟨rfl, ?_, i4⟩⟩
      have i3 : rdv (ws.take (ws.length - ws.length)) i ds[i] = rdv ws i ds[i] := i3
      rw [Nat.sub_self] at i3
      exact i3.symm)
  have hit : f_slices_Backward_sector_waiting_sector_waiting_1 (V := Heap × Nat) (fun v => v.1) (fun v h => (h, v.2)) (fun a v => f_sector_Disk_Read_B23 n h h1 h2 a.1 a.2.1 v) n (some ⟨b3, 0, none⟩) (h5, 0) = some (h6, c6) := by
    simp only [f_slices_Backward_sector_waiting_sector_waiting_1, lw, Option.bind_some, hl0, hw]
    exact e6
  rcases q6 with ⟨q1, q2, q3⟩ | ⟨q1, s', A', q2, q3⟩
  · have q1 : c6 = 0 := q1
    subst q1
    have q3 : Own h6 _ := q3
    have g6 := q3.get (p, .cells [sd, sw] false 0) (by simp [C0, Fr])
    have l5 : ldT .any h6 (some ⟨p, 0, none⟩) = some sd := by rw [ldT_of g6]; rfl
    have l6 : ldT (.int .i64) h6 (some ⟨b0, 0, none⟩) = some (i : Int) := by rw [ldT_of (q3.get (b0, .cells [.int .i64 (i : Int)] false 0) (by simp [C0]))]; simp
    obtain ⟨q, e1, e2⟩ := slc_part a1 hi (some 0)
    rw [flat_get a3.d hi] at e2
    have e3 : sliceArrK h6 64 1 none none (.pointer (some q)) = some (.slice (some ⟨q.block, q.off, some 0⟩) 64 64, h6) := by
      show some (Value.slice (some ⟨q.block, q.off + 0 * 1, some 0⟩) 64 64, h6) = _
      rfl
    obtain ⟨s', h7, A', e4, e5, o6⟩ := clone1_ok (n := n) (G := A) e2 (F := (b1, .cells [.slice none 0 0] false 0) :: (b2, .cells [.int .i64 0] false 0) :: (p, .cells [sd, sw] false 0) :: (B ++ F)) (h := h6) (q3.to fun x => by simp only [C0, Fr, cnt_append, cnt_cons, cnt_nil, List.cons_append]; omega) (by omega)
    have o7 : Own h7 ((b1, .cells [.slice none 0 0] false 0) :: (b2, .cells [.int .i64 0] false 0) :: (A' ++ ((p, .cells [sd, sw] false 0) :: (A ++ (B ++ F))))) := o6.to fun x => by simp only [cnt_append, cnt_cons]; omega
    have e7 := stB1_of (sp := none) (o := 0) (v := s') o7.head e5.cellsOf e5.isCell (by decide)
    have o8 := o7.put (.cells [s'] false 0)
    simp only [List.set_cons_zero] at e7
    generalize hh7 : h7.put b1 (.cells [s'] false 0) = h8 at e7 o8
    have o9 : Own h8 ((b2, .cells [.int .i64 0] false 0) :: (b1, .cells [s'] false 0) :: (A' ++ ((p, .cells [sd, sw] false 0) :: (A ++ (B ++ F))))) := o8.to fun x => by simp only [cnt_append, cnt_cons]; omega
    have e8 := stB1_of (sp := none) (o := 0) (v := .int .i64 0) o9.head rfl rfl (by decide)
    have o10 := o9.put (.cells [.int .i64 0] false 0)
    simp only [List.set_cons_zero] at e8
    generalize hh8 : h8.put b2 (.cells [.int .i64 0] false 0) = h9 at e8 o10
    have l7 : ldT .any h9 (some ⟨b1, 0, none⟩) = some s' := by rw [ldT_of (o10.get (b1, .cells [s'] false 0) (by simp))]; rfl
    have l8 : ldT (.int .i64) h9 (some ⟨b2, 0, none⟩) = some 0 := by rw [ldT_of o10.head]; rfl
    refine ⟨s', h9, A', ?_, by rw [q2]; exact e5, o10.to fun x => by simp only [cnt_append, cnt_cons, List.cons_append]; omega⟩
    simp only [f_sector_Disk_Read, bnd_eq, hh1, hh2, hh3, nwA_eq, hb0, hb1, hb2, l0, Option.bind_some, ha, decide_true, Bool.not_true, cond_false, fa_mk, Nat.zero_add, l1, hbw, hh5, hit, nat_beq_eq, cond_true, l5, l6, e1, e3, e4, e7, e8, l7, e5.notT, Bool.not_false, l8]
  · have q1 : c6 = 1 := q1
    subst q1
    have q3 : Own h6 _ := q3
    have l7 : ldT .any h6 (some ⟨b1, 0, none⟩) = some s' := by rw [ldT_of (q3.get (b1, .cells [s'] false 0) (by simp))]; rfl
    have l8 : ldT (.int .i64) h6 (some ⟨b2, 0, none⟩) = some 0 := by rw [ldT_of q3.head]; rfl
    refine ⟨s', h6, A', ?_, q2, q3.to fun x => by simp only [Fr, cnt_append, cnt_cons, List.cons_append]; omega⟩
    simp only [f_sector_Disk_Read, bnd_eq, hh1, hh2, hh3, nwA_eq, hb0, hb1, hb2, l0, Option.bind_some, ha, decide_true, Bool.not_true, cond_false, fa_mk, Nat.zero_add, l1, hbw, hh5, hit, show Nat.beq 1 0 = false from rfl, show Nat.beq 1 1 = true from rfl, cond_true, l7, q2.notT, Bool.not_false, l8]
end
end Go.Proofs.Ytbjipkemgnpifaa

/- Disks: what waits, told; bytes of one's own; marked bytes. -/
namespace Go.Proofs.Ytbjipkemgnpifaa
open Go
set_option linter.unusedVariables false
set_option linter.unusedSimpArgs false

theorem str_eql {h : Heap} {a b : ByteArray} (e : a = b) : binsT .bool h .eql (.string a) (.string b) = some true := by
  subst e
  simp [binsT, binsK, strOp, Ty.prj]
theorem fill0 : fillL [] [] = some [] := rfl

/-- A write that is told: its bytes in memory of their own. -/
structure Wx where
  z : Int
  v : Value
  X : List Int
  A : Ch
def Wx.cells (e : Wx) : List Value := [.int .i64 e.z, e.v]
def Wx.key (e : Wx) : Int × List Int := (e.z, e.X)
theorem wxA {z v X A} : Wx.A ⟨z, v, X, A⟩ = A := rfl
def Wl (s : Value) (es : List Wx) (L : Ch) : Prop := ∃ B, Slc 2 s es.length (es.flatMap Wx.cells) B ∧ (∀ e ∈ es, Slc 1 e.v e.X.length (iz .u8 e.X) e.A) ∧ L = B ++ es.flatMap Wx.A
theorem wd_len : ∀ {es : List Wx}, ∀ e ∈ es, e.cells.length = 2 := fun e _ => rfl
theorem wd_cnt {es : List Wx} {j : Nat} (hj : j < es.length) (x : Nat × AObj) : cnt x (es.flatMap Wx.A) = cnt x es[j].A + cnt x ((es.eraseIdx j).flatMap Wx.A) := by
  induction es generalizing j with
  | nil => simp at hj
  | cons e es ih =>
    cases j with
    | zero => simp only [List.flatMap_cons, cnt_append, List.getElem_cons_zero, List.eraseIdx_cons_zero]
    | succ j =>
      simp only [List.flatMap_cons, cnt_append, List.getElem_cons_succ, List.eraseIdx_cons_succ]
      have := ih (j := j) (by simpa using hj)
      omega

section
variable {n p i m : Nat} {sp : Option Nat} {ds : List (List Int)} {ws : List (Int × List Int)} {L F G A B : Ch} {h : Heap} {z : Int} {s u : Value} {X K : List Int} {cs : List Value} {es es' : List Wx}
theorem wd_at {b : Ch} (hs : Slc 2 s es.length (es.flatMap Wx.cells) b) (ho : Own h (b ++ F)) {j : Nat} (hj : j < es.length) :
    ∃ q, ixB 2 s (j : Int) = some q ∧ ldT (.int .i64) h (some (fa q 0)) = some es[j].z ∧ ldT .any h (some (fa q 1)) = some es[j].v ∧ ldA 2 h (some q) = some [.int .i64 es[j].z, es[j].v] := by
  obtain ⟨q, e1, e2⟩ := (hs.rds ho).ix j hj
  rw [flat_get (f := Wx.cells) (fun e _ => rfl) hj] at e2
  refine ⟨q, e1, ?_, ?_, ?_⟩
  · rw [e2.ldT (v := .int .i64 es[j].z) rfl]; simp
  · rw [e2.ldT (v := es[j].v) rfl]; rfl
  · rw [e2.ldA0 (k := 2) (Nat.le_refl _)]; rfl

theorem sameW_ok {v v' : Value} {L' : Ch} (ha : Wl v es L) (hb : Wl v' es' L') (ho : Own h (L ++ (L' ++ F))) (hk : es.map Wx.key = es'.map Wx.key) (hl : es.length ≤ 1000000) (hn : es.length + 1 ≤ n) :
    f_wicketlaw04_sameWrites n v v' h = some ((true, ()), h) := by
  obtain ⟨B, a1, a2, rfl⟩ := ha
  obtain ⟨B', b1, b2, rfl⟩ := hb
  have hlen : es.length = es'.length := by have := congrArg List.length hk; simpa using this
  obtain ⟨r, e, hr⟩ := loopT_up (f := fun a => f_wicketlaw04_sameWrites_L17 n v' v es.length a.1.1 a.2) (fun j (a : (Int × Unit) × Heap) => a = (((j : Int), ()), h)) (fun r => r = ((true, ()), h)) (N := es.length) (k := n) (j := 0) (a := ((0, ()), h)) (by omega) (by omega) rfl
    (fun j a hj hi => by
      subst hi
      have hj' : j < es'.length := by omega
      obtain ⟨q, e1, e2, e3, _⟩ := wd_at (F := es.flatMap Wx.A ++ (B' ++ (es'.flatMap Wx.A ++ F))) a1 (ho.to fun x => by simp only [cnt_append]; omega) hj
      obtain ⟨q', e1', e2', e3', _⟩ := wd_at (F := es'.flatMap Wx.A ++ (B ++ (es.flatMap Wx.A ++ F))) b1 (ho.to fun x => by simp only [cnt_append]; omega) hj'
      have hkj : es[j].key = es'[j].key := by
        have h1 : (es.map Wx.key)[j]'(by simpa using hj) = (es'.map Wx.key)[j]'(by simpa using hj') := by congr 1
        simpa using h1
      have hz : es[j].z = es'[j].z := congrArg Prod.fst hkj
      have hX : es[j].X = es'[j].X := congrArg Prod.snd hkj
      have s1 := ((a2 _ (List.getElem_mem hj)).rds (h := h) (F := (es.eraseIdx j).flatMap Wx.A ++ (B ++ (B' ++ (es'.flatMap Wx.A ++ F)))) (ho.to fun x => by have := wd_cnt hj x; simp only [cnt_append]; omega)).str
      have s2 := ((b2 _ (List.getElem_mem hj')).rds (h := h) (F := (es'.eraseIdx j).flatMap Wx.A ++ (B ++ (B' ++ (es.flatMap Wx.A ++ F)))) (ho.to fun x => by have := wd_cnt hj' x; simp only [cnt_append]; omega)).str
      refine .inl ⟨_, ?_, rfl⟩
      have hlt : (j : Int) < (es.length : Int) := by omega
      have hne : (!decide (es[j].z = es'[j].z)) = false := by simp [hz]
      simp only [f_wicketlaw04_sameWrites_L17, hlt, decide_true, cond_true, e1, e2, e3, e1', e2', e3', Option.bind_some, hne, cond_false, s1, s2, str_eq (congrArg strOfInts hX), wrap_succ (show j < 4611686018427387904 by omega)])
    (fun a hi => by
      subst hi
      exact ⟨_, by simp [f_wicketlaw04_sameWrites_L17], rfl⟩)
  subst hr
  simp only [f_wicketlaw04_sameWrites, a1.lenB, b1.lenB, Option.bind_some, hlen, decide_true, Bool.not_true, cond_false]
  rw [hlen] at e
  exact e

theorem waiting_ok (hd : Dk p ds ws L) (ho : Own h (L ++ F)) (hW : ws.length ≤ 1000) (hn : 2000 ≤ n) :
    ∃ s h' es W, f_sector_Disk_Waiting n (some ⟨p, 0, sp⟩) h = some ((s, ()), h') ∧ Wl s es W ∧ es.map Wx.key = ws ∧ Own h' (W ++ (L ++ F)) := by
  obtain ⟨sd, sw, A, B, a1, a2, a3, rfl⟩ := hd
  have hg := ho.head
  obtain ⟨⟨⟨s', _⟩, h'⟩, e, es, W, q1, q2, q3⟩ := loopT_up (f := fun a => f_sector_Disk_Waiting_L18 n sw ws.length a.1.1 a.1.2.1 a.2)
    (fun j (a : (Value × Int × Unit) × Heap) => a.1.2.1 = (j : Int) ∧ ∃ es W, Wl a.1.1 es W ∧ es.map Wx.key = ws.take j ∧ Own a.2 (W ++ ((p, .cells [sd, sw] false 0) :: (A ++ B) ++ F)))
    (fun r => ∃ es W, Wl r.1.1 es W ∧ es.map Wx.key = ws ∧ Own r.2 (W ++ ((p, .cells [sd, sw] false 0) :: (A ++ B) ++ F))) (N := ws.length) (k := n) (j := 0) (a := ((.slice none 0 0, (0, ())), h)) (by omega) (by omega)
    ⟨rfl, [], [], ⟨[], .nil, (fun _ h => absurd h List.not_mem_nil), rfl⟩, rfl, ho⟩
    (fun j a hj hi => by
      obtain ⟨⟨v, i, _⟩, h1⟩ := a
      obtain ⟨hi0, es, W, ⟨C, w1, w2, rfl⟩, w3, o1⟩ := hi
      have hi0 : i = (j : Int) := hi0
      subst hi0
      have o1 : Own h1 _ := o1
      have w1 : Slc 2 v es.length (es.flatMap Wx.cells) C := w1
      have hlt : (j : Int) < (ws.length : Int) := by omega
      have hel : es.length = j := by have := congrArg List.length w3; simp at this; omega
      obtain ⟨q, h2, e1, e2, e3, o2⟩ := temp_ok (F := (p, .cells [sd, sw] false 0) :: (A ++ (C ++ (es.flatMap Wx.A ++ F)))) a2 a3 (o1.to fun x => by simp only [cnt_append, cnt_cons]; omega) hj
      generalize ht : h1.next = t at e3 o2
      have hX : (iz .u8 ws[j].2).length = 64 := by have := a3.w _ (List.getElem_mem hj); simpa [wc] using this
      have lt : ldT (.int .i64) h2 (some ⟨t, 0, none⟩) = some ws[j].1 := by rw [ldT_of o2.head]; simp [wc]
      have e4 : sliceArrK h2 64 1 none none (.pointer (some ⟨t, 1, none⟩)) = some (.slice (some ⟨t, 1, some 0⟩) 64 64, h2) := rfl
      have hpc := Sow.piece (b := t) (off := 1) (n := 64) (c := 64) (sp := some 0) (cs := wc ws[j]) (ro := true) (e := 0) (by have := a3.w _ (List.getElem_mem hj); omega)
      have hpc' : Sow 1 (.slice (some ⟨t, 1, some 0⟩) 64 64) 64 (iz .u8 ws[j].2) [(t, .cells (wc ws[j]) true 0)] := by
        have : ((wc ws[j]).drop 1).take 64 = iz .u8 ws[j].2 := by
          show (iz .u8 ws[j].2).take 64 = _
          rw [List.take_of_length_le (by omega)]
        rwa [this] at hpc
      obtain ⟨s5, h3, A5, e5, e6, o3⟩ := clone1_ok (n := n) hpc' o2.ro (by omega)
      have o4 := Own.back (X := A5 ++ (B ++ ((p, .cells [sd, sw] false 0) :: (A ++ (C ++ (es.flatMap Wx.A ++ F)))))) (o3.to fun x => by simp only [List.append_eq, cnt_append, cnt_cons, cnt_nil]; omega) o2.head
      generalize hh4 : h3.putBack h2 [t] = h4 at o4
      have hX' : ws[j].2.length = 64 := by simpa using hX
      obtain ⟨s6, h6, C', e7, e8, o6⟩ := w1.push (new := [.int .i64 ws[j].1, s5]) (F := A5 ++ (es.flatMap Wx.A ++ ((p, .cells [sd, sw] false 0) :: (A ++ B) ++ F))) (h := h4) (o4.to fun x => by simp only [cnt_append, cnt_cons, List.cons_append]; omega) (by decide) rfl (bytes := 32) (by omega)
      refine .inl ⟨((s6, (((j + 1 : Nat) : Int), ())), h6), ?_, rfl, es ++ [⟨ws[j].1, s5, ws[j].2, A5⟩], _, ⟨C', ?_, ?_, rfl⟩, ?_, o6.to fun x => by simp only [cnt_append, cnt_cons, cnt_nil, List.cons_append, List.flatMap_append, List.flatMap_cons, List.flatMap_nil, wxA]; omega⟩
      · have f1 : fillL [.int .i64 0, .slice none 0 0] [(0, 1, .int .i64 ws[j].1), (1, 1, s5)] = some [.int .i64 ws[j].1, s5] := by
          obtain ⟨x, y, rfl⟩ := e6.form; rfl
        have f2 : fillL [.int .i64 0, .slice none 0 0] [(0, 2, .agg ⟨[.int .i64 ws[j].1, s5]⟩)] = some [.int .i64 ws[j].1, s5] := by
          obtain ⟨x, y, rfl⟩ := e6.form; rfl
        simp only [z65, List.replicate] at e3
        simp only [f_sector_Disk_Waiting_L18, hlt, decide_true, cond_true, e1, e2, Option.bind_some, bnd_eq, nwA_eq, ht, e3, fa_mk, Nat.zero_add, lt, e4, e5, List.nil_append, hh4, f1, f2, e7, wrap_succ (show j < 4611686018427387904 by omega)]
      · show Slc 2 s6 _ _ C'
        rw [List.flatMap_append, List.length_append]; exact e8
      · intro e he
        rcases List.mem_append.1 he with he | he
        · exact w2 e he
        · rw [List.mem_singleton] at he; subst he
          show Slc 1 s5 ws[j].2.length (iz .u8 ws[j].2) A5
          rw [hX']; exact e6
      · rw [List.map_append, w3, take_snoc hj]; rfl)
    (fun a hi => by
      obtain ⟨⟨v, i, _⟩, h1⟩ := a
      obtain ⟨hi0, es, W, w0, w3, o1⟩ := hi
      have hi0 : i = (ws.length : Int) := hi0
      subst hi0
      have hT : isTuple v = false := by obtain ⟨C, w1, _⟩ := w0; exact w1.notT
      rw [List.take_length] at w3
      exact ⟨((v, ()), h1), by simp [f_sector_Disk_Waiting_L18, hT], es, W, w0, w3, o1⟩)
  refine ⟨s', h', es, W, ?_, q1, q2, q3⟩
  simp only [f_sector_Disk_Waiting, Option.isNone_some, cond_false, Option.bind_some, fa_mk, Nat.zero_add, ldT_of hg, List.getElem?_cons_succ, List.getElem?_cons_zero, prj_any, a2.lenB]
  exact e

theorem own_ok (hr : Sow 1 u m cs G) (ho : Own h (G ++ F)) (hm : m ≤ 140737488355328) :
    ∃ s h' A', f_wicketlaw04_own n u h = some ((s, ()), h') ∧ Slc 1 s m cs A' ∧ Own h' (A' ++ (G ++ F)) := by
  have o1 := ho.new (.cells [] false 1)
  have hs : Slc 1 (.slice (some ⟨h.next, 0, some 0⟩) 0 0) 0 [] [(h.next, .cells ([] ++ ([] ++ [])) false 1)] := .mk rfl rfl rfl
  obtain ⟨s', h', A', e1, e2, e3⟩ := hr.app hs (F := F) o1 (by decide) (bytes := 1) (by omega)
  refine ⟨s', h', A', ?_, by simpa using e2, e3⟩
  simp only [f_wicketlaw04_own, fill0, Option.bind_some, bnd_eq, e1, e2.notT, Bool.not_false, cond_true]

/-- With marked room behind it. -/
def Mk (s : Value) (m : Nat) (cs : List Value) (A : Ch) : Prop := ∃ b off sp c, Slc 1 (.slice (some ⟨b, off, sp⟩) (m + 2) c) (m + 2) (cs ++ [.int .u8 90, .int .u8 90]) A ∧ s = .slice (some ⟨b, off, sp⟩) m c
theorem Mk.slc (hm : Mk s m cs A) : Slc 1 s m cs A := by
  obtain ⟨b, off, sp, c, h1, rfl⟩ := hm
  have hl := h1.len
  generalize hx : cs ++ [Value.int .u8 90, .int .u8 90] = ys at h1 hl
  cases h1 with
  | @mk _ _ _ _ _ pre _ rest hp hl2 hr =>
    subst hx
    have h2 : cs.length = m * 1 := by simp at hl; omega
    have := Slc.mk (es := 1) (b := b) (off := off) (sp := sp) (n := m) (c := c) (pre := pre) (cs := cs) (rest := [.int .u8 90, .int .u8 90] ++ rest) hp h2 (by simp at hr ⊢; omega)
    rwa [← List.append_assoc cs] at this

theorem marked_ok (hr : Sow 1 u m cs G) (ho : Own h (G ++ F)) (hm : m + 2 ≤ 140737488355328) :
    ∃ s h' A', f_wicketlaw04_marked n u h = some ((s, ()), h') ∧ Mk s m cs A' ∧ Own h' (A' ++ (G ++ F)) := by
  obtain ⟨s1, h1, A1, e1, e2, o1⟩ := own_ok (n := n) hr ho (by omega)
  have o2 := o1.new (.cells [.int .u8 90, .int .u8 90] false 1)
  have hy : Slc 1 (.slice (some ⟨h1.next, 0, some 0⟩) 2 2) 2 [.int .u8 90, .int .u8 90] [(h1.next, .cells ([] ++ ([.int .u8 90, .int .u8 90] ++ [])) false 1)] := .mk rfl rfl rfl
  obtain ⟨s3, h3, A3, e3, e4, o3⟩ := hy.sow.app e2 (F := G ++ F) (h := h1.new (.cells [.int .u8 90, .int .u8 90] false 1)) (o2.to fun x => by simp only [cnt_append, cnt_cons, cnt_nil, List.nil_append, List.append_nil]; omega) (by decide) (bytes := 1) (by omega)
  have hl := (hr.rds ho).lenB
  cases hs3 : s3 with
  | slice a k c =>
    subst hs3
    have hk : k = m + 2 := by have := e4.lenB; simpa using this
    subst hk
    cases a with
    | none => cases e4
    | some q =>
      obtain ⟨b, off, sp⟩ := q
      have hc : m ≤ c := by
        cases e4 with
        | mk hp hl2 hr2 => simp at hl2 hr2; omega
      refine ⟨.slice (some ⟨b, off, sp⟩) m c, h3, A3, ?_, ⟨b, off, sp, c, e4, rfl⟩, o3.to fun x => by simp only [cnt_append, cnt_cons, cnt_nil]; omega⟩
      have f1 : fillL [.int .u8 0, .int .u8 0] [(0, 1, .int .u8 90), (1, 1, .int .u8 90)] = some [.int .u8 90, .int .u8 90] := rfl
      simp only [f_wicketlaw04_marked, e1, Option.bind_some, f1, bnd_eq, e3, hl, sliceK_h hc]
      rfl
  | _ => obtain ⟨a, c, hh⟩ := e4.form; rw [hs3] at hh; cases hh

theorem held_ok (hk : Mk s X.length (iz .u8 X) A) (hr : Sow 1 u X.length (iz .u8 X) G) (ho : Own h (A ++ (G ++ F))) (hm : X.length + 2 ≤ 140737488355328) : f_wicketlaw04_held n s u h = some ((true, ()), h) := by
  obtain ⟨b, off, sp, c, h1, rfl⟩ := id hk
  have h2 := hk.slc
  have hc : X.length + 2 ≤ c := by
    cases h1 with
    | mk hp hl2 hr2 => simp at hl2 hr2; omega
  have hru := hr.rds (h := h) (F := A ++ F) (ho.to fun x => by simp only [cnt_append]; omega)
  have hrs := (h1.rds ho)
  have w2 : IntKind.i64.wrap ((X.length : Int) + 2) = ((X.length + 2 : Nat) : Int) := by rw [wrap_i64 (by omega) (by omega)]; omega
  have w1 : IntKind.i64.wrap ((X.length : Int) + 1) = ((X.length + 1 : Nat) : Int) := by rw [wrap_i64 (by omega) (by omega)]; omega
  have e90 : iz .u8 X ++ [.int .u8 90, .int .u8 90] = iz .u8 (X ++ [90, 90]) := by simp [iz]
  rw [e90] at hrs
  obtain ⟨q1, c1, c2⟩ := hrs.intn (L := X ++ [90, 90]) (i := X.length) (by simp) (by omega)
  obtain ⟨q2, c3, c4⟩ := hrs.intn (L := X ++ [90, 90]) (i := X.length + 1) (by simp) (by omega)
  have g1 : (X ++ [90, 90])[X.length]'(by simp) = 90 := by simp
  have g2 : (X ++ [90, 90])[X.length + 1]'(by simp) = 90 := by simp
  rw [g1] at c2
  rw [g2] at c4
  have s1 := (h2.rds ho).str
  have s2 := hru.str
  simp only [f_wicketlaw04_held, hru.lenB, Option.bind_some, w2, sliceK_h hc, sliceK_h (show X.length ≤ c by omega), s1, s2, str_eql rfl, cond_true, c1, c2, decide_true, w1, c3, c4]
end
end Go.Proofs.Ytbjipkemgnpifaa

/- Disks: told writes share no memory. -/
namespace Go.Proofs.Ytbjipkemgnpifaa
open Go
set_option linter.unusedVariables false
set_option linter.unusedSimpArgs false

/-- The mark of a place. -/
def bt (j : Nat) : Int := IntKind.u8.wrap (IntKind.i64.wrap ((j : Int) + 1))
theorem neg_b {j : Nat} (hj : j < 1000000) : unB .neg .i64 (j : Int) = some (-(j : Int)) := by
  have : IntKind.i64.wrap (-(j : Int)) = -(j : Int) := wrap_i64 (by omega) (by omega)
  show (Ty.int .i64).prj (.int .i64 (IntKind.i64.wrap (0 - (j : Int)))) = _
  rw [show (0 : Int) - (j : Int) = -(j : Int) by omega, this]; simp
theorem flat_set2 {es : List Wx} {j : Nat} {z : Int} (hj : j < es.length) : (es.flatMap Wx.cells).set (j * 2 + 0) (.int .i64 z) = (es.set j { es[j] with z := z }).flatMap Wx.cells := by
  induction es generalizing j with
  | nil => simp at hj
  | cons e es ih =>
    cases j with
    | zero => simp [Wx.cells]
    | succ j =>
      have := ih (j := j) (by simpa using hj)
      simp only [List.flatMap_cons, List.set_cons_succ, List.getElem_cons_succ]
      rw [← this]
      rw [List.set_append_right _ _ (by simp [Wx.cells]; omega)]
      congr 2
      simp [Wx.cells]; omega

section
variable {n j m : Nat} {L F G A B : Ch} {h : Heap} {s u v : Value} {X : List Int} {cs : List Value} {es : List Wx}

/-- One list's bytes are marked. -/
theorem mark_ok (a1 : Slc 2 s es.length (es.flatMap Wx.cells) B) (hj : j < es.length) (hv : Slc 1 es[j].v m (iz .u8 X) A) (ho : Own h (A ++ (B ++ F))) (hsh : h.sh = []) (hm : m ≤ 1000000) (hn : m + 1 ≤ n) :
    ∃ h' A', loopT (fun a => f_wicketlaw04_Apart_L13 n s (j : Int) m a.1.1 a.2) n (((0 : Int), ()), h) = some ((), h') ∧ Slc 1 es[j].v m (iz .u8 (List.replicate m (bt j))) A' ∧ Own h' (A' ++ (B ++ F)) ∧ h'.sh = [] := by
  have hXl : X.length = m := by have := hv.len; simpa using this
  obtain ⟨⟨x, h'⟩, e, A', q1, q2, q3⟩ := loopT_up (f := fun a => f_wicketlaw04_Apart_L13 n s (j : Int) m a.1.1 a.2)
    (fun k (a : (Int × Unit) × Heap) => a.1.1 = (k : Int) ∧ ∃ A', Slc 1 es[j].v m (iz .u8 (List.replicate k (bt j) ++ X.drop k)) A' ∧ Own a.2 (A' ++ (B ++ F)) ∧ a.2.sh = [])
    (fun r => ∃ A', Slc 1 es[j].v m (iz .u8 (List.replicate m (bt j))) A' ∧ Own r.2 (A' ++ (B ++ F)) ∧ r.2.sh = []) (N := m) (k := n) (j := 0) (a := ((0, ()), h)) (by omega) (by omega)
    ⟨rfl, A, by simpa using hv, ho, hsh⟩
    (fun k a hk hi => by
      obtain ⟨⟨v0, _⟩, h1⟩ := a
      obtain ⟨rfl, A1, hs1, o1, hs⟩ := hi
      have o1 : Own h1 _ := o1
      have hs : h1.sh = [] := hs
      have hd : ShD h1 := fun e he => by rw [hs] at he; cases he
      have hlt : (k : Int) < (m : Int) := by omega
      have ob : Own h1 (B ++ (A1 ++ F)) := o1.to fun x => by simp only [cnt_append]; omega
      obtain ⟨q, e1, e2, e3, _⟩ := wd_at a1 ob hj
      have e4 := ldTS_slc a1 ob hd e1 (ty := .any) (o := 1)
      obtain ⟨q', h2, A2, g1, g2, g3, o2⟩ := slc_set1 hs1 o1 hk (v := .int .u8 (bt j)) rfl rfl
      have g4 := stB_sh g2
      refine .inl ⟨((((k + 1 : Nat) : Int), ()), h2), ?_, rfl, A2, ?_, o2, by rw [g4.1]; exact hs⟩
      · simp only [f_wicketlaw04_Apart_L13, hlt, decide_true, cond_true, e1, e4, e3, Option.bind_some, g1, wrap_succ (show k < 4611686018427387904 by omega)]
        have g2' : stB 1 (.int .u8 (IntKind.u8.wrap (IntKind.i64.wrap ((j : Int) + 1)))) h1 (some q') = some h2 := g2
        rw [g2']; rfl
      · rw [iz_set] at g3
        have : (List.replicate k (bt j) ++ X.drop k).set k (bt j) = List.replicate (k + 1) (bt j) ++ X.drop (k + 1) := by
          rw [List.set_append_right _ _ (by simp), List.length_replicate, Nat.sub_self, List.drop_eq_getElem_cons (show k < X.length by omega), List.set_cons_zero, List.replicate_succ', List.append_assoc]; rfl
        rwa [this] at g3)
    (fun a hi => by
      obtain ⟨⟨v0, _⟩, h1⟩ := a
      obtain ⟨rfl, A1, hs1, o1, hs⟩ := hi
      rw [List.drop_of_length_le (by omega), List.append_nil] at hs1
      exact ⟨((), h1), by simp [f_wicketlaw04_Apart_L13], A1, hs1, o1, hs⟩)
  exact ⟨h', A', e, q1, q2, q3⟩

/-- Marked so far. -/
structure Mkd (es es' : List Wx) (j : Nat) : Prop where
  len : es'.length = es.length
  xs : ∀ (i : Nat) (h1 : i < es'.length) (h2 : i < es.length), es'[i].X.length = es[i].X.length
  z : ∀ (i : Nat) (h1 : i < es'.length), i < j → es'[i].z = -(i : Int)
  b : ∀ (i : Nat) (h1 : i < es'.length), i < j → es'[i].X = List.replicate es'[i].X.length (bt i)

theorem marks_ok (hl : Wl s es L) (ho : Own h (L ++ F)) (hsh : h.sh = []) (hm : ∀ e ∈ es, e.X.length ≤ 1000) (hN : es.length ≤ 1000) (hn : 2000 ≤ n) :
    ∃ h' es' L', loopT (fun a => f_wicketlaw04_Apart_L19 n s es.length a.1.1 a.2) n (((0 : Int), ()), h) = some ((), h') ∧ Wl s es' L' ∧ Mkd es es' es.length ∧ Own h' (L' ++ F) ∧ h'.sh = [] := by
  obtain ⟨⟨x, h'⟩, e, es', L', q1, q2, q3, q4⟩ := loopT_up (f := fun a => f_wicketlaw04_Apart_L19 n s es.length a.1.1 a.2)
    (fun j (a : (Int × Unit) × Heap) => a.1.1 = (j : Int) ∧ ∃ es' L', Wl s es' L' ∧ Mkd es es' j ∧ Own a.2 (L' ++ F) ∧ a.2.sh = [])
    (fun r => ∃ es' L', Wl s es' L' ∧ Mkd es es' es.length ∧ Own r.2 (L' ++ F) ∧ r.2.sh = []) (N := es.length) (k := n) (j := 0) (a := ((0, ()), h)) (by omega) (by omega)
    ⟨rfl, es, L, hl, ⟨rfl, fun _ _ _ => rfl, fun _ _ h => absurd h (Nat.not_lt_zero _), fun _ _ h => absurd h (Nat.not_lt_zero _)⟩, ho, hsh⟩
    (fun j a hj hi => by
      obtain ⟨⟨v0, _⟩, h1⟩ := a
      obtain ⟨rfl, es1, L1, ⟨B1, w1, w2, rfl⟩, mk, o1, hs⟩ := hi
      have o1 : Own h1 _ := o1
      have hs : h1.sh = [] := hs
      have hlt : (j : Int) < (es.length : Int) := by omega
      have hj' : j < es1.length := by rw [mk.len]; exact hj
      have hd : ShD h1 := fun e he => by rw [hs] at he; cases he
      have hml : es1[j].X.length ≤ 1000 := by rw [mk.xs j hj' hj]; exact hm _ (List.getElem_mem hj)
      have ob : Own h1 (B1 ++ (es1.flatMap Wx.A ++ F)) := o1.to fun x => by simp only [cnt_append]; omega
      obtain ⟨q, e1, e2, e3, _⟩ := wd_at w1 ob hj'
      have e4 := ldTS_slc w1 ob hd e1 (ty := .any) (o := 1)
      have hvj := w2 _ (List.getElem_mem hj')
      obtain ⟨h2, A2, k1, k2, k3, k4⟩ := mark_ok (n := n) (F := (es1.eraseIdx j).flatMap Wx.A ++ F) w1 hj' hvj (o1.to fun x => by have := wd_cnt hj' x; simp only [cnt_append]; omega) hs (by omega) (by omega)
      have o3 : Own h2 (B1 ++ (A2 ++ ((es1.eraseIdx j).flatMap Wx.A ++ F))) := k3.to fun x => by simp only [cnt_append]; omega
      obtain ⟨q', h4, B2, g1, g2, g3, o4⟩ := slc_setc w1 o3 hj' (o := 0) (by decide) (v := .int .i64 (-(j : Int))) rfl rfl
      have g4 := stB_sh g2
      rw [flat_set2 hj'] at g3
      let e' : Wx := ⟨-(j : Int), es1[j].v, List.replicate es1[j].X.length (bt j), A2⟩
      have hfl : ((es1.set j { es1[j] with z := -(j : Int) }).flatMap Wx.cells) = ((es1.set j e').flatMap Wx.cells) := by
        simp only [List.flatMap]
        congr 1
        rw [List.map_set, List.map_set]; rfl
      rw [hfl] at g3
      refine .inl ⟨((((j + 1 : Nat) : Int), ()), h4), ?_, rfl, es1.set j e', _, ⟨B2, by rw [List.length_set]; exact g3, ?_, rfl⟩, ⟨by rw [List.length_set]; exact mk.len, ?_, ?_, ?_⟩, ?_, by rw [g4.1]; exact k4⟩
      · simp only [f_wicketlaw04_Apart_L19, hlt, decide_true, cond_true, e1, e4, e3, Option.bind_some, hvj.lenB, k1, neg_b (show j < 1000000 by omega), wrap_succ (show j < 4611686018427387904 by omega)]
        rw [g1] at e1; cases e1
        rw [g2]; rfl
      · intro e he
        rcases List.mem_or_eq_of_mem_set he with he | rfl
        · exact w2 e he
        · show Slc 1 es1[j].v (List.replicate es1[j].X.length (bt j)).length _ A2
          rw [List.length_replicate]; exact k2
      · intro i h1 h2
        rw [List.getElem_set]
        split
        · rename_i hij; subst hij; show (List.replicate _ _).length = _; rw [List.length_replicate]; exact mk.xs _ _ _
        · exact mk.xs _ _ _
      · intro i h1 h2
        rw [List.getElem_set]
        split
        · rename_i hij; subst hij; rfl
        · exact mk.z _ _ (by omega)
      · intro i h1 h2
        rw [List.getElem_set]
        split
        · rename_i hij; subst hij; show List.replicate _ _ = List.replicate (List.replicate _ _).length _; rw [List.length_replicate]
        · exact mk.b _ _ (by omega)
      · refine o4.to fun x => ?_
        have h9 := wd_cnt (es := es1.set j e') (j := j) (by simpa using hj') x
        rw [List.getElem_set_self, List.eraseIdx_set_eq] at h9
        have : cnt x e'.A = cnt x A2 := rfl
        simp only [cnt_append]; omega)
    (fun a hi => by
      obtain ⟨⟨v0, _⟩, h1⟩ := a
      obtain ⟨rfl, es1, L1, w, mk, o1, hs⟩ := hi
      exact ⟨((), h1), by simp [f_wicketlaw04_Apart_L19], es1, L1, w, mk, o1, hs⟩)
  exact ⟨h', es', L', e, q1, q2, q3, q4⟩

theorem iz_app {k : IntKind} {X Y : List Int} : iz k X ++ iz k Y = iz k (X ++ Y) := by simp [iz]

/-- Grown seventy times. -/
theorem grow_ok {b0 : Int} (hv : Slc 1 v m (iz .u8 (List.replicate m b0)) A) (ho : Own h (A ++ F)) (hd : ShD h) (hb : b0 = bt j) (hm : m ≤ 1000) (hn : 100 ≤ n) :
    ∃ b h' A' D, loopT (fun a => f_wicketlaw04_Apart_L33 n (j : Int) a.1.1 a.1.2.1 a.2) n ((v, ((0 : Int), ())), h) = some ((b, ()), h') ∧ Slc 1 b (m + 70) (iz .u8 (List.replicate (m + 70) b0)) A' ∧ Own h' (A' ++ (D ++ F)) ∧ ShD h' ∧
      (∀ {es' L x k xs}, (∀ z ∈ L, z ∈ F) → Kp es' h.sh L x k xs → Kp es' h'.sh L x k xs) ∧ Kp 1 h'.sh (A' ++ D) v m (iz .u8 (List.replicate m b0)) := by
  obtain ⟨⟨⟨b, _⟩, h'⟩, e, A', D, q1, q2, q3, q4, q5⟩ := loopT_up (f := fun a => f_wicketlaw04_Apart_L33 n (j : Int) a.1.1 a.1.2.1 a.2)
    (fun k (a : (Value × Int × Unit) × Heap) => a.1.2.1 = (k : Int) ∧ ∃ A' D, Slc 1 a.1.1 (m + k) (iz .u8 (List.replicate (m + k) b0)) A' ∧ Own a.2 (A' ++ (D ++ F)) ∧ ShD a.2 ∧
      (∀ {es' L x k xs}, (∀ z ∈ L, z ∈ F) → Kp es' h.sh L x k xs → Kp es' a.2.sh L x k xs) ∧ (Bg 1 a.2.sh a.1.1 v m (iz .u8 (List.replicate m b0)) ∨ Kp 1 a.2.sh D v m (iz .u8 (List.replicate m b0))))
    (fun r => ∃ A' D, Slc 1 r.1.1 (m + 70) (iz .u8 (List.replicate (m + 70) b0)) A' ∧ Own r.2 (A' ++ (D ++ F)) ∧ ShD r.2 ∧
      (∀ {es' L x k xs}, (∀ z ∈ L, z ∈ F) → Kp es' h.sh L x k xs → Kp es' r.2.sh L x k xs) ∧ Kp 1 r.2.sh (A' ++ D) v m (iz .u8 (List.replicate m b0))) (N := 70) (k := n) (j := 0) (a := ((v, (0, ())), h)) (by omega) (by omega)
    ⟨rfl, A, [], hv, ho, hd, fun _ h => h, .inl (hv.bg ho hd)⟩
    (fun k a hk hi => by
      obtain ⟨⟨b1, i1, _⟩, h1⟩ := a
      obtain ⟨hi0, A1, D1, hs1, o1, hd1, kp1, or1⟩ := hi
      have hi0 : i1 = (k : Int) := hi0
      subst hi0
      have o1 : Own h1 _ := o1
      have hd1 : ShD h1 := hd1
      have hs1 : Slc 1 b1 (m + k) (iz .u8 (List.replicate (m + k) b0)) A1 := hs1
      have hlt : (k : Int) < 70 := by omega
      obtain ⟨b2, h2, A2, D2, e1, e2, o2, hd2, kp2, bg2⟩ := hs1.pushS (new := [.int .u8 b0]) o1 hd1 (by decide) rfl (bytes := 1) (by omega)
      have htk : iz .u8 (List.replicate m b0) = (iz .u8 (List.replicate (m + k) b0)).take (m * 1) := by
        rw [Nat.mul_one]; simp only [iz, ← List.map_take, List.take_replicate]
        congr 2; omega
      refine .inl ⟨((b2, (((k + 1 : Nat) : Int), ())), h2), ?_, rfl, A2, D2 ++ D1, ?_, o2.to fun x => by simp only [cnt_append]; omega, hd2, fun hL hK => kp2 (fun z hz => List.mem_append_right _ (hL z hz)) (kp1 hL hK), ?_⟩
      · have f1 : fillL [.int .u8 0] [(0, 1, .int .u8 (IntKind.u8.wrap (IntKind.i64.wrap ((j : Int) + 1))))] = some [.int .u8 b0] := by rw [hb]; rfl
        simp only [f_wicketlaw04_Apart_L33, hlt, decide_true, cond_true, f1, Option.bind_some, bnd_eq, e1, wrap_succ (show k < 4611686018427387904 by omega)]
      · have : iz .u8 (List.replicate (m + k) b0) ++ [Value.int .u8 b0] = iz .u8 (List.replicate (m + (k + 1)) b0) := by
          rw [← Nat.add_assoc, List.replicate_succ']; simp [iz]
        rw [this] at e2; exact e2
      · rcases or1 with hb1 | hk1
        · rcases bg2 hb1 htk (by omega) with h3 | h3
          · exact .inl h3
          · exact .inr (h3.mono fun z hz => List.mem_append_left _ hz)
        · exact .inr ((kp2 (fun z hz => List.mem_append_left _ hz) hk1).mono fun z hz => List.mem_append_right _ hz))
    (fun a hi => by
      obtain ⟨⟨b1, i1, _⟩, h1⟩ := a
      obtain ⟨hi0, A1, D1, hs1, o1, hd1, kp1, or1⟩ := hi
      have hi0 : i1 = ((70 : Nat) : Int) := hi0
      subst hi0
      have hs1 : Slc 1 b1 (m + 70) (iz .u8 (List.replicate (m + 70) b0)) A1 := hs1
      refine ⟨((b1, ()), h1), by simp [f_wicketlaw04_Apart_L33], A1, D1, hs1, o1, hd1, kp1, ?_⟩
      rcases or1 with hb1 | hk1
      · have htk : iz .u8 (List.replicate m b0) = (iz .u8 (List.replicate (m + 70) b0)).take (m * 1) := by
          rw [Nat.mul_one]; simp only [iz, ← List.map_take, List.take_replicate]
          congr 2; omega
        exact (hb1.kp hs1 htk (by omega)).mono fun z hz => List.mem_append_left _ hz
      · exact hk1.mono fun z hz => List.mem_append_right _ hz)
  exact ⟨b, h', A', D, e, q1, q2, q3, q4, q5⟩
end
end Go.Proofs.Ytbjipkemgnpifaa

/- Disks: told writes share no memory: all of it. -/
namespace Go.Proofs.Ytbjipkemgnpifaa
open Go
set_option linter.unusedVariables false
set_option linter.unusedSimpArgs false

/-- A list grown, and what it left behind. -/
structure Gw where
  b : Value
  A : Ch
  D : Ch
def Gw.G (g : Gw) : Ch := g.A ++ g.D
theorem gw_mem {gs : List Gw} {i : Nat} (hi : i < gs.length) : ∀ z ∈ gs[i].A ++ gs[i].D, z ∈ gs.flatMap Gw.G := fun z hz => List.mem_flatMap.2 ⟨gs[i], List.getElem_mem hi, hz⟩
theorem gw_cnt {es : List Gw} {j : Nat} (hj : j < es.length) (x : Nat × AObj) : cnt x (es.flatMap Gw.G) = cnt x es[j].G + cnt x ((es.eraseIdx j).flatMap Gw.G) := by
  induction es generalizing j with
  | nil => simp at hj
  | cons e es ih =>
    cases j with
    | zero => simp only [List.flatMap_cons, cnt_append, List.getElem_cons_zero, List.eraseIdx_cons_zero]
    | succ j =>
      simp only [List.flatMap_cons, cnt_append, List.getElem_cons_succ, List.eraseIdx_cons_succ]
      have := ih (j := j) (by simpa using hj)
      omega

section
variable {n j m : Nat} {L F G A B : Ch} {h : Heap} {s u v : Value} {X : List Int} {cs : List Value} {es : List Wx}

/-- What stands behind the growing. -/
structure Grn (h : Heap) (es : List Wx) (lg : Value) (Lg : Ch) (gs : List Gw) (j : Nat) : Prop where
  len : gs.length = j
  lg : Slc 1 lg j (gs.map Gw.b) Lg
  g : ∀ (i : Nat) (h1 : i < gs.length) (h2 : i < es.length), Slc 1 gs[i].b (es[i].X.length + 70) (iz .u8 (List.replicate (es[i].X.length + 70) (bt i))) gs[i].A
  k : ∀ (i : Nat) (h1 : i < gs.length) (h2 : i < es.length), Kp 1 h.sh (gs[i].A ++ gs[i].D) es[i].v es[i].X.length (iz .u8 (List.replicate es[i].X.length (bt i)))
  d : ShD h

theorem grows_ok (w1 : Slc 2 s es.length (es.flatMap Wx.cells) B) (w2 : ∀ e ∈ es, Slc 1 e.v e.X.length (iz .u8 e.X) e.A) (ho : Own h (B ++ (es.flatMap Wx.A ++ F))) (hd : ShD h)
    (hb : ∀ (i : Nat) (h1 : i < es.length), es[i].X = List.replicate es[i].X.length (bt i)) (hm : ∀ e ∈ es, e.X.length ≤ 1000) (hN : es.length ≤ 1000) (hn : 2000 ≤ n) :
    ∃ lg h' Lg gs, loopT (fun a => f_wicketlaw04_Apart_L39 n s es.length a.1.1 a.1.2.1 a.2) n ((.slice none 0 0, ((0 : Int), ())), h) = some ((lg, ()), h') ∧ Grn h' es lg Lg gs es.length ∧ Own h' (Lg ++ (gs.flatMap Gw.G ++ (B ++ F))) := by
  obtain ⟨⟨⟨lg, _⟩, h'⟩, e, Lg, gs, q1, q2⟩ := loopT_up (f := fun a => f_wicketlaw04_Apart_L39 n s es.length a.1.1 a.1.2.1 a.2)
    (fun j (a : (Value × Int × Unit) × Heap) => a.1.2.1 = (j : Int) ∧ ∃ Lg gs, Grn a.2 es a.1.1 Lg gs j ∧ Own a.2 (Lg ++ (gs.flatMap Gw.G ++ (B ++ ((es.drop j).flatMap Wx.A ++ F)))))
    (fun r => ∃ Lg gs, Grn r.2 es r.1.1 Lg gs es.length ∧ Own r.2 (Lg ++ (gs.flatMap Gw.G ++ (B ++ F)))) (N := es.length) (k := n) (j := 0) (a := ((.slice none 0 0, (0, ())), h)) (by omega) (by omega)
    ⟨rfl, [], [], ⟨rfl, .nil, fun _ h => absurd h (Nat.not_lt_zero _), fun _ h => absurd h (Nat.not_lt_zero _), hd⟩, ho⟩
    (fun j a hj hi => by
      obtain ⟨⟨lg, i1, _⟩, h1⟩ := a
      obtain ⟨hi0, Lg, gs, gr, o1⟩ := hi
      have hi0 : i1 = (j : Int) := hi0
      subst hi0
      have o1 : Own h1 _ := o1
      have gr : Grn h1 es lg Lg gs j := gr
      have hlt : (j : Int) < (es.length : Int) := by omega
      have hdr : es.drop j = es[j] :: es.drop (j + 1) := List.drop_eq_getElem_cons hj
      have hfl : (es.drop j).flatMap Wx.A = es[j].A ++ (es.drop (j + 1)).flatMap Wx.A := by rw [hdr]; rfl
      have ob : Own h1 (B ++ (Lg ++ (gs.flatMap Gw.G ++ ((es.drop j).flatMap Wx.A ++ F)))) := o1.to fun x => by simp only [cnt_append]; omega
      obtain ⟨q, e1, e2, e3, _⟩ := wd_at w1 ob hj
      have e4 := ldTS_slc w1 ob gr.d e1 (ty := .any) (o := 1)
      have hv := w2 _ (List.getElem_mem hj)
      rw [hb j hj] at hv
      simp only [List.length_replicate] at hv
      obtain ⟨b, h2, A2, D2, k1, k2, k3, k4, k5, k6⟩ := grow_ok (n := n) (j := j) (F := Lg ++ (gs.flatMap Gw.G ++ (B ++ ((es.drop (j + 1)).flatMap Wx.A ++ F)))) hv (o1.to fun x => by rw [hfl]; simp only [cnt_append]; omega) gr.d rfl (hm _ (List.getElem_mem hj)) (by omega)
      obtain ⟨lg', h3, Lg', D3, l1, l2, o3, l4, l5, _⟩ := gr.lg.pushS (new := [b]) (F := (gs ++ [(⟨b, A2, D2⟩ : Gw)]).flatMap Gw.G ++ (B ++ ((es.drop (j + 1)).flatMap Wx.A ++ F))) (h := h2) (k3.to fun x => by
        have : ∀ {b A D}, Gw.G ⟨b, A, D⟩ = A ++ D := rfl
        simp only [List.flatMap_append, List.flatMap_cons, List.flatMap_nil, this, cnt_append, cnt_nil]; omega) k4 (by decide) rfl (bytes := 24) (by omega)
      have hfin : ∀ (i : Nat) (h1' : i < (gs ++ [(⟨b, A2, D2⟩ : Gw)]).length) (h2' : i < es.length), (Slc 1 (gs ++ [(⟨b, A2, D2⟩ : Gw)])[i].b (es[i].X.length + 70) (iz .u8 (List.replicate (es[i].X.length + 70) (bt i))) (gs ++ [(⟨b, A2, D2⟩ : Gw)])[i].A) ∧
          Kp 1 h3.sh ((gs ++ [(⟨b, A2, D2⟩ : Gw)])[i].A ++ (gs ++ [(⟨b, A2, D2⟩ : Gw)])[i].D) es[i].v es[i].X.length (iz .u8 (List.replicate es[i].X.length (bt i))) := by
        intro i h1' h2'
        by_cases hij : i < gs.length
        · rw [List.getElem_append_left hij]
          refine ⟨gr.g i hij h2', ?_⟩
          have hkk := gr.k i hij h2'
          have hL : ∀ z ∈ gs[i].A ++ gs[i].D, z ∈ gs.flatMap Gw.G := gw_mem hij
          exact l5 (fun z hz => List.mem_append_left _ (by rw [List.flatMap_append]; exact List.mem_append_left _ (hL z hz))) (k5 (fun z hz => List.mem_append_right _ (List.mem_append_left _ (hL z hz))) hkk)
        · have hij' : i = gs.length := by simp at h1'; omega
          subst hij'
          have hj2 : gs.length = j := gr.len
          rw [List.getElem_append_right (Nat.le_refl _)]
          simp only [Nat.sub_self, List.getElem_cons_zero]
          subst hj2
          exact ⟨k2, l5 (fun z hz => List.mem_append_left _ (by rw [List.flatMap_append]; exact List.mem_append_right _ (by simpa [Gw.G] using hz))) k6⟩
      refine .inl ⟨((lg', (((j + 1 : Nat) : Int), ())), h3), ?_, rfl, Lg', gs ++ [⟨b, A2, D2⟩], ⟨by simp [gr.len], by rw [List.map_append]; exact l2, fun i h1' h2' => (hfin i h1' h2').1, fun i h1' h2' => (hfin i h1' h2').2, l4⟩, o3.to fun x => by simp only [cnt_append]; omega⟩
      have f1 : fillL [.slice none 0 0] [(0, 1, b)] = some [b] := by obtain ⟨x, y, rfl⟩ := k2.form; rfl
      simp only [f_wicketlaw04_Apart_L39, hlt, decide_true, cond_true, e1, e4, e3, Option.bind_some, k1, f1, bnd_eq, l1, wrap_succ (show j < 4611686018427387904 by omega)])
    (fun a hi => by
      obtain ⟨⟨lg, i1, _⟩, h1⟩ := a
      obtain ⟨hi0, Lg, gs, gr, o1⟩ := hi
      have hi0 : i1 = ((es.length : Nat) : Int) := hi0
      subst hi0
      exact ⟨((lg, ()), h1), by simp [f_wicketlaw04_Apart_L39], Lg, gs, gr, o1.to fun x => by simp only [List.drop_length, List.flatMap_nil, cnt_append, cnt_nil]; omega⟩)
  exact ⟨lg, h', Lg, gs, e, q1, q2⟩

theorem looks_ok {lg : Value} {Lg : Ch} {gs : List Gw} (w1 : Slc 2 s es.length (es.flatMap Wx.cells) B) (gr : Grn h es lg Lg gs es.length) (ho : Own h (Lg ++ (gs.flatMap Gw.G ++ (B ++ F))))
    (hz : ∀ (i : Nat) (h1 : i < es.length), es[i].z = -(i : Int)) (hm : ∀ e ∈ es, e.X.length ≤ 1000) (hN : es.length ≤ 1000) (hn : 2000 ≤ n) :
    loopT (fun a => f_wicketlaw04_Apart_L71 n s ((lg, ()), h) es.length a.1.1 a.2) n (((0 : Int), ()), h) = some ((true, ()), h) := by
  have inner : ∀ (i : Nat) (hi : i < es.length), f_wicketlaw04_Apart_C69 n s ((lg, ()), h) (i : Int) h = some (.inl ((), h)) := by
    intro i hi
    have hig : i < gs.length := by rw [gr.len]; exact hi
    have og : Own h ((gs[i].A ++ gs[i].D) ++ ((gs.eraseIdx i).flatMap Gw.G ++ (B ++ (Lg ++ F)))) := ho.to fun x => by have := gw_cnt hig x; simp only [Gw.G, cnt_append] at this ⊢; omega
    have ob : Own h (B ++ (Lg ++ (gs.flatMap Gw.G ++ F))) := ho.to fun x => by simp only [cnt_append]; omega
    obtain ⟨q, e1, e2, e3, _⟩ := wd_at w1 ob hi
    have e3' := ldTS_slc w1 ob gr.d e1 (ty := .any) (o := 1)
    have e2' := ldTS_slc w1 ob gr.d e1 (ty := .int .i64) (o := 0)
    rw [e3] at e3'; rw [e2] at e2'
    obtain ⟨q2, g1, g2⟩ := (gr.lg.rds ho).ix i hi
    have g3 : ldTS .any h (some q2) = some gs[i].b := by
      rw [ldTS_slc0 gr.lg ho gr.d g1, g2.ldT0 (v := gs[i].b) (by simp [hig])]; rfl
    have hb := gr.g i hig hi
    have hk := gr.k i hig hi
    have hml := hm _ (List.getElem_mem hi)
    have oA : Own h (gs[i].A ++ (gs[i].D ++ ((gs.eraseIdx i).flatMap Gw.G ++ (B ++ (Lg ++ F))))) := og.to fun x => by simp only [cnt_append]; omega
    obtain ⟨r, er, hr⟩ := loopT_up (f := fun a => f_wicketlaw04_Apart_L63 n s ((lg, ()), h) (i : Int) (es[i].X.length + 70) a.1.1 a.2)
      (fun k (a : (Int × Unit) × Heap) => a = (((k : Int), ()), h)) (fun r => r = .inl ((), h)) (N := es[i].X.length + 70) (k := n) (j := 0) (a := ((0, ()), h)) (by omega) (by omega) rfl
      (fun k a hk' hi' => by
        subst hi'
        have hlt : (k : Int) < ((es[i].X.length + 70 : Nat) : Int) := by omega
        obtain ⟨q3, c1, c2⟩ := (hb.rds oA).intn (L := List.replicate (es[i].X.length + 70) (bt i)) (i := k) (by simp) hk'
        rw [List.getElem_replicate] at c2
        have c3 : ldTS (.int .u8) h (some q3) = some (bt i) := by rw [ldTS_slc0 hb oA gr.d c1, c2]
        have hbt : IntKind.u8.wrap (IntKind.i64.wrap ((i : Int) + 1)) = bt i := rfl
        refine .inl ⟨_, ?_, rfl⟩
        by_cases hkm : k < es[i].X.length
        · obtain ⟨q4, d1, d2⟩ := hk.ldT og sameL_int (i := k) (v := .int .u8 (bt i)) (by simp [iz, hkm]) (ty := .int .u8)
          rw [prj_int] at d2
          have hlt2 : (k : Int) < (es[i].X.length : Int) := by omega
          simp only [f_wicketlaw04_Apart_L63, hlt, decide_true, cond_true, g1, g3, Option.bind_some, c1, c3, hbt, Bool.not_true, cond_false, e1, e3', hk.lenB, hlt2, d1, d2, wrap_succ (show k < 4611686018427387904 by omega)]
        · have hlt2 : ¬ (k : Int) < (es[i].X.length : Int) := by omega
          simp only [f_wicketlaw04_Apart_L63, hlt, decide_true, cond_true, g1, g3, Option.bind_some, c1, c3, hbt, Bool.not_true, cond_false, e1, e3', hk.lenB, hlt2, decide_false, wrap_succ (show k < 4611686018427387904 by omega)])
      (fun a hi' => by
        subst hi'
        exact ⟨_, by simp [f_wicketlaw04_Apart_L63], rfl⟩)
    subst hr
    have hc64 : f_wicketlaw04_Apart_C64 n s ((lg, ()), h) (i : Int) h = some (.inl ((), h)) := by
      simp only [f_wicketlaw04_Apart_C64, g1, g3, Option.bind_some, hb.lenB]
      exact er
    have hzi : es[i].z = -(i : Int) := hz i hi
    simp only [f_wicketlaw04_Apart_C69, hc64, thenB_inl, e1, e2', Option.bind_some, neg_b (show i < 1000000 by omega), hzi, decide_true, Bool.not_true, cond_false]
  obtain ⟨r, er, hr⟩ := loopT_up (f := fun a => f_wicketlaw04_Apart_L71 n s ((lg, ()), h) es.length a.1.1 a.2)
    (fun i (a : (Int × Unit) × Heap) => a = (((i : Int), ()), h)) (fun r => r = ((true, ()), h)) (N := es.length) (k := n) (j := 0) (a := ((0, ()), h)) (by omega) (by omega) rfl
    (fun i a hi hi' => by
      subst hi'
      have hlt : (i : Int) < (es.length : Int) := by omega
      refine .inl ⟨_, ?_, rfl⟩
      simp only [f_wicketlaw04_Apart_L71, hlt, decide_true, cond_true, inner i hi, thenB_inl, wrap_succ (show i < 4611686018427387904 by omega)])
    (fun a hi' => by
      subst hi'
      exact ⟨_, by simp [f_wicketlaw04_Apart_L71], rfl⟩)
  subst hr
  exact er

theorem apart_ok (hl : Wl s es L) (ho : Own h (L ++ F)) (hm : ∀ e ∈ es, e.X.length ≤ 1000) (hN : es.length ≤ 1000) (hn : 2000 ≤ n) :
    ∃ h', f_wicketlaw04_Apart n s h = some ((true, ()), h') ∧ Own h' F := by
  have o0 : Own (clrH h) (L ++ F) := ⟨ho.get, ho.nodup, ho.lt⟩
  obtain ⟨h1, es1, L1, e1, ⟨B1, w1, w2, rfl⟩, mk, o1, hs1⟩ := marks_ok (n := n) hl o0 rfl hm hN hn
  have hm1 : ∀ e ∈ es1, e.X.length ≤ 1000 := by
    intro e he
    obtain ⟨i, hi, rfl⟩ := List.mem_iff_getElem.1 he
    rw [mk.xs i hi (by rw [← mk.len]; exact hi)]
    exact hm _ (List.getElem_mem _)
  have hlen := mk.len
  have hl0 := hl
  obtain ⟨B0, w0, _, _⟩ := hl0
  have hls : lenB s = some es.length := w0.lenB
  rw [← hlen] at e1 hls
  have hd1 : ShD h1 := fun e he => by rw [hs1] at he; cases he
  obtain ⟨lg, h2, Lg, gs, e2, gr, o2⟩ := grows_ok (n := n) w1 w2 (F := F) (o1.to fun x => by simp only [cnt_append]; omega) hd1 (fun i hi => mk.b i hi (by omega)) hm1 (by omega) hn
  have e3 := looks_ok (n := n) w1 gr o2 (fun i hi => mk.z i hi (by omega)) hm1 (by omega) hn
  refine ⟨h2, ?_, o2.to fun x => by simp only [cnt_append]; omega⟩
  simp only [f_wicketlaw04_Apart, bnd_eq, hls, Option.bind_some, e1, e2, e3]
end
end Go.Proofs.Ytbjipkemgnpifaa

/- The document's disks. -/
namespace Go.Proofs.Ytbjipkemgnpifaa
open Go
set_option linter.unusedVariables false
set_option linter.unusedSimpArgs false

section
variable {n p k i j m : Nat} {sp : Option Nat} {ds D1 : List (List Int)} {ws : List (Int × List Int)} {L F G A B : Ch} {h : Heap} {s u : Value} {X K W : List Int} {cs : List Value}
/-- A part of bytes. -/
theorem slc_sub {kk k' : IntKind} (hs : Slc 1 s n cs A) (hij : i ≤ j) (hj : j ≤ n) : ∃ u, sliceK h 1 (some (.int kk (i : Int))) (some (.int k' (j : Int))) none s = some (u, h) ∧ Sow 1 u (j - i) ((cs.drop i).take (j - i)) A := by
  cases hs with
  | nil =>
    obtain rfl : j = 0 := by omega
    obtain rfl : i = 0 := by omega
    exact ⟨_, rfl, Slc.nil.sow⟩
  | @mk b off sp' _ c pre _ rest hp hl hr =>
    subst hp
    refine ⟨_, sliceK_lh hij (by omega), ?_⟩
    have := Sow.piece (b := b) (off := pre.length + i * 1) (n := j - i) (c := c - i) (sp := sp') (cs := pre ++ (cs ++ rest)) (ro := false) (e := 1) (by simp; omega)
    have e : ((pre ++ (cs ++ rest)).drop (pre.length + i * 1)).take (j - i) = (cs.drop i).take (j - i) := by rw [Nat.mul_one, ← List.drop_drop, List.drop_left, List.drop_append_of_le_length (by omega), List.take_append_of_le_length (by simp; omega)]
    rw [← e]; exact this
theorem iz_flatten {ds : List (List Int)} : iz .u8 ds.flatten = ds.flatMap (iz .u8) := by
  induction ds with
  | nil => rfl
  | cons d ds ih => simp [ih]
theorem sector_of (hd : ∀ d ∈ ds, (iz .u8 d).length = 64) (hi : i < ds.length) : ((iz .u8 ds.flatten).drop (i * 64)).take (i * 64 + 64 - i * 64) = iz .u8 ds[i] := by
  rw [iz_flatten, Nat.add_sub_cancel_left, flat_get hd hi]

theorem hid_str (hs : Slc 1 s n cs A) (ho : Own h (A ++ F)) : ∃ A1, Own (hid h [] (strReads s ++ [])) (A1 ++ F) ∧ ∀ (h' : Heap) (X : Ch), Own h' (A1 ++ X) → Own (h'.putBack h ([] ++ (strReads s ++ []))) (A ++ X) := by
  cases hs with
  | nil =>
    refine ⟨[], ho.keep (fun x hx => ?_) (by rw [next_hid]; exact Nat.le_refl _), fun h' X o => o.keep (fun x hx => ?_) (by rw [Heap.next_putBack]; exact Nat.le_refl _)⟩
    · rw [get_hid, if_neg (by simp [strReads])]; simp
    · rw [Heap.get_putBack, if_neg (by simp [strReads])]
  | @mk b off sp _ c pre _ rest hp hl hr =>
    exact ⟨[(b, .cells (pre ++ (cs ++ rest)) true 1)], Own.ro (F := F) ho, fun h' X o => Own.back (X := X) o ho.head⟩

end

/-- Only to be looked at. -/
def roA : Nat × AObj → Nat × AObj
  | (b, .cells cs _ es) => (b, .cells cs true es)
  | x => x
theorem roA_fst {x : Nat × AObj} : (roA x).1 = x.1 := by
  obtain ⟨b, o⟩ := x
  cases o <;> rfl
section
variable {h h' h0 : Heap} {A F X : Ch} {l : List Nat}
theorem Own.roL (ho : Own h (A ++ F)) (hl : ∀ r, r ∈ l ↔ ∃ x ∈ A, x.1 = r) (hc : ∀ x ∈ A, ∃ cs q es, x.2 = .cells cs q es) : Own (hid h [] l) (A.map roA ++ F) := by
  refine ⟨fun x hx => ?_, ?_, fun x hx => ?_⟩
  · rcases List.mem_append.1 hx with hx | hx
    · obtain ⟨y, hy, rfl⟩ := List.mem_map.1 hx
      rw [roA_fst, get_hid, if_pos ((hl _).2 ⟨y, hy, rfl⟩)]
      have := ho.get y (List.mem_append_left _ hy)
      obtain ⟨cs, q, es, e⟩ := hc y hy
      obtain ⟨b, o⟩ := y
      simp only at e
      subst e
      rw [if_neg List.not_mem_nil, this]; rfl
    · rw [get_hid, if_neg (fun hm => by
        obtain ⟨y, hy, e⟩ := (hl _).1 hm
        exact ho.apart hy hx e), if_neg List.not_mem_nil]
      exact ho.get x (List.mem_append_right _ hx)
  · have := ho.nodup
    rw [List.map_append, List.map_map]
    rw [List.map_append] at this
    have e : (A.map ((fun x => x.1) ∘ roA)) = A.map (·.1) := List.map_congr_left fun x _ => roA_fst
    rwa [e]
  · rw [next_hid]
    rcases List.mem_append.1 hx with hx | hx
    · obtain ⟨y, hy, rfl⟩ := List.mem_map.1 hx
      rw [roA_fst]; exact ho.lt y (List.mem_append_left _ hy)
    · exact ho.lt x (List.mem_append_right _ hx)
theorem Own.backL (ho : Own h (A.map roA ++ X)) (hl : ∀ r, r ∈ l ↔ ∃ x ∈ A, x.1 = r) (hg : ∀ x ∈ A, h0.get x.1 = some x.2) : Own (h.putBack h0 l) (A ++ X) := by
  refine ⟨fun x hx => ?_, ?_, fun x hx => ?_⟩
  · rw [Heap.get_putBack]
    rcases List.mem_append.1 hx with hx | hx
    · rw [if_pos ((hl _).2 ⟨x, hx, rfl⟩)]; exact hg x hx
    · rw [if_neg (fun hm => by
        obtain ⟨y, hy, e⟩ := (hl _).1 hm
        exact ho.apart (List.mem_map_of_mem hy) hx (by rw [roA_fst]; exact e))]
      exact ho.get x (List.mem_append_right _ hx)
  · have := ho.nodup
    rw [List.map_append, List.map_map] at this
    rw [List.map_append]
    have e : (A.map ((fun x => x.1) ∘ roA)) = A.map (·.1) := List.map_congr_left fun x _ => roA_fst
    rwa [e] at this
  · rw [Heap.next_putBack]
    rcases List.mem_append.1 hx with hx | hx
    · have := ho.lt (roA x) (List.mem_append_left _ (List.mem_map_of_mem hx))
      rwa [roA_fst] at this
    · exact ho.lt x (List.mem_append_right _ hx)
end

/-- The document's disk. -/
def Rd' (p : Nat) (ds : List (List Int)) (ws : List (Int × List Int)) (L : Ch) : Prop :=
  ∃ (sd sw : Value) (A B : Ch) (es : List Wx), Slc 1 sd (ds.length * 64) (ds.flatMap (iz .u8)) A ∧ Slc 2 sw es.length (es.flatMap Wx.cells) B ∧ (∀ e ∈ es, Slc 1 e.v e.X.length (iz .u8 e.X) e.A) ∧ es.map Wx.key = ws ∧ Okd ds ws ∧ L = (p, .cells [sd, sw] false 0) :: (A ++ (B ++ es.flatMap Wx.A))

section
variable {n p k i j m : Nat} {sp : Option Nat} {ds : List (List Int)} {ws : List (Int × List Int)} {L F G A B : Ch} {h : Heap} {s u : Value} {X K W : List Int} {cs : List Value} {z : Int} {es : List Wx}
theorem div64 {N : Nat} (h : N ≤ 4096) : IntKind.i64.wrap (Int.tdiv ((N * 64 : Nat) : Int) 64) = (N : Int) := by
  have : Int.tdiv ((N * 64 : Nat) : Int) 64 = ((N * 64 / 64 : Nat) : Int) := rfl
  rw [this, Nat.mul_div_cancel _ (by decide), wrap_i64 (by omega) (by omega)]
theorem keys_at {es : List Wx} (hk : es.map Wx.key = ws) {j : Nat} (hj : j < es.length) (hj' : j < ws.length) : es[j].z = ws[j].1 ∧ es[j].X = ws[j].2 := by
  subst hk
  simp [Wx.key]
theorem rlen_ok (hd : Rd' p ds ws L) (ho : Own h (L ++ F)) (hN : ds.length ≤ 4096) : f_wicketref04_Disk_Len n (some ⟨p, 0, sp⟩) h = some (((ds.length : Int), ()), h) := by
  obtain ⟨sd, sw, A, B, es, a1, a2, a3, a4, a5, rfl⟩ := hd
  have hg := ho.head
  simp only [f_wicketref04_Disk_Len, Option.bind_some, fa_mk, Nat.zero_add, ldT_of hg, List.getElem?_cons_zero, prj_any, a1.lenB, div64 hN]
theorem rnew_ok {N : Nat} (ho : Own h F) (h1 : 1 ≤ N) (h2 : N ≤ 4096) :
    ∃ p h' L, f_wicketref04_New n (N : Int) h = some ((some ⟨p, 0, none⟩, (0, ())), h') ∧ Rd' p (List.replicate N (List.replicate 64 0)) [] L ∧ Own h' (L ++ F) := by
  have hw : IntKind.i64.wrap ((N : Int) * 64) = ((N * 64 : Nat) : Int) := by rw [wrap_i64 (by omega) (by omega)]; omega
  have hmk := mkSl_of (nx := h.next) (bytes := 1) (es := 1) (zs := [.int .u8 0]) (k := .i64) (k' := .i64) (l := N * 64) (c := N * 64) (by omega) (by omega) (by omega)
  rw [flat_rep1] at hmk
  have ef : List.replicate (N * 64) (Value.int .u8 0) = (List.replicate N (List.replicate 64 0)).flatMap (iz .u8) := by
    rw [← iz_flatten, List.flatten_replicate_replicate, iz_rep]
  have hd : ∀ d ∈ List.replicate N (List.replicate 64 (0 : Int)), (iz .u8 d).length = 64 := by
    intro d hd
    rw [List.eq_of_mem_replicate hd]; rfl
  have hfl := flat_len hd
  rw [List.length_replicate] at hfl
  rw [ef] at hmk
  generalize hC : (List.replicate N (List.replicate 64 (0 : Int))).flatMap (iz .u8) = C at hmk hfl
  have hv : Slc 1 (.slice (some ⟨h.next, 0, some 0⟩) (N * 64) (N * 64)) (N * 64) C [(h.next, .cells ([] ++ (C ++ [])) false 1)] := .mk rfl (by omega) (by simp [hfl])
  have o1 := ho.new (.cells C false 1)
  generalize hb : h.next = b at hmk hv o1
  generalize hh1 : h.new (.cells C false 1) = h1' at o1
  have o2 := o1.new (.cells [.slice (some ⟨b, 0, some 0⟩) (N * 64) (N * 64), .slice none 0 0] false 0)
  refine ⟨h1'.next, _, _, ?_, ⟨_, .slice none 0 0, _, [], [], by rw [List.length_replicate, hC]; exact hv, .nil, (fun _ h => absurd h List.not_mem_nil), rfl, ⟨hd, fun _ h => absurd h List.not_mem_nil, fun _ h => absurd h List.not_mem_nil⟩, rfl⟩, o2.to fun x => by simp only [cnt_append, cnt_cons, cnt_nil, List.cons_append, List.nil_append, List.append_nil, List.flatMap_nil]; omega⟩
  have c1 : ¬ (N : Int) < 1 := by omega
  have c2 : ¬ 4096 < (N : Int) := by omega
  have f1 : fillL [.slice none 0 0, .slice none 0 0] [(0, 1, .slice (some ⟨b, 0, some 0⟩) (N * 64) (N * 64))] = some [.slice (some ⟨b, 0, some 0⟩) (N * 64) (N * 64), .slice none 0 0] := rfl
  have hc : ([.slice (some ⟨b, 0, some 0⟩) (N * 64) (N * 64), .slice none 0 0] : List Value).all isCell = true := rfl
  simp only [f_wicketref04_New, c1, c2, decide_false, cond_false, Option.bind_some, hw, hb, hmk, bnd_eq, hh1, f1, hc, cond_true, nwA_eq]

theorem rread_bad (hd : Rd' p ds ws L) (ho : Own h (L ++ F)) (hN : ds.length ≤ 4096) (hz : z < 0 ∨ (ds.length : Int) ≤ z) : f_wicketref04_Disk_Read n (some ⟨p, 0, sp⟩) z h = some ((.slice none 0 0, (40, ())), h) := by
  have e := rlen_ok (n := n) (sp := sp) hd ho hN
  by_cases h0 : z < 0
  · simp [f_wicketref04_Disk_Read, h0]
  · have h1 : (ds.length : Int) ≤ z := by omega
    simp [f_wicketref04_Disk_Read, h0, e, h1]
theorem rwrite_bad (hd : Rd' p ds ws L) (ho : Own h (L ++ F)) (hN : ds.length ≤ 4096) (hz : z < 0 ∨ (ds.length : Int) ≤ z) : f_wicketref04_Disk_Write n (some ⟨p, 0, sp⟩) z u h = some ((40, ()), h) := by
  have e := rlen_ok (n := n) (sp := sp) hd ho hN
  by_cases h0 : z < 0
  · simp [f_wicketref04_Disk_Write, h0]
  · have h1 : (ds.length : Int) ≤ z := by omega
    simp [f_wicketref04_Disk_Write, h0, e, h1]
theorem rwrite_len (hd : Rd' p ds ws L) (ho : Own h (L ++ F)) (hN : ds.length ≤ 4096) (h0 : 0 ≤ z) (h1 : z < ds.length) (hl : lenB u = some m) (hm : m ≠ 64) : f_wicketref04_Disk_Write n (some ⟨p, 0, sp⟩) z u h = some ((2, ()), h) := by
  have e := rlen_ok (n := n) (sp := sp) hd ho hN
  have c0 : ¬ z < 0 := by omega
  have c1 : ¬ (ds.length : Int) ≤ z := by omega
  have c2 : ¬ (m : Int) = 64 := by omega
  simp [f_wicketref04_Disk_Write, c0, e, c1, hl, c2]

theorem rread_ok (hd : Rd' p ds ws L) (ho : Own h (L ++ F)) (hN : ds.length ≤ 4096) (hi : i < ds.length) (hW : ws.length ≤ 1000) (hn : 2000 ≤ n) :
    ∃ s h' A', f_wicketref04_Disk_Read n (some ⟨p, 0, sp⟩) (i : Int) h = some ((s, (0, ())), h') ∧ Slc 1 s 64 (iz .u8 (rdv ws i ds[i])) A' ∧ Own h' (A' ++ (L ++ F)) := by
  have el := rlen_ok (n := n) (sp := sp) hd ho hN
  obtain ⟨sd, sw, A, B, es, a1, a2, a3, a4, a5, rfl⟩ := hd
  have hel : es.length = ws.length := by have := congrArg List.length a4; simpa using this
  have c0 : ¬ (i : Int) < 0 := by omega
  have c1 : ¬ (ds.length : Int) ≤ (i : Int) := by omega
  have w1 : IntKind.i64.wrap ((i : Int) * 64) = ((i * 64 : Nat) : Int) := by rw [wrap_i64 (by omega) (by omega)]; omega
  have w2 : IntKind.i64.wrap (IntKind.i64.wrap ((i : Int) + 1) * 64) = ((i * 64 + 64 : Nat) : Int) := by rw [wrap_succ (by omega), wrap_i64 (by omega) (by omega)]; omega
  have o1 := ho.new (.cells [] false 1)
  have hs0 : Slc 1 (.slice (some ⟨h.next, 0, some 0⟩) 0 0) 0 [] [(h.next, .cells ([] ++ ([] ++ [])) false 1)] := .mk rfl rfl rfl
  generalize hb : h.next = b at hs0 o1
  generalize hh1 : h.new (.cells [] false 1) = h1 at o1
  have g1 := o1.get (p, .cells [sd, sw] false 0) (by simp)
  obtain ⟨u1, e1, r1⟩ := slc_sub (h := h1) (i := i * 64) (j := i * 64 + 64) (kk := .i64) (k' := .i64) a1 (by omega) (by omega)
  have hsec : ((ds.flatMap (iz .u8)).drop (i * 64)).take (i * 64 + 64 - i * 64) = iz .u8 ds[i] := by
    rw [Nat.add_sub_cancel_left, flat_get a5.d hi]
  rw [hsec, Nat.add_sub_cancel_left] at r1
  obtain ⟨s2, h2, A2, e2, e3, o2⟩ := r1.app hs0 (F := (p, .cells [sd, sw] false 0) :: ((B ++ es.flatMap Wx.A) ++ F)) (h := h1) (o1.to fun x => by simp only [cnt_append, cnt_cons, cnt_nil, List.cons_append, List.nil_append, List.append_nil]; omega) (by decide) (bytes := 1) (by omega)
  obtain ⟨⟨⟨s', _⟩, h'⟩, e, A', q1, q2⟩ := loopT_up (f := fun a => f_wicketref04_Disk_Read_L26 n (i : Int) (some ⟨p, 0, sp⟩) a.1.1 a.1.2.1 a.2)
    (fun j (a : (Value × Int × Unit) × Heap) => a.1.2.1 = (j : Int) ∧ ∃ A', Slc 1 a.1.1 64 (iz .u8 (rdv (ws.take j) i ds[i])) A' ∧ Own a.2 (A' ++ ((p, .cells [sd, sw] false 0) :: (A ++ (B ++ es.flatMap Wx.A)) ++ F)))
    (fun r => ∃ A', Slc 1 r.1.1 64 (iz .u8 (rdv ws i ds[i])) A' ∧ Own r.2 (A' ++ ((p, .cells [sd, sw] false 0) :: (A ++ (B ++ es.flatMap Wx.A)) ++ F))) (N := ws.length) (k := n) (j := 0) (a := ((s2, (0, ())), h2)) (by omega) (by omega)
    ⟨rfl, A2, by simpa [rdv] using e3, o2.to fun x => by simp only [cnt_append, cnt_cons, List.cons_append]; omega⟩
    (fun j a hj hi' => by
      obtain ⟨⟨v, i1, _⟩, h1⟩ := a
      obtain ⟨hi0, A1, hs1, o1⟩ := hi'
      have hi0 : i1 = (j : Int) := hi0
      subst hi0
      have o1 : Own h1 _ := o1
      have hs1 : Slc 1 v 64 (iz .u8 (rdv (ws.take j) i ds[i])) A1 := hs1
      have hje : j < es.length := by omega
      have hlt : (j : Int) < (es.length : Int) := by omega
      have g1 := o1.get (p, .cells [sd, sw] false 0) (by simp)
      have l1 : ldT .any h1 (some ⟨p, 1, none⟩) = some sw := by rw [ldT_of g1]; rfl
      obtain ⟨hz, hX⟩ := keys_at a4 hje hj
      obtain ⟨q, d1, d2, d3, _⟩ := wd_at (F := (p, .cells [sd, sw] false 0) :: (A1 ++ (A ++ (es.flatMap Wx.A ++ F)))) a2 (o1.to fun x => by simp only [cnt_append, cnt_cons, List.cons_append]; omega) hje
      by_cases hs : es[j].z = (i : Int)
      · have o3 := o1.new (.cells [] false 1)
        have hs0 : Slc 1 (.slice (some ⟨h1.next, 0, some 0⟩) 0 0) 0 [] [(h1.next, .cells ([] ++ ([] ++ [])) false 1)] := .mk rfl rfl rfl
        generalize hb : h1.next = b at hs0 o3
        generalize hh1 : h1.new (.cells [] false 1) = h3 at o3
        have g3 := o3.get (p, .cells [sd, sw] false 0) (by simp)
        have l3 : ldT .any h3 (some ⟨p, 1, none⟩) = some sw := by rw [ldT_of g3]; rfl
        obtain ⟨q', d1', _, d3', _⟩ := wd_at (F := (b, .cells [] false 1) :: (p, .cells [sd, sw] false 0) :: (A1 ++ (A ++ (es.flatMap Wx.A ++ F)))) a2 (o3.to fun x => by simp only [cnt_append, cnt_cons, List.cons_append]; omega) hje
        obtain rfl : q = q' := by rw [d1] at d1'; exact Option.some.inj d1'
        have hxl : es[j].X.length = 64 := by have := a5.w _ (List.getElem_mem hj); simp [wc] at this; rw [hX]; omega
        have hv := a3 _ (List.getElem_mem hje)
        rw [hxl] at hv
        obtain ⟨s4, h4, A4, e4, e5, o4⟩ := hv.sow.app hs0 (F := (p, .cells [sd, sw] false 0) :: (A ++ (B ++ ((es.eraseIdx j).flatMap Wx.A ++ F)))) (h := h3) (o3.to fun x => by have := wd_cnt hje x; simp only [cnt_append, cnt_cons, cnt_nil, List.cons_append, List.nil_append, List.append_nil]; omega) (by decide) (bytes := 1) (by omega)
        refine .inl ⟨((s4, (((j + 1 : Nat) : Int), ())), h4), ?_, rfl, A4, ?_, o4.to fun x => by have := wd_cnt hje x; simp only [cnt_append, cnt_cons, List.cons_append]; omega⟩
        · simp only [f_wicketref04_Disk_Read_L26, Option.bind_some, fa_mk, Nat.zero_add, l1, a2.lenB, hlt, decide_true, cond_true, d1, d2, hs, fill0, bnd_eq, hh1, hb, l3, d1', d3', e4, wrap_succ (show j < 4611686018427387904 by omega)]
        · rw [take_snoc hj, rdv_snoc, if_pos (by rw [← hz]; exact hs), ← hX]
          simpa using e5
      · refine .inl ⟨((v, (((j + 1 : Nat) : Int), ())), h1), ?_, rfl, A1, ?_, o1⟩
        · simp only [f_wicketref04_Disk_Read_L26, Option.bind_some, fa_mk, Nat.zero_add, l1, a2.lenB, hlt, decide_true, cond_true, d1, d2, hs, decide_false, cond_false, wrap_succ (show j < 4611686018427387904 by omega)]
        · rw [take_snoc hj, rdv_snoc, if_neg (by rw [← hz]; exact hs)]; exact hs1)
    (fun a hi' => by
      obtain ⟨⟨v, i1, _⟩, h1⟩ := a
      obtain ⟨hi0, A1, hs1, o1⟩ := hi'
      have hi0 : i1 = ((ws.length : Nat) : Int) := hi0
      subst hi0
      have o1 : Own h1 _ := o1
      have g1 := o1.get (p, .cells [sd, sw] false 0) (by simp)
      have l1 : ldT .any h1 (some ⟨p, 1, none⟩) = some sw := by rw [ldT_of g1]; rfl
      rw [List.take_length] at hs1
      refine ⟨((v, ()), h1), ?_, A1, hs1, o1⟩
      have hlt : ¬ (ws.length : Int) < (es.length : Int) := by omega
      simp only [f_wicketref04_Disk_Read_L26, Option.bind_some, fa_mk, Nat.zero_add, l1, a2.lenB, hlt, decide_false, cond_false])
  have q1 : Slc 1 s' 64 _ A' := q1
  refine ⟨s', h', A', ?_, q1, q2⟩
  have l0 : ldT .any h1 (some ⟨p, 0, none⟩) = some sd := by rw [ldT_of g1]; rfl
  simp only [f_wicketref04_Disk_Read, c0, decide_false, cond_false, el, Option.bind_some, c1, fill0, bnd_eq, hh1, hb, fa_mk, Nat.zero_add, l0, w1, w2, e1, e2, e, q1.notT, Bool.not_false, cond_true]

theorem rwrite_ok (hd : Rd' p ds ws L) (hu : Sow 1 u 64 (iz .u8 X) G) (ho : Own h (L ++ (G ++ F))) (hN : ds.length ≤ 4096) (h0 : 0 ≤ z) (hz1 : z < ds.length) (hlen : ws.length ≤ 1000) :
    ∃ h' L', f_wicketref04_Disk_Write n (some ⟨p, 0, sp⟩) z u h = some ((0, ()), h') ∧ Rd' p ds (ws ++ [(z, X)]) L' ∧ Own h' (L' ++ (G ++ F)) := by
  have el := rlen_ok (n := n) (sp := sp) hd ho hN
  obtain ⟨sd, sw, A, B, es, a1, a2, a3, a4, a5, rfl⟩ := hd
  have hel : es.length = ws.length := by have := congrArg List.length a4; simpa using this
  have c0 : ¬ z < 0 := by omega
  have c1 : ¬ (ds.length : Int) ≤ z := by omega
  have hr := hu.rds (h := h) (F := (p, .cells [sd, sw] false 0) :: (A ++ (B ++ es.flatMap Wx.A) ++ F)) (ho.to fun x => by simp only [cnt_append, cnt_cons, List.cons_append]; omega)
  have hX : (iz .u8 X).length = 64 := hr.len
  have hX' : X.length = 64 := by simpa using hX
  have hg := ho.head
  have l0 : ldT .any h (some ⟨p, 1, none⟩) = some sw := by rw [ldT_of hg]; rfl
  have o1 := ho.new (.cells [] false 1)
  have hs0 : Slc 1 (.slice (some ⟨h.next, 0, some 0⟩) 0 0) 0 [] [(h.next, .cells ([] ++ ([] ++ [])) false 1)] := .mk rfl rfl rfl
  generalize hb : h.next = b at hs0 o1
  generalize hh1 : h.new (.cells [] false 1) = h1 at o1
  have o1' : Own h1 ((p, .cells [sd, sw] false 0) :: ([(b, .cells ([] ++ ([] ++ [])) false 1)] ++ (G ++ (A ++ (B ++ (es.flatMap Wx.A ++ F)))))) := o1.to fun x => by simp only [cnt_append, cnt_cons, cnt_nil, List.cons_append, List.nil_append, List.append_nil]; omega
  obtain ⟨s2, h2, A2, e2, e3, o2⟩ := hu.app hs0 (F := (p, .cells [sd, sw] true 0) :: (A ++ (B ++ (es.flatMap Wx.A ++ F)))) (h := hid h1 [] [p]) (o1'.ro.to fun x => by simp only [cnt_append, cnt_cons]; omega) (by decide) (bytes := 1) (by omega)
  have o3 := Own.back (X := A2 ++ (G ++ (A ++ (B ++ (es.flatMap Wx.A ++ F))))) (o2.to fun x => by simp only [cnt_append, cnt_cons]; omega) o1'.head
  generalize hh3 : h2.putBack h1 [p] = h3 at o3
  obtain ⟨s4, h4, B4, e4, e5, o4⟩ := a2.push (new := [.int .i64 z, s2]) (F := (p, .cells [sd, sw] false 0) :: (A2 ++ (G ++ (A ++ (es.flatMap Wx.A ++ F))))) (h := h3) (o3.to fun x => by simp only [cnt_append, cnt_cons]; omega) (by decide) rfl (bytes := 32) (by omega)
  have o5 : Own h4 ((p, .cells [sd, sw] false 0) :: (A ++ (B4 ++ (es ++ [(⟨z, s2, X, A2⟩ : Wx)]).flatMap Wx.A) ++ (G ++ F))) := o4.to fun x => by simp only [cnt_append, cnt_cons, cnt_nil, List.flatMap_append, List.flatMap_cons, List.flatMap_nil, wxA]; omega
  have e6 := stB1_of (sp := none) (o := 1) (v := s4) o5.head e5.cellsOf e5.isCell (by simp)
  have o6 := o5.put (.cells [sd, s4] false 0)
  refine ⟨_, _, ?_, ⟨sd, s4, A, B4, es ++ [⟨z, s2, X, A2⟩], a1, by rw [List.flatMap_append, List.length_append]; exact e5, fun e he => ?_, by rw [List.map_append, a4]; rfl, ⟨a5.d, fun w hw => ?_, fun w hw => ?_⟩, rfl⟩, o6⟩
  · have f1 : fillL [.int .i64 0, .slice none 0 0] [(0, 1, .int .i64 z), (1, 1, s2)] = some [.int .i64 z, s2] := by obtain ⟨x, y, rfl⟩ := e3.form; rfl
    have f2 : fillL [.int .i64 0, .slice none 0 0] [(0, 2, .agg ⟨[.int .i64 z, s2]⟩)] = some [.int .i64 z, s2] := by obtain ⟨x, y, rfl⟩ := e3.form; rfl
    have hh3' : h2.putBack h1 ([] ++ [p]) = h3 := hh3
    simp only [f_wicketref04_Disk_Write, c0, decide_false, cond_false, el, Option.bind_some, c1, hr.lenB, fill0, bnd_eq, hh1, hb, fa_mk, Nat.zero_add, l0, e2, hh3', f1, f2, e4]
    rw [show (!decide (((64 : Nat) : Int) = 64)) = false from rfl, cond_false, e6]
    rfl
  · rcases List.mem_append.1 he with he | he
    · exact a3 e he
    · rw [List.mem_singleton] at he; subst he
      show Slc 1 s2 X.length (iz .u8 X) A2
      rw [hX']; simpa using e3
  · rcases List.mem_append.1 hw with hw | hw
    · exact a5.w w hw
    · simp only [List.mem_singleton] at hw; subst hw; simp [wc, hX']
  · rcases List.mem_append.1 hw with hw | hw
    · exact a5.r w hw
    · simp only [List.mem_singleton] at hw; subst hw; exact ⟨h0, hz1⟩
end
end Go.Proofs.Ytbjipkemgnpifaa

/- The document's disks: copies, crashes; loaded ones. -/
namespace Go.Proofs.Ytbjipkemgnpifaa
open Go
set_option linter.unusedVariables false
set_option linter.unusedSimpArgs false

section
variable {n p k i j m t : Nat} {sp : Option Nat} {ds : List (List Int)} {ws : List (Int × List Int)} {L F G A B : Ch} {h : Heap} {s u sd sw : Value} {X K W : List Int} {cs : List Value} {z : Int} {es : List Wx}
theorem mem_blk {r b : Nat} {o : AObj} {A : Ch} : (∃ x ∈ (b, o) :: A, x.1 = r) ↔ r = b ∨ ∃ x ∈ A, x.1 = r := by
  constructor
  · rintro ⟨x, hx, rfl⟩
    rcases List.mem_cons.1 hx with rfl | hx
    · exact .inl rfl
    · exact .inr ⟨x, hx, rfl⟩
  · rintro (rfl | ⟨x, hx, rfl⟩)
    · exact ⟨_, List.mem_cons_self .., rfl⟩
    · exact ⟨x, List.mem_cons_of_mem _ hx, rfl⟩

theorem rcopy_ok (hd : Rd' p ds ws L) (ho : Own h (L ++ F)) (hN : ds.length ≤ 4096) (hW : ws.length ≤ 1000) (hn : 2000 ≤ n) :
    ∃ p' h' L', f_wicketref04_Disk_Copy n (some ⟨p, 0, sp⟩) h = some ((some ⟨p', 0, none⟩, ()), h') ∧ Rd' p' ds ws L' ∧ Own h' (L' ++ (L ++ F)) := by
  obtain ⟨sd, sw, A, B, es, a1, a2, a3, a4, a5, rfl⟩ := hd
  have hel : es.length = ws.length := by have := congrArg List.length a4; simpa using this
  have o1 := ho.new (.cells [] false 1)
  have hs0 : Slc 1 (.slice (some ⟨h.next, 0, some 0⟩) 0 0) 0 [] [(h.next, .cells ([] ++ ([] ++ [])) false 1)] := .mk rfl rfl rfl
  generalize hb : h.next = b at hs0 o1
  generalize hh1 : h.new (.cells [] false 1) = h1 at o1
  have l0 : ldT .any h1 (some ⟨p, 0, none⟩) = some sd := by rw [ldT_of (o1.get (p, .cells [sd, sw] false 0) (by simp))]; rfl
  obtain ⟨s2, h2, A2, e2, e3, o2⟩ := a1.sow.app hs0 (F := (p, .cells [sd, sw] false 0) :: (B ++ (es.flatMap Wx.A ++ F))) (h := h1) (o1.to fun x => by simp only [cnt_append, cnt_cons, cnt_nil, List.cons_append, List.nil_append, List.append_nil]; omega) (by decide) (bytes := 1) (by omega)
  have e3 : Slc 1 s2 (ds.length * 64) (ds.flatMap (iz .u8)) A2 := by simpa using e3
  have o3 := o2.new (.cells [s2, .slice none 0 0] false 0)
  generalize hc : h2.next = c at o3
  generalize hh3 : h2.new (.cells [s2, .slice none 0 0] false 0) = h3 at o3
  have hcp : c ≠ p := fun e => by
    have := o3.notin (p, .cells [sd, sw] false 0) (by simp)
    exact this e.symm
  obtain ⟨⟨⟨r, _⟩, h'⟩, e, hr, s', B', es', q1, q2, q3, q4⟩ := loopT_up (f := fun a => f_wicketref04_Disk_Copy_L30 n (some ⟨p, 0, sp⟩) (s2, h2) a.1.1 a.2)
    (fun j (a : (Int × Unit) × Heap) => a.1.1 = (j : Int) ∧ ∃ (s' : Value) (B' : Ch) (es' : List Wx), Slc 2 s' es'.length (es'.flatMap Wx.cells) B' ∧ (∀ e ∈ es', Slc 1 e.v e.X.length (iz .u8 e.X) e.A) ∧ es'.map Wx.key = ws.take j ∧
      Own a.2 ((c, .cells [s2, s'] false 0) :: (A2 ++ (B' ++ (es'.flatMap Wx.A ++ ((p, .cells [sd, sw] false 0) :: (A ++ (B ++ (es.flatMap Wx.A ++ F)))))))))
    (fun r => r.1.1 = some ⟨c, 0, none⟩ ∧ ∃ (s' : Value) (B' : Ch) (es' : List Wx), Slc 2 s' es'.length (es'.flatMap Wx.cells) B' ∧ (∀ e ∈ es', Slc 1 e.v e.X.length (iz .u8 e.X) e.A) ∧ es'.map Wx.key = ws ∧
      Own r.2 ((c, .cells [s2, s'] false 0) :: (A2 ++ (B' ++ (es'.flatMap Wx.A ++ ((p, .cells [sd, sw] false 0) :: (A ++ (B ++ (es.flatMap Wx.A ++ F))))))))) (N := ws.length) (k := n) (j := 0) (a := ((0, ()), h3)) (by omega) (by omega)
    ⟨rfl, .slice none 0 0, [], [], .nil, (fun _ h => absurd h List.not_mem_nil), rfl, o3.to fun x => by simp only [cnt_append, cnt_cons, cnt_nil, List.flatMap_nil]; omega⟩
    (fun j a hj hi' => by
      obtain ⟨⟨v, _⟩, h1⟩ := a
      obtain ⟨rfl, s1, B1, es1, w1, w2, w3, o1⟩ := hi'
      have o1 : Own h1 _ := o1
      have hje : j < es.length := by omega
      have hlt : (j : Int) < (es.length : Int) := by omega
      have hel1 : es1.length = j := by have := congrArg List.length w3; simp at this; omega
      obtain ⟨hz, hX⟩ := keys_at a4 hje hj
      have hxl : es[j].X.length = 64 := by have := a5.w _ (List.getElem_mem hj); simp [wc] at this; rw [hX]; omega
      have hv := a3 _ (List.getElem_mem hje)
      rw [hxl] at hv
      have lp : ∀ {g : Heap} {F' : Ch}, Own g F' → (p, AObj.cells [sd, sw] false 0) ∈ F' → ldT .any g (some ⟨p, 1, none⟩) = some sw := fun o hm => by rw [ldT_of (o.get _ hm)]; rfl
      have m1 := lp o1 (by simp)
      have lc1 : ldT .any h1 (some ⟨c, 1, none⟩) = some s1 := by rw [ldT_of o1.head]; rfl
      have ob : Own h1 (B ++ ((c, .cells [s2, s1] false 0) :: (p, .cells [sd, sw] false 0) :: (A2 ++ (B1 ++ (es1.flatMap Wx.A ++ (A ++ (es.flatMap Wx.A ++ F))))))) := o1.to fun x => by simp only [cnt_append, cnt_cons]; omega
      obtain ⟨q, d1, d2, d3, _⟩ := wd_at a2 ob hje
      have o2 := ob.new (.cells [] false 1)
      have hs0 : Slc 1 (.slice (some ⟨h1.next, 0, some 0⟩) 0 0) 0 [] [(h1.next, .cells ([] ++ ([] ++ [])) false 1)] := .mk rfl rfl rfl
      have odr : Own ((h1.new (.cells [] false 1)).dropAll [h1.next]) (B ++ ((c, .cells [s2, s1] false 0) :: (p, .cells [sd, sw] false 0) :: (A2 ++ (B1 ++ (es1.flatMap Wx.A ++ (A ++ (es.flatMap Wx.A ++ F))))))) := o2.dropAll1
      generalize hb1 : h1.next = b1 at hs0 o2 odr
      generalize hh2 : h1.new (.cells [] false 1) = h2' at o2 odr
      generalize hhd : h2'.dropAll [b1] = hdr at odr
      have m2 := lp o2 (by simp)
      have m3 := lp odr (by simp)
      obtain ⟨q', d1', _, d3', _⟩ := wd_at a2 odr hje
      obtain rfl : q = q' := by rw [d1] at d1'; exact Option.some.inj d1'
      obtain ⟨xs, rfl⟩ := ix_blk a2 d1
      -- beside what is looked at
      have hmem : ∀ r, r ∈ [q.block, p, c] ↔ ∃ x ∈ [(q.block, AObj.cells xs false 2), (p, .cells [sd, sw] false 0), (c, .cells [s2, s1] false 0)], x.1 = r := by
        intro r
        rw [mem_blk, mem_blk, mem_blk]; simp
      have o4 := Own.roL (h := h2') (l := [q.block, p, c]) (A := [(q.block, .cells xs false 2), (p, .cells [sd, sw] false 0), (c, .cells [s2, s1] false 0)]) (F := [(b1, .cells ([] ++ ([] ++ [])) false 1)] ++ (A2 ++ (B1 ++ (es1.flatMap Wx.A ++ (A ++ (es.flatMap Wx.A ++ F)))))) (o2.to fun x => by simp only [cnt_append, cnt_cons, cnt_nil, List.cons_append, List.nil_append, List.append_nil]; omega) hmem (by
        intro x hx
        simp only [List.mem_cons, List.not_mem_nil, or_false] at hx
        rcases hx with rfl | rfl | rfl <;> exact ⟨_, _, _, rfl⟩)
      obtain ⟨s5, h5, A5, e5, e6, o5⟩ := hv.sow.app hs0 (h := hid h2' [] [q.block, p, c]) (F := ([(q.block, .cells xs false 2), (p, .cells [sd, sw] false 0), (c, .cells [s2, s1] false 0)] : Ch).map roA ++ (A2 ++ (B1 ++ (es1.flatMap Wx.A ++ (A ++ ((es.eraseIdx j).flatMap Wx.A ++ F)))))) (o4.to fun x => by have := wd_cnt hje x; simp only [cnt_append, cnt_cons, cnt_nil, List.cons_append, List.nil_append, List.append_nil] at this ⊢; omega) (by decide) (bytes := 1) (by omega)
      have o6 := Own.backL (h := h5) (h0 := h2') (l := [q.block, p, c]) (A := [(q.block, .cells xs false 2), (p, .cells [sd, sw] false 0), (c, .cells [s2, s1] false 0)]) (X := A5 ++ (A2 ++ (B1 ++ (es1.flatMap Wx.A ++ (A ++ (es.flatMap Wx.A ++ F)))))) (o5.to fun x => by have := wd_cnt hje x; simp only [cnt_append] at this ⊢; omega) hmem (by
        intro x hx
        refine o2.get x ?_
        simp only [List.mem_cons, List.not_mem_nil, or_false] at hx
        rcases hx with rfl | rfl | rfl <;> simp)
      generalize hh6 : h5.putBack h2' [q.block, p, c] = h6 at o6
      obtain ⟨s7, h7, B7, e7, e8, o7⟩ := w1.push (new := [.int .i64 es[j].z, s5]) (F := A5 ++ ((c, .cells [s2, s1] false 0) :: (p, .cells [sd, sw] false 0) :: (q.block, .cells xs false 2) :: (A2 ++ (es1.flatMap Wx.A ++ (A ++ (es.flatMap Wx.A ++ F)))))) (h := h6) (o6.to fun x => by simp only [cnt_append, cnt_cons, cnt_nil, List.cons_append, List.nil_append]; omega) (by decide) rfl (bytes := 32) (by omega)
      have o8 : Own h7 ((c, .cells [s2, s1] false 0) :: (A2 ++ (B7 ++ ((es1 ++ [(⟨es[j].z, s5, es[j].X, A5⟩ : Wx)]).flatMap Wx.A ++ ((p, .cells [sd, sw] false 0) :: (A ++ ([(q.block, .cells xs false 2)] ++ (es.flatMap Wx.A ++ F)))))))) := o7.to fun x => by simp only [cnt_append, cnt_cons, cnt_nil, List.flatMap_append, List.flatMap_cons, List.flatMap_nil, wxA]; omega
      have e9 := stB1_of (sp := none) (o := 1) (v := s7) o8.head e8.cellsOf e8.isCell (by simp)
      have o9 := o8.put (.cells [s2, s7] false 0)
      refine .inl ⟨((((j + 1 : Nat) : Int), ()), _), ?_, rfl, s7, B7, es1 ++ [(⟨es[j].z, s5, es[j].X, A5⟩ : Wx)], by rw [List.flatMap_append, List.length_append]; exact e8, fun e he => ?_, ?_, o9⟩
      · have f1 : fillL [.int .i64 0, .slice none 0 0] [(0, 1, .int .i64 es[j].z), (1, 1, s5)] = some [.int .i64 es[j].z, s5] := by obtain ⟨x, y, rfl⟩ := e6.form; rfl
        have f2 : fillL [.int .i64 0, .slice none 0 0] [(0, 2, .agg ⟨[.int .i64 es[j].z, s5]⟩)] = some [.int .i64 es[j].z, s5] := by obtain ⟨x, y, rfl⟩ := e6.form; rfl
        have hb0 : (fa q 0).block = q.block := rfl
        have hb2 : (fa (⟨p, 0, sp⟩ : Addr) 1).block = p := rfl
        have hb3 : (fa (⟨c, 0, none⟩ : Addr) 1).block = c := rfl
        simp only [f_wicketref04_Disk_Copy_L30, Option.bind_some, fa_mk, Nat.zero_add, m1, a2.lenB, hlt, decide_true, cond_true, nwA_eq, hc, lc1, d1, d2, fill0, bnd_eq, hh2, hb1, hhd, m3, d1', d3', hb0, e5, List.nil_append, hh6, f1, f2, e7, e9, wrap_succ (show j < 4611686018427387904 by omega)]
        rfl
      · rcases List.mem_append.1 he with he | he
        · exact w2 e he
        · rw [List.mem_singleton] at he; subst he
          show Slc 1 s5 es[j].X.length (iz .u8 es[j].X) A5
          rw [hxl]; simpa using e6
      · rw [List.map_append, w3, take_snoc hj]
        show _ ++ [(es[j].z, es[j].X)] = _
        rw [hz, hX])
    (fun a hi' => by
      obtain ⟨⟨v, _⟩, h1⟩ := a
      obtain ⟨rfl, s1, B1, es1, w1, w2, w3, o1⟩ := hi'
      have o1 : Own h1 _ := o1
      rw [List.take_length] at w3
      have m1 : ldT .any h1 (some ⟨p, 1, none⟩) = some sw := by rw [ldT_of (o1.get (p, .cells [sd, sw] false 0) (by simp))]; rfl
      have hlt : ¬ (ws.length : Int) < (es.length : Int) := by omega
      refine ⟨((some ⟨c, 0, none⟩, ()), h1), ?_, rfl, s1, B1, es1, w1, w2, w3, o1⟩
      simp only [f_wicketref04_Disk_Copy_L30, Option.bind_some, fa_mk, Nat.zero_add, m1, a2.lenB, hlt, decide_false, cond_false, nwA_eq, hc])
  have hr : r = some ⟨c, 0, none⟩ := hr
  subst hr
  have q4 : Own h' _ := q4
  refine ⟨c, h', _, ?_, ⟨s2, s', A2, B', es', e3, q1, q2, q3, a5, rfl⟩, q4.to fun x => by simp only [cnt_append, cnt_cons, List.cons_append]; omega⟩
  have f1 : fillL [.slice none 0 0, .slice none 0 0] [(0, 1, s2)] = some [s2, .slice none 0 0] := by obtain ⟨x, y, rfl⟩ := e3.form; rfl
  have hcl : ([s2, .slice none 0 0] : List Value).all isCell = true := by obtain ⟨x, y, rfl⟩ := e3.form; rfl
  simp only [f_wicketref04_Disk_Copy, fill0, Option.bind_some, bnd_eq, hh1, hb, fa_mk, Nat.zero_add, l0, e2, f1, hcl, cond_true, hh3]
  exact e
end
end Go.Proofs.Ytbjipkemgnpifaa

/- The document's disks: crashes. -/
namespace Go.Proofs.Ytbjipkemgnpifaa
open Go
set_option linter.unusedVariables false
set_option linter.unusedSimpArgs false

theorem writeAt_snoc {C Y : List Value} {o k : Nat} (h : o + Y.length ≤ C.length) (hk : k < Y.length) : (writeAt C o (Y.take k)).set (o + k) Y[k] = writeAt C o (Y.take (k + 1)) := by
  rw [writeAt_eq _ _ _ (by simp; omega), writeAt_eq _ _ _ (by simp; omega)]
  rw [take_snoc hk, List.length_append, List.length_take, Nat.min_eq_left (by omega)]
  rw [List.set_append_right _ _ (by simp; omega)]
  have : o + k - (C.take o ++ Y.take k).length = 0 := by simp; omega
  rw [this, List.drop_eq_getElem_cons (show o + k < C.length by omega), List.set_cons_zero]
  simp only [List.length_singleton, List.append_assoc, List.singleton_append]
  rfl

section
variable {n p k i j m t : Nat} {sp : Option Nat} {ds : List (List Int)} {ws : List (Int × List Int)} {L F G A B : Ch} {h : Heap} {s u v sd sw : Value} {X K W : List Int} {C : List Value} {z : Int} {es : List Wx} {N : Nat}
theorem rput_ok {h6 : Heap} (ht : h6.next = t) (a1 : Slc 1 sd (N * 64) C A) (hv : Slc 1 v 64 (iz .u8 X) B) (ho : Own h ((t, .cells [.int .i64 z, v] false 0) :: (p, .cells [sd, sw] false 0) :: (A ++ (B ++ F)))) (h0 : 0 ≤ z) (h1 : z < N) (hN : N ≤ 4096) (hn : 100 ≤ n) :
    ∃ h' A', loopT (fun a => f_wicketref04_Disk_Crash_L26 n (some ⟨p, 0, sp⟩) h6 a.1.1 a.2) n (((0 : Int), ()), h) = some ((), h') ∧ Slc 1 sd (N * 64) (writeAt C (z.toNat * 64) (iz .u8 X)) A' ∧
      Own h' ((t, .cells [.int .i64 z, v] false 0) :: (p, .cells [sd, sw] false 0) :: (A' ++ (B ++ F))) := by
  have hX : X.length = 64 := by have := hv.len; simpa using this
  have hC : C.length = N * 64 := by have := a1.len; omega
  have hz : z.toNat < N := by omega
  have hzz : z = (z.toNat : Int) := by omega
  generalize hzn : z.toNat = zn at hz hzz
  subst hzz
  have hoff : zn * 64 + (iz .u8 X).length ≤ C.length := by simp; omega
  obtain ⟨⟨x, h'⟩, e, A', q1, q2⟩ := loopT_up (f := fun a => f_wicketref04_Disk_Crash_L26 n (some ⟨p, 0, sp⟩) h6 a.1.1 a.2)
    (fun k (a : (Int × Unit) × Heap) => a.1.1 = (k : Int) ∧ ∃ A', Slc 1 sd (N * 64) (writeAt C (zn * 64) ((iz .u8 X).take k)) A' ∧ Own a.2 ((t, .cells [.int .i64 (zn : Int), v] false 0) :: (p, .cells [sd, sw] false 0) :: (A' ++ (B ++ F))))
    (fun r => ∃ A', Slc 1 sd (N * 64) (writeAt C (zn * 64) (iz .u8 X)) A' ∧ Own r.2 ((t, .cells [.int .i64 (zn : Int), v] false 0) :: (p, .cells [sd, sw] false 0) :: (A' ++ (B ++ F)))) (N := 64) (k := n) (j := 0) (a := ((0, ()), h)) (by omega) (by omega)
    ⟨rfl, A, by
      rw [List.take_zero, writeAt_eq _ _ _ (by simp; omega)]
      simpa using a1, ho⟩
    (fun k a hk hi => by
      obtain ⟨⟨v0, _⟩, h1⟩ := a
      obtain ⟨rfl, A1, hs1, o1⟩ := hi
      have o1 : Own h1 _ := o1
      have hlt : (k : Int) < 64 := by omega
      have l0 : ldT .any h1 (some ⟨p, 0, none⟩) = some sd := by rw [ldT_of (o1.get (p, .cells [sd, sw] false 0) (by simp))]; rfl
      have l1 : ldT (.int .i64) h1 (some ⟨t, 0, none⟩) = some (zn : Int) := by rw [ldT_of o1.head]; simp
      have l2 : ldT .any h1 (some ⟨t, 1, none⟩) = some v := by rw [ldT_of o1.head]; rfl
      obtain ⟨q, d1, d2⟩ := (hv.rds (h := h1) (F := (t, .cells [.int .i64 (zn : Int), v] false 0) :: (p, .cells [sd, sw] false 0) :: (A1 ++ F)) (o1.to fun x => by simp only [cnt_append, cnt_cons]; omega)).intn hX hk
      have w1 : IntKind.i64.wrap (IntKind.i64.wrap ((zn : Int) * 64) + (k : Int)) = ((zn * 64 + k : Nat) : Int) := by
        have : IntKind.i64.wrap ((zn : Int) * 64) = ((zn * 64 : Nat) : Int) := by rw [wrap_i64 (by omega) (by omega)]; omega
        rw [this, wrap_i64 (by omega) (by omega)]; omega
      obtain ⟨q', h2, A2, g1, g2, g3, o2⟩ := slc_set1 hs1 (F := (t, .cells [.int .i64 (zn : Int), v] false 0) :: (p, .cells [sd, sw] false 0) :: (B ++ F)) (h := h1) (o1.to fun x => by simp only [cnt_append, cnt_cons]; omega) (i := zn * 64 + k) (by omega) (v := .int .u8 X[k]) rfl rfl
      refine .inl ⟨((((k + 1 : Nat) : Int), ()), h2), ?_, rfl, A2, ?_, o2.to fun x => by simp only [cnt_append, cnt_cons]; omega⟩
      · simp only [f_wicketref04_Disk_Crash_L26, hlt, decide_true, cond_true, Option.bind_some, fa_mk, Nat.zero_add, nwA_eq, ht, l0, l1, l2, d1, d2, w1, g1, g2, wrap_succ (show k < 4611686018427387904 by omega)]
      · have hY : (iz .u8 X)[k]'(by simp; omega) = .int .u8 X[k] := by simp [iz]
        have := writeAt_snoc (C := C) (Y := iz .u8 X) (o := zn * 64) (k := k) hoff (by simp; omega)
        rw [hY] at this
        rwa [this] at g3)
    (fun a hi => by
      obtain ⟨⟨v0, _⟩, h1⟩ := a
      obtain ⟨rfl, A1, hs1, o1⟩ := hi
      rw [List.take_of_length_le (by simp; omega)] at hs1
      exact ⟨((), h1), by simp [f_wicketref04_Disk_Crash_L26], A1, hs1, o1⟩)
  exact ⟨h', A', e, q1, q2⟩

/-- Written, if it is kept. -/
def apk (b : Bool) (ds : List (List Int)) (w : Int × List Int) : List (List Int) := if b then ds.set w.1.toNat w.2 else ds
theorem apk_twice {b : Bool} {ds : List (List Int)} {w : Int × List Int} : apk true (apk b ds w) w = apk true ds w := by
  cases b <;> simp [apk]
theorem apk_len {b : Bool} {ds : List (List Int)} {w : Int × List Int} : (apk b ds w).length = ds.length := by cases b <;> simp [apk]
theorem apk_ok {b : Bool} {w : Int × List Int} (hd : ∀ d ∈ ds, (iz .u8 d).length = 64) (hw : (iz .u8 w.2).length = 64) : ∀ d ∈ apk b ds w, (iz .u8 d).length = 64 := by
  cases b with
  | false => exact hd
  | true =>
    intro d hm
    rcases List.mem_or_eq_of_mem_set (show d ∈ ds.set w.1.toNat w.2 from hm) with hm | rfl
    · exact hd d hm
    · exact hw

theorem rkeep_ok (a1 : Slc 1 sd (ds.length * 64) (ds.flatMap (iz .u8)) A) (a2 : Slc 2 sw es.length (es.flatMap Wx.cells) B) (a3 : ∀ e ∈ es, Slc 1 e.v e.X.length (iz .u8 e.X) e.A) (hi : i < es.length) (hd : ∀ d ∈ ds, (iz .u8 d).length = 64) (hX : es[i].X.length = 64) (h0 : 0 ≤ es[i].z) (h1 : es[i].z < ds.length)
    (hu : Sow 1 u K.length (iz .i64 K) G) (ho : Own h ((p, .cells [sd, sw] false 0) :: (A ++ (B ++ (es.flatMap Wx.A ++ (G ++ F)))))) (hN : ds.length ≤ 4096) (hI : es.length ≤ 1000) (hK : K.length ≤ 1152921504606846976) (hn : K.length + 2000 ≤ n) :
    ∃ h' A', loopT (fun a => f_wicketref04_Disk_Crash_L28 n u (some ⟨p, 0, sp⟩) (i : Int) a.1.1 a.2) n (((0 : Int), ()), h) = some ((), h') ∧ Slc 1 sd (ds.length * 64) ((apk (decide ((i : Int) ∈ K)) ds es[i].key).flatMap (iz .u8)) A' ∧
      Own h' ((p, .cells [sd, sw] false 0) :: (A' ++ (B ++ (es.flatMap Wx.A ++ (G ++ F))))) := by
  have hXi : (iz .u8 es[i].X).length = 64 := by simpa using hX
  obtain ⟨⟨x, h'⟩, e, A', q1, q2⟩ := loopT_up (f := fun a => f_wicketref04_Disk_Crash_L28 n u (some ⟨p, 0, sp⟩) (i : Int) a.1.1 a.2)
    (fun k (a : (Int × Unit) × Heap) => a.1.1 = (k : Int) ∧ ∃ A', Slc 1 sd (ds.length * 64) ((apk (decide ((i : Int) ∈ K.take k)) ds es[i].key).flatMap (iz .u8)) A' ∧ Own a.2 ((p, .cells [sd, sw] false 0) :: (A' ++ (B ++ (es.flatMap Wx.A ++ (G ++ F))))))
    (fun r => ∃ A', Slc 1 sd (ds.length * 64) ((apk (decide ((i : Int) ∈ K)) ds es[i].key).flatMap (iz .u8)) A' ∧ Own r.2 ((p, .cells [sd, sw] false 0) :: (A' ++ (B ++ (es.flatMap Wx.A ++ (G ++ F)))))) (N := K.length) (k := n) (j := 0) (a := ((0, ()), h)) (by omega) (by omega)
    ⟨rfl, A, by simpa [apk] using a1, ho⟩
    (fun k a hk hi' => by
      obtain ⟨⟨v0, _⟩, h1'⟩ := a
      obtain ⟨rfl, A1, hs1, o1⟩ := hi'
      have o1 : Own h1' _ := o1
      have hlt : (k : Int) < (K.length : Int) := by omega
      have hr := hu.rds (h := h1') (F := (p, .cells [sd, sw] false 0) :: (A1 ++ (B ++ (es.flatMap Wx.A ++ F)))) (o1.to fun x => by simp only [cnt_append, cnt_cons]; omega)
      obtain ⟨q, d1, d2⟩ := hr.int hk
      by_cases hs : K[k] = (i : Int)
      · have l1 : ldT .any h1' (some ⟨p, 1, none⟩) = some sw := by rw [ldT_of (o1.get (p, .cells [sd, sw] false 0) (by simp))]; rfl
        obtain ⟨q2, c1, _, _, c4⟩ := wd_at (F := (p, .cells [sd, sw] false 0) :: (A1 ++ (es.flatMap Wx.A ++ (G ++ F)))) a2 (o1.to fun x => by simp only [cnt_append, cnt_cons]; omega) hi
        have o2 := o1.new (.cells [.int .i64 0, .slice none 0 0] false 0)
        generalize ht : h1'.next = t at o2
        generalize hh2 : h1'.new (.cells [.int .i64 0, .slice none 0 0] false 0) = h2 at o2
        have hvc := (a3 _ (List.getElem_mem hi)).isCell
        have e2 := stBA_of (sp := none) (o := 0) (sz := 2) (vs := [.int .i64 es[i].z, es[i].v]) o2.head rfl (by simp only [List.all_cons, List.all_nil, hvc]; rfl) (by simp)
        rw [writeAt_all (by rfl)] at e2
        have o3 := o2.put (.cells [.int .i64 es[i].z, es[i].v] false 0)
        generalize hh3 : h2.put t (.cells [.int .i64 es[i].z, es[i].v] false 0) = h3 at o3 e2
        have hv := a3 _ (List.getElem_mem hi)
        rw [hX] at hv
        obtain ⟨h4, A4, g1, g2, o4⟩ := rput_ok (n := n) (sp := sp) (p := p) (sw := sw) (F := B ++ ((es.eraseIdx i).flatMap Wx.A ++ (G ++ F))) (h := h3) ht hs1 hv (o3.to fun x => by have := wd_cnt hi x; simp only [cnt_append, cnt_cons]; omega) h0 h1 hN (by omega)
        rw [flat_set (apk_ok hd hXi) hXi (by rw [apk_len]; omega)] at g2
        have hap : (apk (decide ((i : Int) ∈ K.take k)) ds es[i].key).set es[i].z.toNat es[i].X = apk (decide ((i : Int) ∈ K.take (k + 1))) ds es[i].key := by
          have h9 : decide ((i : Int) ∈ K.take (k + 1)) = true := by rw [take_snoc hk, hs]; simp
          rw [h9, ← apk_twice (b := decide ((i : Int) ∈ K.take k))]; rfl
        rw [hap] at g2
        refine .inl ⟨((((k + 1 : Nat) : Int), ()), h4), ?_, rfl, A4, g2, o4.tail.to fun x => by have := wd_cnt hi x; simp only [cnt_append, cnt_cons]; omega⟩
        simp only [f_wicketref04_Disk_Crash_L28, hr.lenB, Option.bind_some, hlt, decide_true, cond_true, d1, d2, hs, fa_mk, Nat.zero_add, l1, c1, c4, bnd_eq, nwA_eq, ht, hh2, e2, g1, wrap_succ (show k < 4611686018427387904 by omega)]
      · have hne : ¬ (i : Int) = K[k] := fun e => hs e.symm
        have h8 : ((i : Int) ∈ K.take (k + 1)) ↔ (i : Int) ∈ K.take k := by rw [take_snoc hk, List.mem_append, List.mem_singleton]; simp only [hne, or_false]
        have h9 : decide ((i : Int) ∈ K.take (k + 1)) = decide ((i : Int) ∈ K.take k) := by simp only [h8]
        refine .inl ⟨((((k + 1 : Nat) : Int), ()), h1'), ?_, rfl, A1, by rw [h9]; exact hs1, o1⟩
        simp only [f_wicketref04_Disk_Crash_L28, hr.lenB, Option.bind_some, hlt, decide_true, cond_true, d1, d2, hs, decide_false, cond_false, wrap_succ (show k < 4611686018427387904 by omega)])
    (fun a hi' => by
      obtain ⟨⟨v0, _⟩, h1'⟩ := a
      obtain ⟨rfl, A1, hs1, o1⟩ := hi'
      have o1 : Own h1' _ := o1
      have hr := hu.rds (h := h1') (F := (p, .cells [sd, sw] false 0) :: (A1 ++ (B ++ (es.flatMap Wx.A ++ F)))) (o1.to fun x => by simp only [cnt_append, cnt_cons]; omega)
      rw [List.take_length] at hs1
      exact ⟨((), h1'), by simp [f_wicketref04_Disk_Crash_L28, hr.lenB], A1, hs1, o1⟩)
  exact ⟨h', A', e, q1, q2⟩

theorem rcrash_ok (hd : Rd' p ds ws L) (hu : Sow 1 u K.length (iz .i64 K) G) (ho : Own h (L ++ (G ++ F))) (hN : ds.length ≤ 4096) (hW : ws.length ≤ 1000) (hK : K.length ≤ 1152921504606846976) (hn : K.length + 2000 ≤ n) :
    ∃ h' L', f_wicketref04_Disk_Crash n (some ⟨p, 0, sp⟩) u h = some (((ws.length : Int), ()), h') ∧ Rd' p (ak (fun j => decide ((j : Int) ∈ K)) ws ws.length ds) [] L' ∧ Own h' (L' ++ (G ++ F)) := by
  obtain ⟨sd, sw, A, B, es, a1, a2, a3, a4, a5, rfl⟩ := hd
  have hel : es.length = ws.length := by have := congrArg List.length a4; simpa using this
  have hg := ho.head
  have l1 : ldT .any h (some ⟨p, 1, none⟩) = some sw := by rw [ldT_of hg]; rfl
  generalize hP : (fun j : Nat => decide ((j : Int) ∈ K)) = P
  obtain ⟨⟨x, h'⟩, e, A', q1, q2⟩ := loopT_up (f := fun a => f_wicketref04_Disk_Crash_L30 n u (some ⟨p, 0, sp⟩) es.length a.1.1 a.2)
    (fun j (a : (Int × Unit) × Heap) => a.1.1 = (j : Int) ∧ ∃ A', Slc 1 sd (ds.length * 64) ((ak P ws j ds).flatMap (iz .u8)) A' ∧ Own a.2 ((p, .cells [sd, sw] false 0) :: (A' ++ (B ++ (es.flatMap Wx.A ++ (G ++ F))))))
    (fun r => ∃ A', Slc 1 sd (ds.length * 64) ((ak P ws ws.length ds).flatMap (iz .u8)) A' ∧ Own r.2 ((p, .cells [sd, sw] false 0) :: (A' ++ (B ++ (es.flatMap Wx.A ++ (G ++ F)))))) (N := ws.length) (k := n) (j := 0) (a := ((0, ()), h)) (by omega) (by omega)
    ⟨rfl, A, a1, ho.to fun x => by simp only [cnt_append, cnt_cons, List.cons_append]; omega⟩
    (fun j a hj hi => by
      obtain ⟨⟨v, _⟩, h1⟩ := a
      obtain ⟨rfl, A1, hs1, o1⟩ := hi
      have o1 : Own h1 _ := o1
      have hje : j < es.length := by omega
      have hlt : (j : Int) < (es.length : Int) := by omega
      obtain ⟨hz, hX⟩ := keys_at a4 hje hj
      have hxl : es[j].X.length = 64 := by have := a5.w _ (List.getElem_mem hj); simp [wc] at this; rw [hX]; omega
      have hw := a5.r _ (List.getElem_mem hj)
      rw [← hz] at hw
      rw [← ak_len (P := P) (ws := ws) (j := j)] at hs1
      obtain ⟨h2, A2, e2, e3, o2⟩ := rkeep_ok (n := n) (sp := sp) hs1 a2 a3 hje (ak_ok a5) hxl hw.1 (by rw [ak_len]; exact hw.2) hu o1 (by rw [ak_len]; exact hN) (by omega) hK hn
      rw [ak_len] at e3
      have hPj : P j = decide ((j : Int) ∈ K) := by rw [← hP]
      have hak : apk (decide ((j : Int) ∈ K)) (ak P ws j ds) es[j].key = ak P ws (j + 1) ds := by
        rw [ak_succ hj, hPj]
        have : es[j].key = ws[j] := by show (es[j].z, es[j].X) = _; rw [hz, hX]
        rw [this]; rfl
      rw [hak] at e3
      refine .inl ⟨((((j + 1 : Nat) : Int), ()), h2), ?_, rfl, A2, e3, o2⟩
      simp only [f_wicketref04_Disk_Crash_L30, hlt, decide_true, cond_true, e2, Option.bind_some, wrap_succ (show j < 4611686018427387904 by omega)])
    (fun a hi => by
      obtain ⟨⟨v, _⟩, h1⟩ := a
      obtain ⟨rfl, A1, hs1, o1⟩ := hi
      have hlt : ¬ (ws.length : Int) < (es.length : Int) := by omega
      exact ⟨((), h1), by simp only [f_wicketref04_Disk_Crash_L30, hlt, decide_false, cond_false], A1, hs1, o1⟩)
  have o3 : Own h' _ := q2
  have e' : loopT (fun a => f_wicketref04_Disk_Crash_L30 n u (some ⟨p, 0, sp⟩) es.length a.1.1 a.2) n ((0, ()), h) = some ((), h') := e
  refine ⟨_, _, ?_, ⟨sd, .slice none 0 0, A', [], [], by rw [ak_len]; exact q1, .nil, (fun _ h => absurd h List.not_mem_nil), rfl, ⟨ak_ok a5, fun _ h => absurd h List.not_mem_nil, fun _ h => absurd h List.not_mem_nil⟩, rfl⟩, (o3.put (.cells [sd, .slice none 0 0] false 0)).to fun x => by simp only [cnt_append, cnt_cons, cnt_nil, List.cons_append, List.flatMap_nil]; omega⟩
  have e9 := stB1_of (sp := none) (o := 1) (v := .slice none 0 0) o3.head rfl rfl (by simp)
  rw [hel] at e'
  simp only [f_wicketref04_Disk_Crash, Option.bind_some, fa_mk, Nat.zero_add, l1, a2.lenB, e', e9, hel]
  rfl

theorem rflush_ok (hd : Rd' p ds ws L) (ho : Own h (L ++ F)) (hN : ds.length ≤ 4096) (hW : ws.length ≤ 1000) (hn : 4000 ≤ n) :
    ∃ h' L', f_wicketref04_Disk_Flush n (some ⟨p, 0, sp⟩) h = some (((ws.length : Int), ()), h') ∧ Rd' p (ak (fun _ => true) ws ws.length ds) [] L' ∧ Own h' (L' ++ F) := by
  have hd0 := hd
  obtain ⟨sd, sw, A, B, es, a1, a2, a3, a4, a5, rfl⟩ := hd0
  have hel : es.length = ws.length := by have := congrArg List.length a4; simpa using this
  let nums (j : Nat) : List Int := (List.range j).map fun (x : Nat) => (x : Int)
  have hnl : ∀ j, (nums j).length = j := fun j => by simp [nums]
  have hns : ∀ j, nums (j + 1) = nums j ++ [(j : Int)] := fun j => by simp [nums, List.range_succ]
  obtain ⟨⟨⟨v, _⟩, h1⟩, e, G, q1, q2⟩ := loopT_up (f := fun a => f_wicketref04_Disk_Flush_L9 n (some ⟨p, 0, sp⟩) a.1.1 a.1.2.1 a.2)
    (fun j (a : (Value × Int × Unit) × Heap) => a.1.2.1 = (j : Int) ∧ ∃ G, Slc 1 a.1.1 j (iz .i64 (nums j)) G ∧ Own a.2 (G ++ ((p, .cells [sd, sw] false 0) :: (A ++ (B ++ es.flatMap Wx.A)) ++ F)))
    (fun r => ∃ G, Slc 1 r.1.1 ws.length (iz .i64 (nums ws.length)) G ∧ Own r.2 (G ++ ((p, .cells [sd, sw] false 0) :: (A ++ (B ++ es.flatMap Wx.A)) ++ F))) (N := ws.length) (k := n) (j := 0) (a := ((.slice none 0 0, (0, ())), h)) (by omega) (by omega)
    ⟨rfl, [], .nil, ho⟩
    (fun j a hj hi => by
      obtain ⟨⟨v, i1, _⟩, h1⟩ := a
      obtain ⟨hi0, G1, hs1, o1⟩ := hi
      have hi0 : i1 = (j : Int) := hi0
      subst hi0
      have o1 : Own h1 _ := o1
      have hs1 : Slc 1 v j (iz .i64 (nums j)) G1 := hs1
      have hlt : (j : Int) < (es.length : Int) := by omega
      have l1 : ldT .any h1 (some ⟨p, 1, none⟩) = some sw := by rw [ldT_of (o1.get (p, .cells [sd, sw] false 0) (by simp))]; rfl
      obtain ⟨v2, h2, G2, e1, e2, o2⟩ := hs1.push (new := [.int .i64 (j : Int)]) o1 (by decide) rfl (bytes := 8) (by omega)
      refine .inl ⟨((v2, (((j + 1 : Nat) : Int), ())), h2), ?_, rfl, G2, by rw [hns]; simpa [iz] using e2, o2⟩
      have f1 : fillL [.int .i64 0] [(0, 1, .int .i64 (j : Int))] = some [.int .i64 (j : Int)] := rfl
      simp only [f_wicketref04_Disk_Flush_L9, Option.bind_some, fa_mk, Nat.zero_add, l1, a2.lenB, hlt, decide_true, cond_true, f1, bnd_eq, e1, wrap_succ (show j < 4611686018427387904 by omega)])
    (fun a hi => by
      obtain ⟨⟨v, i1, _⟩, h1⟩ := a
      obtain ⟨hi0, G1, hs1, o1⟩ := hi
      have hi0 : i1 = ((ws.length : Nat) : Int) := hi0
      subst hi0
      have o1 : Own h1 _ := o1
      have hlt : ¬ (ws.length : Int) < (es.length : Int) := by omega
      have l1 : ldT .any h1 (some ⟨p, 1, none⟩) = some sw := by rw [ldT_of (o1.get (p, .cells [sd, sw] false 0) (by simp))]; rfl
      exact ⟨((v, ()), h1), by simp only [f_wicketref04_Disk_Flush_L9, Option.bind_some, fa_mk, Nat.zero_add, l1, a2.lenB, hlt, decide_false, cond_false], G1, hs1, o1⟩)
  have q1 : Slc 1 v ws.length (iz .i64 (nums ws.length)) G := q1
  have q2 : Own h1 _ := q2
  have hu : Sow 1 v (nums ws.length).length (iz .i64 (nums ws.length)) G := by rw [hnl]; exact q1.sow
  obtain ⟨h2, L2, c1, c2, o2⟩ := rcrash_ok (n := n) (sp := sp) hd hu (F := F) (h := h1) (q2.to fun x => by simp only [cnt_append]; omega) hN hW (by rw [hnl]; omega) (by rw [hnl]; omega)
  have hak : ∀ {j}, j ≤ ws.length → ak (fun j => decide ((j : Int) ∈ nums ws.length)) ws j ds = ak (fun _ => true) ws j ds := by
    intro j
    induction j with
    | zero => intro _; rfl
    | succ j ih =>
      intro hj
      rw [ak_succ (by omega), ak_succ (by omega), ih (by omega)]
      have : decide ((j : Int) ∈ nums ws.length) = true := by
        simp only [nums, decide_eq_true_eq, List.mem_map, List.mem_range]
        exact ⟨j, by omega, rfl⟩
      rw [this]
  rw [hak (Nat.le_refl _)] at c2
  refine ⟨h2, L2, ?_, c2, o2.to fun x => by simp only [cnt_append]; omega⟩
  simp only [f_wicketref04_Disk_Flush, e, Option.bind_some, c1]
end
end Go.Proofs.Ytbjipkemgnpifaa

/- Disks loaded from images. -/
namespace Go.Proofs.Ytbjipkemgnpifaa
open Go
set_option linter.unusedVariables false
set_option linter.unusedSimpArgs false

section
variable {n p k i j m t : Nat} {sp : Option Nat} {ds : List (List Int)} {ws : List (Int × List Int)} {L F G A B : Ch} {h : Heap} {s u v sd sw : Value} {X K W : List Int} {C : List Value} {z : Int} {es : List Wx} {N : Nat}
theorem rload_ok (hu : Slc 1 u (ds.length * 64) (ds.flatMap (iz .u8)) G) (ho : Own h (G ++ F)) (hd : ∀ d ∈ ds, (iz .u8 d).length = 64) (h1 : 1 ≤ ds.length) (h2 : ds.length ≤ 4096) :
    ∃ p h' L, f_wicketref04_Load n u h = some ((some ⟨p, 0, none⟩, (0, ())), h') ∧ Rd' p ds [] L ∧ Own h' (L ++ (G ++ F)) := by
  have hl := hu.lenB
  have c1 : ¬ ((ds.length * 64 : Nat) : Int) = 0 := by omega
  have c2 : Int.tmod ((ds.length * 64 : Nat) : Int) 64 = 0 := by
    rw [Int.tmod_eq_emod_of_nonneg (by omega)]; omega
  have c3 : ¬ 262144 < ((ds.length * 64 : Nat) : Int) := by omega
  have o1 := ho.new (.cells [] false 1)
  have hs0 : Slc 1 (.slice (some ⟨h.next, 0, some 0⟩) 0 0) 0 [] [(h.next, .cells ([] ++ ([] ++ [])) false 1)] := .mk rfl rfl rfl
  generalize hb : h.next = b at hs0 o1
  generalize hh1 : h.new (.cells [] false 1) = h1' at o1
  obtain ⟨s2, h2', A2, e2, e3, o2⟩ := hu.sow.app hs0 (F := F) (h := h1') (o1.to fun x => by simp only [cnt_append, cnt_cons, cnt_nil, List.nil_append, List.append_nil]; omega) (by decide) (bytes := 1) (by omega)
  have e3 : Slc 1 s2 (ds.length * 64) (ds.flatMap (iz .u8)) A2 := by simpa using e3
  have o3 := o2.new (.cells [s2, .slice none 0 0] false 0)
  refine ⟨h2'.next, _, _, ?_, ⟨s2, .slice none 0 0, A2, [], [], e3, .nil, (fun _ h => absurd h List.not_mem_nil), rfl, ⟨hd, fun _ h => absurd h List.not_mem_nil, fun _ h => absurd h List.not_mem_nil⟩, rfl⟩, o3.to fun x => by simp only [cnt_append, cnt_cons, cnt_nil, List.cons_append, List.nil_append, List.append_nil, List.flatMap_nil]; omega⟩
  have f1 : fillL [.slice none 0 0, .slice none 0 0] [(0, 1, s2)] = some [s2, .slice none 0 0] := by obtain ⟨x, y, rfl⟩ := e3.form; rfl
  have hcl : ([s2, .slice none 0 0] : List Value).all isCell = true := by obtain ⟨x, y, rfl⟩ := e3.form; rfl
  simp only [f_wicketref04_Load, hl, Option.bind_some, c1, c2, c3, decide_false, cond_false, decide_true, Bool.not_true, fill0, bnd_eq, hh1, hb, e2, f1, hcl, cond_true, nwA_eq]

theorem load_ok (hu : Slc 1 u (ds.length * 64) (ds.flatMap (iz .u8)) G) (ho : Own h (G ++ F)) (hd : ∀ d ∈ ds, (iz .u8 d).length = 64) (h1 : 1 ≤ ds.length) (h2 : ds.length ≤ 4096) (hn : 5000 ≤ n) :
    ∃ p h' L, f_sector_Load n u h = some ((some ⟨p, 0, none⟩, (0, ())), h') ∧ Dk p ds [] L ∧ Own h' (L ++ (G ++ F)) := by
  have hl := hu.lenB
  have c0 := div64 h2
  have c1 : ¬ (ds.length : Int) < 1 := by omega
  have c2 : Int.tmod ((ds.length * 64 : Nat) : Int) 64 = 0 := by
    rw [Int.tmod_eq_emod_of_nonneg (by omega)]; omega
  have c3 : ¬ 4096 < (ds.length : Int) := by omega
  have hmk := mkSl_of (nx := h.next) (bytes := 64) (es := 64) (zs := List.replicate 64 (.int .u8 0)) (k := .i64) (k' := .i64) (l := ds.length) (c := ds.length) (by omega) (by omega) (by omega)
  have ef : (List.replicate ds.length (List.replicate 64 (Value.int .u8 0))).flatten = (List.replicate ds.length (List.replicate 64 0)).flatMap (iz .u8) := by
    rw [← iz_flatten, List.flatten_replicate_replicate, List.flatten_replicate_replicate, iz_rep]
  have hd0 : ∀ d ∈ List.replicate ds.length (List.replicate 64 (0 : Int)), (iz .u8 d).length = 64 := by
    intro d hd
    rw [List.eq_of_mem_replicate hd]; rfl
  have hfl := flat_len hd0
  rw [List.length_replicate] at hfl
  rw [ef] at hmk
  generalize hD0 : List.replicate ds.length (List.replicate 64 (0 : Int)) = D0 at hmk hfl hd0
  have hD0l : D0.length = ds.length := by rw [← hD0, List.length_replicate]
  have hv : Slc 64 (.slice (some ⟨h.next, 0, some 0⟩) ds.length ds.length) ds.length (D0.flatMap (iz .u8)) [(h.next, .cells ([] ++ (D0.flatMap (iz .u8) ++ [])) false 64)] := .mk rfl hfl (by rw [List.length_nil]; omega)
  have o1 := ho.new (.cells (D0.flatMap (iz .u8)) false 64)
  generalize hb : h.next = b at hmk hv o1
  generalize hh1 : h.new (.cells (D0.flatMap (iz .u8)) false 64) = h1' at o1
  generalize hsd : Value.slice (some ⟨b, 0, some 0⟩) ds.length ds.length = sd at hmk hv
  have o2 := o1.new (.cells [sd, .slice none 0 0] false 0)
  generalize hc : h1'.next = c at o2
  generalize hh2 : h1'.new (.cells [sd, .slice none 0 0] false 0) = h2' at o2
  obtain ⟨⟨x, h'⟩, e, A', q1, q2⟩ := loopT_up (f := fun a => f_sector_Load_L17 n u h1' ds.length a.1.1 a.2)
    (fun j (a : (Int × Unit) × Heap) => a.1.1 = (j : Int) ∧ ∃ (D : List (List Int)) (A' : Ch), D.length = ds.length ∧ (∀ d ∈ D, (iz .u8 d).length = 64) ∧ (∀ (i : Nat) (h1 : i < D.length) (h2 : i < ds.length), i < j → D[i] = ds[i]) ∧ Slc 64 sd ds.length (D.flatMap (iz .u8)) A' ∧
      Own a.2 ((c, .cells [sd, .slice none 0 0] false 0) :: (A' ++ (G ++ F))))
    (fun r => ∃ A', Slc 64 sd ds.length (ds.flatMap (iz .u8)) A' ∧ Own r.2 ((c, .cells [sd, .slice none 0 0] false 0) :: (A' ++ (G ++ F)))) (N := ds.length) (k := n) (j := 0) (a := ((0, ()), h2')) (by omega) (by omega)
    ⟨rfl, D0, _, hD0l, hd0, fun i _ _ h => absurd h (Nat.not_lt_zero _), hv, o2.to fun x => by simp only [cnt_append, cnt_cons, cnt_nil, List.nil_append, List.append_nil]; omega⟩
    (fun j a hj hi => by
      obtain ⟨⟨v, _⟩, h1⟩ := a
      obtain ⟨rfl, D, A1, i1, i2, i3, hs1, o1⟩ := hi
      have o1 : Own h1 _ := o1
      have hlt : (j : Int) < (ds.length : Int) := by omega
      have l0 : ldT .any h1 (some ⟨c, 0, none⟩) = some sd := by rw [ldT_of o1.head]; rfl
      have w1 : IntKind.i64.wrap ((j : Int) * 64) = ((j * 64 : Nat) : Int) := by rw [wrap_i64 (by omega) (by omega)]; omega
      have w2 : IntKind.i64.wrap (((j + 1 : Nat) : Int) * 64) = ((j * 64 + 64 : Nat) : Int) := by rw [wrap_i64 (by omega) (by omega)]; omega
      obtain ⟨u1, e1, r1⟩ := slc_sub (h := h1) (i := j * 64) (j := j * 64 + 64) (kk := .i64) (k' := .i64) hu (by omega) (by omega)
      have hsec : ((ds.flatMap (iz .u8)).drop (j * 64)).take (j * 64 + 64 - j * 64) = iz .u8 ds[j] := by
        rw [Nat.add_sub_cancel_left, flat_get hd hj]
      rw [hsec, Nat.add_sub_cancel_left] at r1
      have hdl := hd _ (List.getElem_mem hj)
      have hr := r1.rds (h := h1) (F := (c, .cells [sd, .slice none 0 0] false 0) :: (A1 ++ F)) (o1.to fun x => by simp only [cnt_append, cnt_cons]; omega)
      obtain ⟨a', c', rfl, src⟩ := hr.src
      cases a' with
      | none =>
        have : (some [] : Option (List Value)) = some (iz .u8 ds[j]) := src
        rw [← Option.some.inj this] at hdl; simp at hdl
      | some bq =>
        have src' : readCells h1 bq.block bq.off 64 = some (iz .u8 ds[j]) := src
        have hld : ldA 64 h1 (some ⟨bq.block, bq.off, none⟩) = some (iz .u8 ds[j]) := src'
        have ar : arrB h1 64 (.slice (some bq) 64 c') = some (some ⟨bq.block, bq.off, none⟩) := rfl
        obtain ⟨q, h3, A3, g1, g2, g3, o3⟩ := slc_set hs1 (F := (c, .cells [sd, .slice none 0 0] false 0) :: (G ++ F)) (h := h1) (o1.to fun x => by simp only [cnt_append, cnt_cons]; omega) hj hdl iz_cell
        rw [flat_set i2 hdl (by rw [i1]; exact hj)] at g3
        refine .inl ⟨((((j + 1 : Nat) : Int), ()), h3), ?_, rfl, D.set j ds[j], A3, by rw [List.length_set, i1], fun d hm => ?_, fun i h1 h2 hij => ?_, g3, o3.to fun x => by simp only [cnt_append, cnt_cons]; omega⟩
        · simp only [f_sector_Load_L17, hlt, decide_true, cond_true, nwA_eq, hc, fa_mk, Nat.zero_add, l0, Option.bind_some, w1, wrap_succ (show j < 4611686018427387904 by omega), w2, e1, ar, hld, g1, g2]
        · rcases List.mem_or_eq_of_mem_set hm with hm | rfl
          · exact i2 d hm
          · exact hdl
        · rw [List.getElem_set]
          split
          · rename_i e; subst e; rfl
          · exact i3 i _ _ (by omega))
    (fun a hi => by
      obtain ⟨⟨v, _⟩, hq⟩ := a
      obtain ⟨rfl, D, A1, i1, i2, i3, hs1, o1⟩ := hi
      have hD : D = ds := List.ext_getElem i1 fun i h1 h2 => i3 i h1 h2 h2
      rw [hD] at hs1
      exact ⟨((), hq), by simp [f_sector_Load_L17], A1, hs1, o1⟩)
  have o3 : Own h' _ := q2
  refine ⟨c, h', _, ?_, ⟨sd, .slice none 0 0, A', [], q1, .nil, ⟨hd, fun _ h => absurd h List.not_mem_nil, fun _ h => absurd h List.not_mem_nil⟩, rfl⟩, o3.to fun x => by simp only [cnt_append, cnt_cons, cnt_nil, List.cons_append]; omega⟩
  have f1 : fillL [.slice none 0 0, .slice none 0 0] [(0, 1, sd)] = some [sd, .slice none 0 0] := by rw [← hsd]; rfl
  have hcl : ([sd, .slice none 0 0] : List Value).all isCell = true := by rw [← hsd]; rfl
  have l0 : ldT .any h2' (some ⟨c, 0, none⟩) = some sd := by rw [ldT_of o2.head]; rfl
  have hls : lenB sd = some ds.length := by rw [← hsd]; rfl
  have e' : loopT (fun a => f_sector_Load_L17 n u h1' ds.length a.1.1 a.2) n ((0, ()), h2') = some (x, h') := e
  simp only [f_sector_Load, hl, Option.bind_some, c0, c1, c2, c3, decide_false, cond_false, decide_true, Bool.not_true, hb, hmk, bnd_eq, hh1, f1, hcl, cond_true, nwA_eq, hc, hh2, fa_mk, Nat.zero_add, l0, hls, e']
end

section
variable {n m : Nat} {A F : Ch} {h : Heap} {v : Value} {X : List Int} {c : Int}
/-- A loop that writes one byte into every place. -/
theorem fills_ok {R : Type} {f : (Int × Unit) × Heap → Option (((Int × Unit) × Heap) ⊕ (R × Heap))} {r : R} (hv : Slc 1 v m (iz .u8 X) A) (ho : Own h (A ++ F))
    (hf : ∀ (k : Nat) (h1 h2 : Heap) (q : Addr), k < m → ixB 1 v (k : Int) = some q → stB 1 (.int .u8 c) h1 (some q) = some h2 → f (((k : Int), ()), h1) = some (.inl ((IntKind.i64.wrap ((k : Int) + 1), ()), h2)))
    (hz : ∀ h1, f (((m : Int), ()), h1) = some (.inr (r, h1))) (hm : m < 4611686018427387904) (hn : m + 1 ≤ n) :
    ∃ h' A', loopT f n (((0 : Int), ()), h) = some (r, h') ∧ Own h' (A' ++ F) := by
  obtain ⟨⟨x, h'⟩, e, q0, X', A', q1, q2⟩ := loopT_up (f := f)
    (fun k (a : (Int × Unit) × Heap) => a.1 = ((k : Int), ()) ∧ ∃ X' A', Slc 1 v m (iz .u8 X') A' ∧ Own a.2 (A' ++ F))
    (fun x => x.1 = r ∧ ∃ X' A', Slc 1 v m (iz .u8 X') A' ∧ Own x.2 (A' ++ F)) (N := m) (k := n) (j := 0) (a := ((0, ()), h)) (by omega) (by omega)
    ⟨rfl, X, A, hv, ho⟩
    (fun k a hk hi => by
      obtain ⟨⟨v0, _⟩, h1⟩ := a
      obtain ⟨e0, X1, A1, hs1, o1⟩ := hi
      cases e0
      obtain ⟨q, h2, A2, g1, g2, g3, o2⟩ := slc_set1 hs1 o1 hk (v := .int .u8 c) rfl rfl
      rw [iz_set] at g3
      refine .inl ⟨_, hf k h1 h2 q hk g1 g2, ?_, _, A2, g3, o2⟩
      rw [wrap_succ (show k < 4611686018427387904 by omega)])
    (fun a hi => by
      obtain ⟨⟨v0, _⟩, h1⟩ := a
      obtain ⟨e0, X1, A1, hs1, o1⟩ := hi
      cases e0
      exact ⟨_, hz h1, rfl, X1, A1, hs1, o1⟩)
  have q0 : x = r := q0
  subst q0
  exact ⟨h', A', e, q2⟩
end
end Go.Proofs.Ytbjipkemgnpifaa

/- What was told is kept; the pair of disks on both sides. -/
namespace Go.Proofs.Ytbjipkemgnpifaa
open Go
set_option linter.unusedVariables false
set_option linter.unusedSimpArgs false

/-- What was told: the bytes, and a copy of what they were. -/
structure Tb where
  a : Value
  v : Value
  X : List Int
  A : Ch
  B : Ch
def Tb.G (e : Tb) : Ch := e.A ++ e.B
structure Tl where
  t : Value
  s : Value
  bs : List Tb
  TA : Ch
  SA : Ch
def Tl.L (b : Tl) : Ch := b.TA ++ (b.SA ++ b.bs.flatMap Tb.G)
structure TlOk (b : Tl) : Prop where
  t : Slc 1 b.t b.bs.length (b.bs.map Tb.a) b.TA
  s : Slc 1 b.s b.bs.length (b.bs.map Tb.v) b.SA
  b : ∀ e ∈ b.bs, Slc 1 e.a e.X.length (iz .u8 e.X) e.A ∧ Slc 1 e.v e.X.length (iz .u8 e.X) e.B

section
variable {n p pp k i j m : Nat} {F G : Ch} {h : Heap} {u c0 c1 c2 c3 : Value} {X : List Int} {b : Tl}
theorem fill1 {d u : Value} (h1 : cellsOf u = [u]) (h2 : isCell u = true) : fillL [d] [(0, 1, u)] = some [u] := by
  simp [fillL, h1, h2, writeAt]; rfl
theorem keeps_ok' (hb : TlOk b) (hu : Slc 1 u X.length (iz .u8 X) G) (ho : Own h ((pp, .cells [c0, c1, c2, c3, b.t, b.s] false 0) :: (b.L ++ (G ++ F)))) (hk : b.bs.length ≤ 1000) (hX : X.length ≤ 1099511627776) :
    ∃ h' b', f_wicketlaw04_pair_keeps n (some ⟨pp, 0, none⟩) u h = some ((), h') ∧ TlOk b' ∧ b'.bs.length = b.bs.length + 1 ∧ Own h' ((pp, .cells [c0, c1, c2, c3, b'.t, b'.s] false 0) :: (b'.L ++ F)) := by
  obtain ⟨bt, bs, bb, TA, SA⟩ := b
  obtain ⟨q1, q2, q3⟩ := hb
  simp only [Tl.L] at *
  have l1 : ldT .any h (some ⟨pp, 4, none⟩) = some bt := by rw [ldT_of ho.head]; rfl
  have f1 := fill1 (d := .slice none 0 0) hu.cellsOf hu.isCell
  obtain ⟨t2, h2, TA2, e2, a2, o2⟩ := q1.push (new := [u]) (h := h) (F := (pp, .cells [c0, c1, c2, c3, bt, bs] false 0) :: (SA ++ (bb.flatMap Tb.G ++ (G ++ F)))) (ho.to fun x => by simp only [cnt_append, cnt_cons]; omega) (by decide) rfl (bytes := 24) (by omega)
  have o2' : Own h2 ((pp, .cells [c0, c1, c2, c3, bt, bs] false 0) :: (TA2 ++ (SA ++ (bb.flatMap Tb.G ++ (G ++ F))))) := o2.to fun x => by simp only [cnt_append, cnt_cons]; omega
  have s3 := stB1_of (sp := none) (o := 4) (v := t2) o2'.head a2.cellsOf a2.isCell (by simp)
  have o3 := o2'.put (.cells ([c0, c1, c2, c3, bt, bs].set 4 t2) false 0)
  generalize hh3 : h2.put pp (.cells ([c0, c1, c2, c3, bt, bs].set 4 t2) false 0) = h3 at s3 o3
  have o3 : Own h3 ((pp, .cells [c0, c1, c2, c3, t2, bs] false 0) :: (TA2 ++ (SA ++ (bb.flatMap Tb.G ++ (G ++ F))))) := o3
  have l4 : ldT .any h3 (some ⟨pp, 5, none⟩) = some bs := by rw [ldT_of o3.head]; rfl
  obtain ⟨v5, h5, A5, e5, a5, o5⟩ := own_ok (n := n) hu.sow (h := hid h3 [] [pp]) (F := (pp, .cells [c0, c1, c2, c3, t2, bs] true 0) :: (TA2 ++ (SA ++ (bb.flatMap Tb.G ++ F)))) (o3.ro.to fun x => by simp only [cnt_append, cnt_cons]; omega) (by omega)
  have o6 := Own.back (h0 := h3) (r := pp) (X := A5 ++ (TA2 ++ (SA ++ (bb.flatMap Tb.G ++ (G ++ F))))) (o5.to fun x => by simp only [cnt_append, cnt_cons]; omega) o3.head
  generalize hh6 : h5.putBack h3 [pp] = h6 at o6
  have f2 := fill1 (d := .slice none 0 0) a5.cellsOf a5.isCell
  obtain ⟨s7, h7, SA7, e7, a7, o7⟩ := q2.push (new := [v5]) (h := h6) (F := (pp, .cells [c0, c1, c2, c3, t2, bs] false 0) :: (A5 ++ (TA2 ++ (bb.flatMap Tb.G ++ (G ++ F))))) (o6.to fun x => by simp only [cnt_append, cnt_cons]; omega) (by decide) rfl (bytes := 24) (by omega)
  have o7' : Own h7 ((pp, .cells [c0, c1, c2, c3, t2, bs] false 0) :: (SA7 ++ (A5 ++ (TA2 ++ (bb.flatMap Tb.G ++ (G ++ F)))))) := o7.to fun x => by simp only [cnt_append, cnt_cons]; omega
  have s8 := stB1_of (sp := none) (o := 5) (v := s7) o7'.head a7.cellsOf a7.isCell (by simp)
  have o8 := o7'.put (.cells ([c0, c1, c2, c3, t2, bs].set 5 s7) false 0)
  generalize hh8 : h7.put pp (.cells ([c0, c1, c2, c3, t2, bs].set 5 s7) false 0) = h8 at s8 o8
  have o8 : Own h8 ((pp, .cells [c0, c1, c2, c3, t2, s7] false 0) :: (SA7 ++ (A5 ++ (TA2 ++ (bb.flatMap Tb.G ++ (G ++ F)))))) := o8
  refine ⟨h8, ⟨t2, s7, bb ++ [⟨u, v5, X, G, A5⟩], TA2, SA7⟩, ?_, ⟨by simpa using a2, by simpa using a7, fun e he => ?_⟩, by simp, o8.to fun x => by simp only [cnt_append, cnt_cons, cnt_nil, List.flatMap_append, List.flatMap_cons, List.flatMap_nil, Tb.G]; omega⟩
  · have s3 : stB 1 t2 h2 (some ⟨pp, 4, none⟩) = some h3 := s3
    have s8 : stB 1 s7 h7 (some ⟨pp, 5, none⟩) = some h8 := s8
    simp only [f_wicketlaw04_pair_keeps, Option.bind_some, fa_mk, Nat.zero_add, l1, f1, bnd_eq, e2, s3, l4, e5, List.nil_append, hh6, f2, e7, s8]
  · rcases List.mem_append.1 he with he | he
    · exact q3 e he
    · rw [List.mem_singleton.1 he]; exact ⟨hu, a5⟩
end

/-- A disk on both sides. -/
structure Sid where
  p : Nat
  r : Nat
  ds : List (List Int)
  ws : List (Int × List Int)
  A : Ch
  B : Ch
structure SidOk (N k : Nat) (x : Sid) : Prop where
  hd : Dk x.p x.ds x.ws x.A
  hr : Rd' x.r x.ds x.ws x.B
  hn : x.ds.length = N
  hk : x.ws.length ≤ k
/-- The pair's cells; disk w is x. -/
def pcl (w : Nat) (x y : Sid) (t s : Value) : List Value :=
  if w = 0 then [.pointer (some ⟨x.p, 0, none⟩), .pointer (some ⟨y.p, 0, none⟩), .pointer (some ⟨x.r, 0, none⟩), .pointer (some ⟨y.r, 0, none⟩), t, s]
  else [.pointer (some ⟨y.p, 0, none⟩), .pointer (some ⟨x.p, 0, none⟩), .pointer (some ⟨y.r, 0, none⟩), .pointer (some ⟨x.r, 0, none⟩), t, s]
/-- The pair, k steps on. -/
structure PrW (w pp N k : Nat) (x y : Sid) (b : Tl) (L : Ch) : Prop where
  hx : SidOk N k x
  hy : SidOk N k y
  hb : TlOk b
  hk : b.bs.length ≤ k
  hl : L = (pp, .cells (pcl w x y b.t b.s) false 0) :: (x.A ++ (x.B ++ (y.A ++ (y.B ++ b.L))))
theorem SidOk.mono {N k k' : Nat} {x : Sid} (hx : SidOk N k x) (hk : k ≤ k') : SidOk N k' x := ⟨hx.hd, hx.hr, hx.hn, Nat.le_trans hx.hk hk⟩
theorem PrW.mono {w pp N k k' : Nat} {x y : Sid} {b : Tl} {L : Ch} (hp : PrW w pp N k x y b L) (hk : k ≤ k') : PrW w pp N k' x y b L := ⟨hp.hx.mono hk, hp.hy.mono hk, hp.hb, Nat.le_trans hp.hk hk, hp.hl⟩
theorem PrW.swap {w pp N k : Nat} {x y : Sid} {b : Tl} {L : Ch} (hp : PrW w pp N k x y b L) (hw : w < 2) : ∃ L', PrW (1 - w) pp N k y x b L' ∧ ∀ z, cnt z L' = cnt z L := by
  refine ⟨_, ⟨hp.hy, hp.hx, hp.hb, hp.hk, rfl⟩, fun z => ?_⟩
  have e : pcl (1 - w) y x b.t b.s = pcl w x y b.t b.s := by
    have : w = 0 ∨ w = 1 := by omega
    rcases this with rfl | rfl <;> rfl
  rw [hp.hl, e]
  simp only [cnt_append, cnt_cons]; omega
theorem pcl_ld {w pp es : Nat} {ro : Bool} {x y : Sid} {t s : Value} {h : Heap} (hw : w < 2) (hg : h.get pp = some (.cells (pcl w x y t s) ro es)) :
    (∃ q, ixA 2 1 (some ⟨pp, 0, none⟩) (w : Int) = some q ∧ ldT .ptr h (some q) = some (some ⟨x.p, 0, none⟩) ∧ q.block = pp) ∧ (∃ q, ixA 2 1 (some ⟨pp, 2, none⟩) (w : Int) = some q ∧ ldT .ptr h (some q) = some (some ⟨x.r, 0, none⟩) ∧ q.block = pp) ∧
      ldT .any h (some ⟨pp, 4, none⟩) = some t ∧ ldT .any h (some ⟨pp, 5, none⟩) = some s := by
  have : w = 0 ∨ w = 1 := by omega
  rcases this with rfl | rfl
  · exact ⟨⟨⟨pp, 0, none⟩, rfl, by rw [ldT_of hg]; rfl, rfl⟩, ⟨⟨pp, 2, none⟩, rfl, by rw [ldT_of hg]; rfl, rfl⟩, by rw [ldT_of hg]; rfl, by rw [ldT_of hg]; rfl⟩
  · exact ⟨⟨⟨pp, 1, none⟩, rfl, by rw [ldT_of hg]; rfl, rfl⟩, ⟨⟨pp, 3, none⟩, rfl, by rw [ldT_of hg]; rfl, rfl⟩, by rw [ldT_of hg]; rfl, by rw [ldT_of hg]; rfl⟩
/-- The other disk is written. -/
theorem pcl_st {w pp : Nat} {x y z : Sid} {t s : Value} {h : Heap} {F : Ch} (hw : w < 2) (ho : Own h ((pp, .cells (pcl w x y t s) false 0) :: F)) :
    ∃ q1 h1 q2 h2, ixA 2 1 (some ⟨pp, 0, none⟩) ((1 - w : Nat) : Int) = some q1 ∧ stB 1 (.pointer (some ⟨z.p, 0, none⟩)) h (some q1) = some h1 ∧ ixA 2 1 (some ⟨pp, 2, none⟩) ((1 - w : Nat) : Int) = some q2 ∧ stB 1 (.pointer (some ⟨z.r, 0, none⟩)) h1 (some q2) = some h2 ∧
      ldT .ptr h2 (some q1) = some (some ⟨z.p, 0, none⟩) ∧ Own h2 ((pp, .cells (pcl w x z t s) false 0) :: F) := by
  have : w = 0 ∨ w = 1 := by omega
  rcases this with rfl | rfl
  · have s1 := stB1_of (sp := none) (o := 1) (v := .pointer (some ⟨z.p, 0, none⟩)) ho.head rfl rfl (by simp [pcl])
    have o1 := ho.put (.cells ((pcl 0 x y t s).set 1 (.pointer (some ⟨z.p, 0, none⟩))) false 0)
    have s2 := stB1_of (sp := none) (o := 3) (v := .pointer (some ⟨z.r, 0, none⟩)) o1.head rfl rfl (by simp [pcl])
    have o2 := o1.put (.cells (((pcl 0 x y t s).set 1 (.pointer (some ⟨z.p, 0, none⟩))).set 3 (.pointer (some ⟨z.r, 0, none⟩))) false 0)
    exact ⟨⟨pp, 1, none⟩, _, ⟨pp, 3, none⟩, _, rfl, s1, rfl, s2, by rw [ldT_of o2.head]; rfl, o2⟩
  · have s1 := stB1_of (sp := none) (o := 0) (v := .pointer (some ⟨z.p, 0, none⟩)) ho.head rfl rfl (by simp [pcl])
    have o1 := ho.put (.cells ((pcl 1 x y t s).set 0 (.pointer (some ⟨z.p, 0, none⟩))) false 0)
    have s2 := stB1_of (sp := none) (o := 2) (v := .pointer (some ⟨z.r, 0, none⟩)) o1.head rfl rfl (by simp [pcl])
    have o2 := o1.put (.cells (((pcl 1 x y t s).set 0 (.pointer (some ⟨z.p, 0, none⟩))).set 2 (.pointer (some ⟨z.r, 0, none⟩))) false 0)
    exact ⟨⟨pp, 0, none⟩, _, ⟨pp, 2, none⟩, _, rfl, s1, rfl, s2, by rw [ldT_of o2.head]; rfl, o2⟩
end Go.Proofs.Ytbjipkemgnpifaa

/- A step of the pair: reads. -/
namespace Go.Proofs.Ytbjipkemgnpifaa
open Go
set_option linter.unusedVariables false
set_option linter.unusedSimpArgs false

/-- What is read at any number, and the answer's number. -/
def rdz (ds : List (List Int)) (ws : List (Int × List Int)) (z : Int) : List Int := if 0 ≤ z ∧ z < ds.length then rdv ws z (ds.getD z.toNat []) else []
def ecz (ds : List (List Int)) (z : Int) : Int := if 0 ≤ z ∧ z < ds.length then 0 else 40
/-- What is written. -/
def ewz (ds : List (List Int)) (X : List Int) (z : Int) : Int := if 0 ≤ z ∧ z < ds.length then (if X.length = 64 then 0 else 2) else 40
def wrz (ds : List (List Int)) (ws : List (Int × List Int)) (X : List Int) (z : Int) : List (Int × List Int) := if 0 ≤ z ∧ z < ds.length ∧ X.length = 64 then ws ++ [(z, X)] else ws

section
variable {n p k i j m : Nat} {ds : List (List Int)} {ws : List (Int × List Int)} {L F G A B : Ch} {h : Heap} {u : Value} {X : List Int} {z : Int}
theorem rdz_len (ho : Okd ds ws) (h0 : 0 ≤ z) (h1 : z < ds.length) : (rdz ds ws z).length = 64 := by
  rw [rdz, if_pos ⟨h0, h1⟩]
  refine rdv_len (fun w hw => by have := ho.w w hw; simpa [wc] using this) ?_
  have : z.toNat < ds.length := by omega
  rw [List.getD_eq_getElem?_getD, List.getElem?_eq_getElem this]
  have := ho.d _ (List.getElem_mem this)
  simpa using this
theorem rdz_at {i : Nat} (hi : i < ds.length) : rdz ds ws (i : Int) = rdv ws i ds[i] := by
  rw [rdz, if_pos ⟨by omega, by omega⟩, List.getD_eq_getElem?_getD, Int.toNat_natCast, List.getElem?_eq_getElem hi]; rfl
theorem Dk.okd (hd : Dk p ds ws L) : Okd ds ws := by obtain ⟨_, _, _, _, _, _, h, _⟩ := hd; exact h
theorem Rd'.okd (hd : Rd' p ds ws L) : Okd ds ws := by obtain ⟨_, _, _, _, _, _, _, _, _, h, _⟩ := hd; exact h
theorem read_z (hd : Dk p ds ws L) (ho : Own h (L ++ F)) (hW : ws.length ≤ 1000) (hn : 2000 ≤ n) :
    ∃ s h' A', f_sector_Disk_Read n (some ⟨p, 0, none⟩) z h = some ((s, (ecz ds z, ())), h') ∧ Slc 1 s (rdz ds ws z).length (iz .u8 (rdz ds ws z)) A' ∧ Own h' (A' ++ (L ++ F)) := by
  by_cases hz : 0 ≤ z ∧ z < ds.length
  · obtain ⟨i, rfl⟩ : ∃ i : Nat, z = i := ⟨z.toNat, by omega⟩
    have hi : i < ds.length := by omega
    obtain ⟨s, h', A', e, a, o⟩ := read_any (n := n) hd ho hi hW hn
    refine ⟨s, h', A', by rw [ecz, if_pos hz]; exact e, ?_, o⟩
    rw [rdz_len hd.okd hz.1 hz.2, rdz_at hi]; exact a
  · obtain ⟨h', e, o⟩ := read_bad (n := n) (z := z) hd ho (by omega)
    refine ⟨_, h', [], by rw [ecz, if_neg hz]; exact e, ?_, o⟩
    rw [rdz, if_neg hz]; exact .nil
theorem rread_z (hd : Rd' p ds ws L) (ho : Own h (L ++ F)) (hN : ds.length ≤ 4096) (hW : ws.length ≤ 1000) (hn : 2000 ≤ n) :
    ∃ s h' A', f_wicketref04_Disk_Read n (some ⟨p, 0, none⟩) z h = some ((s, (ecz ds z, ())), h') ∧ Slc 1 s (rdz ds ws z).length (iz .u8 (rdz ds ws z)) A' ∧ Own h' (A' ++ (L ++ F)) := by
  by_cases hz : 0 ≤ z ∧ z < ds.length
  · obtain ⟨i, rfl⟩ : ∃ i : Nat, z = i := ⟨z.toNat, by omega⟩
    have hi : i < ds.length := by omega
    obtain ⟨s, h', A', e, a, o⟩ := rread_ok (n := n) (sp := none) hd ho hN hi hW hn
    refine ⟨s, h', A', by rw [ecz, if_pos hz]; exact e, ?_, o⟩
    rw [rdz_len hd.okd hz.1 hz.2, rdz_at hi]; exact a
  · refine ⟨_, h, [], by rw [ecz, if_neg hz]; exact rread_bad (n := n) (z := z) hd ho hN (by omega), ?_, ho⟩
    rw [rdz, if_neg hz]; exact .nil
theorem write_z (hd : Dk p ds ws L) (hu : Sow 1 u X.length (iz .u8 X) G) (ho : Own h (L ++ (G ++ F))) (hW : ws.length ≤ 1000) :
    ∃ h' L', f_sector_Disk_Write n (some ⟨p, 0, none⟩) z u h = some ((ewz ds X z, ()), h') ∧ Dk p ds (wrz ds ws X z) L' ∧ Own h' (L' ++ (G ++ F)) := by
  have hr := hu.rds (h := h) (F := L ++ F) (ho.to fun x => by simp only [cnt_append]; omega)
  by_cases hz : 0 ≤ z ∧ z < ds.length
  · by_cases hX : X.length = 64
    · have hne : ∃ b k c, u = .slice (some b) k c := by
        obtain ⟨a, c, rfl, hs⟩ := hr.src
        cases a with
        | none =>
          have : (some [] : Option (List Value)) = some (iz .u8 X) := hs
          have := congrArg List.length (Option.some.inj this)
          simp at this; omega
        | some b => exact ⟨b, _, c, rfl⟩
      rw [hX] at hu
      obtain ⟨h', L', e, d, o⟩ := write_ok (n := n) (sp := none) hd hu ho hz.1 hz.2 hW hne
      exact ⟨h', L', by rw [ewz, if_pos hz, if_pos hX]; exact e, by rw [wrz, if_pos ⟨hz.1, hz.2, hX⟩]; exact d, o⟩
    · exact ⟨h, L, by rw [ewz, if_pos hz, if_neg hX]; exact write_len hd ho hz.1 hz.2 hr.lenB hX, by rw [wrz, if_neg (fun h => hX h.2.2)]; exact hd, ho⟩
  · exact ⟨h, L, by rw [ewz, if_neg hz]; exact write_bad hd ho (by omega), by rw [wrz, if_neg (fun h => hz ⟨h.1, h.2.1⟩)]; exact hd, ho⟩
theorem rwrite_z (hd : Rd' p ds ws L) (hu : Sow 1 u X.length (iz .u8 X) G) (ho : Own h (L ++ (G ++ F))) (hN : ds.length ≤ 4096) (hW : ws.length ≤ 1000) :
    ∃ h' L', f_wicketref04_Disk_Write n (some ⟨p, 0, none⟩) z u h = some ((ewz ds X z, ()), h') ∧ Rd' p ds (wrz ds ws X z) L' ∧ Own h' (L' ++ (G ++ F)) := by
  have hr := hu.rds (h := h) (F := L ++ F) (ho.to fun x => by simp only [cnt_append]; omega)
  by_cases hz : 0 ≤ z ∧ z < ds.length
  · by_cases hX : X.length = 64
    · rw [hX] at hu
      obtain ⟨h', L', e, d, o⟩ := rwrite_ok (n := n) (sp := none) hd hu ho hN hz.1 hz.2 hW
      exact ⟨h', L', by rw [ewz, if_pos hz, if_pos hX]; exact e, by rw [wrz, if_pos ⟨hz.1, hz.2, hX⟩]; exact d, o⟩
    · exact ⟨h, L, by rw [ewz, if_pos hz, if_neg hX]; exact rwrite_len hd ho hN hz.1 hz.2 hr.lenB hX, by rw [wrz, if_neg (fun h => hX h.2.2)]; exact hd, ho⟩
  · exact ⟨h, L, by rw [ewz, if_neg hz]; exact rwrite_bad hd ho hN (by omega), by rw [wrz, if_neg (fun h => hz ⟨h.1, h.2.1⟩)]; exact hd, ho⟩
theorem wrz_len : (wrz ds ws X z).length ≤ ws.length + 1 := by
  rw [wrz]; split <;> simp
end

theorem which_ok (z : Int) : ∃ w : Nat, w < 2 ∧ Int.tmod (IntKind.i64.wrap (Int.tmod z 2 + 2)) 2 = (w : Int) ∧ IntKind.i64.wrap (1 - (w : Int)) = ((1 - w : Nat) : Int) := by
  have : Int.tmod z 2 = -1 ∨ Int.tmod z 2 = 0 ∨ Int.tmod z 2 = 1 := by
    by_cases h0 : 0 ≤ z
    · rw [Int.tmod_eq_emod_of_nonneg h0]; omega
    · obtain ⟨m, rfl⟩ : ∃ m, z = -m := ⟨-z, by omega⟩
      rw [Int.neg_tmod, Int.tmod_eq_emod_of_nonneg (by omega)]; omega
  rcases this with e | e | e <;> rw [e]
  · exact ⟨1, by decide, rfl, rfl⟩
  · exact ⟨0, by decide, rfl, rfl⟩
  · exact ⟨1, by decide, rfl, rfl⟩

/-- A step's cells. -/
def opc (kind which z : Int) (vd vk : Value) : List Value := [.int .i64 kind, .int .i64 which, .int .i64 z, vd, vk]
theorem opc_cell {kind which z : Int} {vd vk : Value} (h1 : isCell vd = true) (h2 : isCell vk = true) : (opc kind which z vd vk).all isCell = true := by
  simp only [opc, List.all_cons, List.all_nil, h1, h2]; rfl
theorem op_ld {kind which z : Int} {vd vk : Value} {h : Heap} {t es : Nat} {ro : Bool} (hg : h.get t = some (.cells (opc kind which z vd vk) ro es)) :
    ldT (.int .i64) h (some ⟨t, 0, none⟩) = some kind ∧ ldT (.int .i64) h (some ⟨t, 1, none⟩) = some which ∧ ldT (.int .i64) h (some ⟨t, 2, none⟩) = some z ∧ ldT .any h (some ⟨t, 3, none⟩) = some vd ∧ ldT .any h (some ⟨t, 4, none⟩) = some vk := by
  refine ⟨?_, ?_, ?_, ?_, ?_⟩ <;> rw [ldT_of hg] <;> simp [opc]

section
variable {n p k pp w N : Nat} {x y : Sid} {b : Tl} {L F G : Ch} {h : Heap} {vd vk : Value} {which z : Int}
theorem play_read (hp : PrW w pp N k x y b L) (hw : w < 2) (hwh : Int.tmod (IntKind.i64.wrap (Int.tmod which 2 + 2)) 2 = (w : Int)) (hvd : isCell vd = true) (hvk : isCell vk = true) (ho : Own h (L ++ (G ++ F))) (hk : k ≤ 1000) (hN : N ≤ 4096) (hn : 5000 ≤ n) :
    ∃ h' x' y' b' L', f_wicketlaw04_pair_plays n (some ⟨pp, 0, none⟩) (.agg ⟨opc 1 which z vd vk⟩) h = some ((true, ()), h') ∧ PrW w pp N (k + 1) x' y' b' L' ∧ Own h' (L' ++ (G ++ F)) := by
  obtain ⟨hx, hy, hb, hbk, rfl⟩ := hp
  have hxn := hx.hn
  have hxk := hx.hk
  have o0 := ho.new (.cells (opc 1 which z vd vk) false 0)
  generalize ht : h.next = t at o0
  generalize hh0 : h.new (.cells (opc 1 which z vd vk) false 0) = h0 at o0
  obtain ⟨m0, m1, m2, m3, m4⟩ := op_ld o0.head
  obtain ⟨⟨q1, i1, l1, _⟩, ⟨q2, i2, l2, _⟩, _, _⟩ := pcl_ld hw (o0.get (pp, .cells (pcl w x y b.t b.s) false 0) (by simp))
  obtain ⟨s2, h2, A2, e2, a2, o2⟩ := read_z (n := n) (z := z) hx.hd (h := h0) (F := (t, .cells (opc 1 which z vd vk) false 0) :: (pp, .cells (pcl w x y b.t b.s) false 0) :: (x.B ++ (y.A ++ (y.B ++ (b.L ++ (G ++ F)))))) (o0.to fun x => by simp only [cnt_append, cnt_cons]; omega) (by omega) (by omega)
  obtain ⟨_, _, m2b, _, _⟩ := op_ld (o2.get (t, .cells (opc 1 which z vd vk) false 0) (by simp))
  obtain ⟨s3, h3, A3, e3, a3, o3⟩ := read_z (n := n) (z := z) hx.hd (h := h2) (F := (t, .cells (opc 1 which z vd vk) false 0) :: (pp, .cells (pcl w x y b.t b.s) false 0) :: (A2 ++ (x.B ++ (y.A ++ (y.B ++ (b.L ++ (G ++ F))))))) (o2.to fun x => by simp only [cnt_append, cnt_cons]; omega) (by omega) (by omega)
  obtain ⟨_, _, m2c, _, _⟩ := op_ld (o3.get (t, .cells (opc 1 which z vd vk) false 0) (by simp))
  obtain ⟨s4, h4, A4, e4, a4, o4⟩ := rread_z (n := n) (z := z) hx.hr (h := h3) (F := (t, .cells (opc 1 which z vd vk) false 0) :: (pp, .cells (pcl w x y b.t b.s) false 0) :: (A2 ++ (A3 ++ (x.A ++ (y.A ++ (y.B ++ (b.L ++ (G ++ F)))))))) (o3.to fun x => by simp only [cnt_append, cnt_cons]; omega) (by omega) (by omega) (by omega)
  have hrl : (rdz x.ds x.ws z).length ≤ 64 := by
    by_cases hz : 0 ≤ z ∧ z < x.ds.length
    · rw [rdz_len hx.hd.okd hz.1 hz.2]; exact Nat.le_refl _
    · rw [rdz, if_neg hz]; exact Nat.zero_le _
  generalize rdz x.ds x.ws z = X at a2 a3 a4 hrl
  have t2 := (a2.rds (h := h4) (F := (t, .cells (opc 1 which z vd vk) false 0) :: (pp, .cells (pcl w x y b.t b.s) false 0) :: (A3 ++ (A4 ++ (x.B ++ (x.A ++ (y.A ++ (y.B ++ (b.L ++ (G ++ F))))))))) (o4.to fun x => by simp only [cnt_append, cnt_cons]; omega)).str
  have t3 := (a3.rds (h := h4) (F := (t, .cells (opc 1 which z vd vk) false 0) :: (pp, .cells (pcl w x y b.t b.s) false 0) :: (A2 ++ (A4 ++ (x.B ++ (x.A ++ (y.A ++ (y.B ++ (b.L ++ (G ++ F))))))))) (o4.to fun x => by simp only [cnt_append, cnt_cons]; omega)).str
  have t4 := (a4.rds (h := h4) (F := (t, .cells (opc 1 which z vd vk) false 0) :: (pp, .cells (pcl w x y b.t b.s) false 0) :: (A2 ++ (A3 ++ (x.B ++ (x.A ++ (y.A ++ (y.B ++ (b.L ++ (G ++ F))))))))) (o4.to fun x => by simp only [cnt_append, cnt_cons]; omega)).str
  obtain ⟨h5, A5, e5, o5⟩ := fills_ok (n := n) (c := 68) (r := ()) (f := fun a => f_wicketlaw04_pair_plays_L27 n ((s3, (ecz x.ds z, ())), h3) X.length a.1.1 a.2) (h := h4) a3 (F := (t, .cells (opc 1 which z vd vk) false 0) :: (pp, .cells (pcl w x y b.t b.s) false 0) :: (A2 ++ (A4 ++ (x.B ++ (x.A ++ (y.A ++ (y.B ++ (b.L ++ (G ++ F))))))))) (o4.to fun x => by simp only [cnt_append, cnt_cons]; omega)
    (fun k h1 h2 q hk e1 e2 => by
      have hlt : (k : Int) < (X.length : Int) := by omega
      simp only [f_wicketlaw04_pair_plays_L27, hlt, decide_true, cond_true, e1, e2, Option.bind_some])
    (fun h1 => by simp [f_wicketlaw04_pair_plays_L27]) (by omega) (by omega)
  have o5' : Own h5 ((pp, .cells (pcl w x y b.t b.s) false 0) :: (b.L ++ (A2 ++ (x.A ++ (x.B ++ (y.A ++ (y.B ++ (G ++ F)))))))) := o5.to fun x => by simp only [cnt_append, cnt_cons]; omega
  obtain ⟨h6, b6, e6, k6, l6, o6⟩ : ∃ h' b', f_wicketlaw04_pair_keeps n (some ⟨pp, 0, none⟩) s2 h5 = some ((), h') ∧ TlOk b' ∧ b'.bs.length = b.bs.length + 1 ∧ Own h' ((pp, .cells (pcl w x y b'.t b'.s) false 0) :: (b'.L ++ (x.A ++ (x.B ++ (y.A ++ (y.B ++ (G ++ F))))))) := by
    have : w = 0 ∨ w = 1 := by omega
    rcases this with rfl | rfl
    · exact keeps_ok' hb a2 o5' (by omega) (by omega)
    · exact keeps_ok' hb a2 o5' (by omega) (by omega)
  refine ⟨h6, x, y, b6, _, ?_, ⟨hx.mono (Nat.le_succ _), hy.mono (Nat.le_succ _), k6, by omega, rfl⟩, o6.to fun x => by simp only [cnt_append, cnt_cons, List.cons_append]; omega⟩
  have hcl := opc_cell (kind := 1) (which := which) (z := z) hvd hvk
  have hco : cellsOf (.agg ⟨opc 1 which z vd vk⟩) = opc 1 which z vd vk := rfl
  simp only [f_wicketlaw04_pair_plays, hcl, hco, cond_true, bnd_eq, nwA_eq, ht, hh0, fa_mk, Nat.zero_add, m0, m1, m2, hwh, Option.bind_some, i1, l1, i2, l2, decide_true, e2, m2b, e3, m2c, e4, t2, t3, t4, str_eql rfl, a3.lenB, e5, e6]
end
end Go.Proofs.Ytbjipkemgnpifaa

/- The marked copy of a list of numbers. -/
namespace Go.Proofs.Ytbjipkemgnpifaa
open Go
set_option linter.unusedVariables false
set_option linter.unusedSimpArgs false

theorem append_at {h h' : Heap} {bytes es n c k c' : Nat} {a : Option Addr} {y : Value} {q : Addr} (e : appendK h bytes es (.slice a n c) y = some (.slice (some q) k c', h')) : (∃ p, a = some p ∧ q.block = p.block) ∨ q.block = h.next := by
  cases y with
  | slice b m c2 =>
    simp only [appendK] at e
    cases hs : srcCells h b (m * es) with
    | none => rw [hs] at e; cases e
    | some new =>
      rw [hs] at e
      simp only [Option.bind_some, appendL, Bool.cond_eq_ite] at e
      split at e
      · split at e
        · cases hp : putCells h a (n * es) new with
          | none => rw [hp] at e; cases e
          | some h2 => rw [hp] at e; cases e; exact .inl ⟨q, rfl, rfl⟩
        · unfold growCells at e
          split at e
          · cases e; exact .inr rfl
          · rename_i p
            cases h1 : readCells h p.block p.off (n * es) with
            | none => rw [h1] at e; cases e
            | some old =>
              cases h2 : letGo h p c es with
              | none => rw [h1, h2] at e; cases e
              | some h3 => rw [h1, h2] at e; cases e; exact .inr rfl
      · cases e
  | _ => simp [appendK] at e
theorem append_next {h h' : Heap} {bytes es : Nat} {s y s' : Value} (e : appendK h bytes es s y = some (s', h')) : h.next ≤ h'.next := by
  cases s with
  | slice a n c =>
    cases y with
    | slice b m c2 =>
      simp only [appendK] at e
      cases hs : srcCells h b (m * es) with
      | none => rw [hs] at e; cases e
      | some new =>
        rw [hs] at e
        simp only [Option.bind_some, appendL, Bool.cond_eq_ite] at e
        split at e
        · split at e
          · unfold putCells at e
            split at e
            · cases e; exact Nat.le_refl _
            · unfold writeCells at e
              split at e
              · simp only [Bool.cond_eq_ite] at e
                split at e
                · cases e; exact Nat.le_refl _
                · cases e
              · cases e
          · unfold growCells at e
            split at e
            · cases e; exact Nat.le_succ _
            · rename_i p
              cases h1 : readCells h p.block p.off (n * es) with
              | none => rw [h1] at e; cases e
              | some old =>
                cases h2 : letGo h p c es with
                | none => rw [h1, h2] at e; cases e
                | some h3 =>
                  rw [h1, h2] at e; cases e
                  have : h3.next = h.next := by
                    unfold letGo at h2
                    split at h2
                    · cases h2; rfl
                    · split at h2
                      · simp only [Bool.cond_eq_ite] at h2
                        split at h2
                        · cases h2; rfl
                        · cases h2
                      · cases h2
                  show h.next ≤ h3.next + 1
                  omega
        · cases e
    | _ => simp [appendK] at e
  | _ => simp [appendK] at e
theorem Slc.at_keys {es n : Nat} {s : Value} {cs : List Value} {A : Ch} (hs : Slc es s n cs A) : ∀ x ∈ A, ∃ q k c, s = .slice (some q) k c ∧ x.1 = q.block := by
  cases hs with
  | nil => intro x hx; cases hx
  | mk hp hl hr => intro x hx; rw [List.mem_singleton.1 hx]; exact ⟨_, _, _, rfl, rfl⟩
theorem Slc.pre' {b off k m c : Nat} {sp : Option Nat} {cs : List Value} {A : Ch} (hs : Slc 1 (.slice (some ⟨b, off, sp⟩) m c) m cs A) (hk : k ≤ m) : Slc 1 (.slice (some ⟨b, off, sp⟩) k c) k (cs.take k) A := by
  cases hs with
  | @mk _ _ _ _ _ pre _ rest hp hl hr =>
    have e : pre ++ (cs ++ rest) = pre ++ (cs.take k ++ (cs.drop k ++ rest)) := by rw [← List.append_assoc (cs.take k), List.take_append_drop]
    rw [e]
    exact .mk hp (by rw [List.length_take]; omega) (by simp; omega)

section
variable {h h' h0 : Heap} {b r es : Nat} {o : AObj} {cs : List Value} {q : Bool} {F X : Ch}
theorem Own.roD (ho : Own h ((b, o) :: (r, .cells cs q es) :: F)) : Own (hid h [b] [r]) ((r, .cells cs true es) :: F) := by
  have h1 := ho.drop
  have := h1.ro
  exact this
theorem Own.backD (ho : Own h ((r, .cells cs true es) :: X)) (g1 : h0.get r = some (.cells cs q es)) (g2 : h0.get b = some o) (hb : b < h.next) (hbr : b ≠ r) (hX : ∀ x ∈ X, x.1 ≠ b) : Own (h.putBack h0 ([b] ++ [r])) ((b, o) :: (r, .cells cs q es) :: X) := by
  have h1 := Own.back (h0 := h0) ho g1
  refine Own.cons (h1.keep (fun x hx => ?_) (by rw [Heap.next_putBack, Heap.next_putBack]; exact Nat.le_refl _)) ?_ ?_ ?_
  · rw [Heap.get_putBack, Heap.get_putBack]
    have hxb : x.1 ≠ b := by
      rcases List.mem_cons.1 hx with rfl | hx
      · exact fun e => hbr e.symm
      · exact hX x hx
    simp only [List.cons_append, List.nil_append, List.mem_cons, List.not_mem_nil, or_false, hxb, false_or]
  · rw [Heap.get_putBack, if_pos (by simp)]; exact g2
  · rw [Heap.next_putBack]; exact hb
  · intro y hy
    rcases List.mem_cons.1 hy with rfl | hy
    · exact fun e => hbr e.symm
    · exact hX y hy
end

section
variable {n t es : Nat} {h : Heap} {cells : List Value} {G F : Ch} {u : Value} {K : List Int}
theorem marks7_ok (hu : Sow 1 u K.length (iz .i64 K) G) (ho : Own h ((t, .cells cells false 0) :: (G ++ F))) (hK : (K.length + 2) * 8 ≤ 140737488355328) :
    ∃ h58 h61 b1 b2 v3 h3 h4 h5 h6 b off sp c A, h58 = h.new (.cells [] false 1) ∧ b1 = h.next ∧ b2 = h58.next ∧ h61 = h58.new (.cells [.int .i64 (-7), .int .i64 (-7)] false 1) ∧
      (Heap.dropAll h58 [b1]).get t = some (.cells cells false 0) ∧ (Heap.dropAll h61 [b2, b1]).get t = some (.cells cells false 0) ∧
      appendK (hid h61 [b2] [t]) 8 1 (.slice (some ⟨b1, 0, some 0⟩) 0 0) u = some (v3, h3) ∧ h3.putBack h61 ([b2] ++ [t]) = h4 ∧
      appendK (hid h4 [] [t]) 8 1 v3 (.slice (some ⟨b2, 0, some 0⟩) 2 2) = some (.slice (some ⟨b, off, sp⟩) (K.length + 2) c, h5) ∧ h5.putBack h4 ([] ++ [t]) = h6 ∧ K.length + 2 ≤ c ∧
      Slc 1 (.slice (some ⟨b, off, sp⟩) (K.length + 2) c) (K.length + 2) (iz .i64 (K ++ [-7, -7])) A ∧ Own h6 (A ++ ((t, .cells cells false 0) :: (G ++ F))) := by
  have hs1 : Slc 1 (.slice (some ⟨h.next, 0, some 0⟩) 0 0) 0 [] [(h.next, .cells ([] ++ ([] ++ [])) false 1)] := .mk rfl rfl rfl
  have o1 := ho.new (.cells [] false 1)
  have g1 : (Heap.dropAll (h.new (.cells [] false 1)) [h.next]).get t = some (.cells cells false 0) := by
    have := ho.lt (t, .cells cells false 0) (List.mem_cons_self ..)
    rw [Heap.get_dropAll, if_neg (by simp; omega)]
    exact o1.get (t, .cells cells false 0) (by simp)
  generalize hb1 : h.next = b1 at hs1 o1 g1
  generalize hh1 : h.new (.cells [] false 1) = h58 at o1 g1
  have hs2 : Slc 1 (.slice (some ⟨h58.next, 0, some 0⟩) 2 2) 2 [.int .i64 (-7), .int .i64 (-7)] [(h58.next, .cells ([] ++ ([.int .i64 (-7), .int .i64 (-7)] ++ [])) false 1)] := .mk rfl rfl rfl
  have o2 := o1.new (.cells [.int .i64 (-7), .int .i64 (-7)] false 1)
  have l1 := o1.lt (b1, .cells [] false 1) (by simp)
  have lt := o1.lt (t, .cells cells false 0) (by simp)
  have hb2n : h58.next < (h58.new (.cells [.int .i64 (-7), .int .i64 (-7)] false 1)).next := Nat.lt_succ_self _
  have g2 : (Heap.dropAll (h58.new (.cells [.int .i64 (-7), .int .i64 (-7)] false 1)) [h58.next, b1]).get t = some (.cells cells false 0) := by
    have e1 : t ≠ b1 := fun e => o1.notin (t, .cells cells false 0) (by simp) e
    rw [Heap.get_dropAll, if_neg (by simp only [List.mem_cons, List.not_mem_nil, or_false]; omega)]
    exact o2.get (t, .cells cells false 0) (by simp)
  generalize hb2 : h58.next = b2 at hs2 o2 g2 l1 lt hb2n
  generalize hh2 : h58.new (.cells [.int .i64 (-7), .int .i64 (-7)] false 1) = h61 at o2 g2 hb2n
  have o2' : Own h61 ((b2, .cells [.int .i64 (-7), .int .i64 (-7)] false 1) :: (t, .cells cells false 0) :: ((b1, .cells [] false 1) :: (G ++ F))) := o2.to fun x => by simp only [cnt_append, cnt_cons]; omega
  have o3 := o2'.roD
  obtain ⟨v3, h3, A3, e3, a3, o4⟩ := hu.app hs1 (h := hid h61 [b2] [t]) (F := (t, .cells cells true 0) :: F) (o3.to fun x => by simp only [cnt_append, cnt_cons, cnt_nil, List.nil_append, List.append_nil]; omega) (by decide) (bytes := 8) (by omega)
  have hnx : (hid h61 [b2] [t]).next = h61.next := next_hid
  have hA3 : ∀ x ∈ A3, x.1 ≠ b2 := by
    intro x hx
    obtain ⟨q, k, c, rfl, e⟩ := a3.at_keys x hx
    rcases append_at e3 with ⟨p, hp, e'⟩ | e'
    · cases hp
      have e' : q.block = b1 := e'
      omega
    · rw [e, e', hnx]; omega
  have hX : ∀ x ∈ A3 ++ (G ++ F), x.1 ≠ b2 := by
    intro x hx
    rcases List.mem_append.1 hx with hx | hx
    · exact hA3 x hx
    · exact o2'.notin x (by simp only [List.mem_cons]; exact .inr (.inr hx))
  have hl3 := append_next e3
  rw [hnx] at hl3
  have o5 := Own.backD (h0 := h61) (b := b2) (r := t) (X := A3 ++ (G ++ F)) (o4.to fun x => by simp only [cnt_append, cnt_cons]; omega) (o2'.get (t, .cells cells false 0) (by simp)) o2'.head (by omega) (o2'.notin (t, .cells cells false 0) (by simp)).symm hX
  generalize hh4 : h3.putBack h61 ([b2] ++ [t]) = h4 at o5
  have o5' : Own h4 ((t, .cells cells false 0) :: (A3 ++ ((b2, .cells [.int .i64 (-7), .int .i64 (-7)] false 1) :: (G ++ F)))) := o5.to fun x => by simp only [cnt_append, cnt_cons]; omega
  obtain ⟨v5, h5, A5, e5, a5, o6⟩ := hs2.sow.app a3 (h := hid h4 [] [t]) (F := (t, .cells cells true 0) :: (G ++ F)) (o5'.ro.to fun x => by simp only [cnt_append, cnt_cons, cnt_nil, List.nil_append, List.append_nil]; omega) (by decide) (bytes := 8) (by omega)
  have o7 := Own.back (h0 := h4) (r := t) (X := A5 ++ (G ++ F)) (o6.to fun x => by simp only [cnt_append, cnt_cons]; omega) o5'.head
  have a5 : Slc 1 v5 (0 + K.length + 2) (iz .i64 (K ++ [-7, -7])) A5 := by simpa [iz] using a5
  rw [Nat.zero_add] at a5
  obtain ⟨a, c, rfl⟩ := a5.form
  cases a with
  | none => cases a5
  | some q =>
    obtain ⟨b, off, sp⟩ := q
    have hc : K.length + 2 ≤ c := by
      have hl := a5.len
      generalize iz .i64 (K ++ [-7, -7]) = zs at a5 hl
      cases a5 with
      | mk hp hl' hr => omega
    exact ⟨h58, h61, b1, b2, v3, h3, h4, h5, _, b, off, sp, c, A5, rfl, rfl, hb2.symm, hh2.symm, g1, g2, e3, hh4, e5, rfl, hc, a5, o7.to fun x => by simp only [cnt_append, cnt_cons]; omega⟩
end
end Go.Proofs.Ytbjipkemgnpifaa

/- A step of the pair: writes, flushes. -/
namespace Go.Proofs.Ytbjipkemgnpifaa
open Go
set_option linter.unusedVariables false
set_option linter.unusedSimpArgs false

def opO (kind which z : Int) (vd vk : Value) : AObj := .cells (opc kind which z vd vk) false 0
def prO (w : Nat) (x y : Sid) (b : Tl) : AObj := .cells (pcl w x y b.t b.s) false 0
/-- A step's answer. -/
def Played (n w pp N k : Nat) (kind which z : Int) (vd vk : Value) (h : Heap) (G F : Ch) : Prop :=
  ∃ h' x' y' b' L', f_wicketlaw04_pair_plays n (some ⟨pp, 0, none⟩) (.agg ⟨opc kind which z vd vk⟩) h = some ((true, ()), h') ∧ PrW w pp N (k + 1) x' y' b' L' ∧ Own h' (L' ++ (G ++ F))

section
variable {n p k pp w N : Nat} {x y : Sid} {b : Tl} {L F G : Ch} {h : Heap} {vd vk : Value} {which z : Int} {D : List Int}
theorem sow_cell {es m : Nat} {s : Value} {cs : List Value} {G F : Ch} {h : Heap} (hs : Sow es s m cs G) (ho : Own h (G ++ F)) : isCell s = true := by
  obtain ⟨a, c, rfl⟩ := (hs.rds ho).form; rfl
def fill64 (which : Int) (m : Nat) : Nat := if 0 ≤ which ∧ m < 64 then 64 - m else 0
theorem play_write (hp : PrW w pp N k x y b L) (hw : w < 2) (hwh : Int.tmod (IntKind.i64.wrap (Int.tmod which 2 + 2)) 2 = (w : Int)) (hu : Sow 1 vd D.length (iz .u8 D) G) (hvk : isCell vk = true) (ho : Own h (L ++ (G ++ F))) (hk : k ≤ 1000) (hN : N ≤ 4096) (hn : 5000 ≤ n) (hD : D.length + 4096 ≤ 140737488355328) (hDn : D.length + 5000 ≤ n) :
    Played n w pp N k 2 which z vd vk h G F := by
  obtain ⟨hx, hy, hb, hbk, rfl⟩ := hp
  have hxn := hx.hn
  have hxk := hx.hk
  have hvd : isCell vd = true := sow_cell hu ho.right
  have o0 := ho.new (opO 2 which z vd vk)
  generalize ht : h.next = t at o0
  generalize hh0 : h.new (opO 2 which z vd vk) = h0 at o0
  obtain ⟨m0, m1, m2, m3, m4⟩ := op_ld o0.head
  obtain ⟨⟨q1, i1, l1, _⟩, ⟨q2, i2, l2, _⟩, _, _⟩ := pcl_ld hw (o0.get (pp, .cells (pcl w x y b.t b.s) false 0) (by simp))
  have o0 : Own h0 ((t, opO 2 which z vd vk) :: ((pp, prO w x y b) :: (x.A ++ (x.B ++ (y.A ++ (y.B ++ b.L)))) ++ (G ++ F))) := o0
  obtain ⟨s1, h1, A1, e1, a1, o1⟩ := own_ok (n := n) hu (h := h0) (F := (t, opO 2 which z vd vk) :: (pp, prO w x y b) :: (x.A ++ (x.B ++ (y.A ++ (y.B ++ (b.L ++ F)))))) (o0.to fun x => by simp only [cnt_append, cnt_cons]; omega) (by omega)
  -- filled up
  have hN0 : fill64 which D.length ≤ 64 := by unfold fill64; split <;> omega
  have hlen : ∀ j, (D ++ List.replicate j (0 : Int)).length = D.length + j := fun j => by simp
  obtain ⟨⟨⟨s2, _⟩, h2⟩, e2, A2, a2, o2⟩ := loopT_up (f := fun a => f_wicketlaw04_pair_plays_L40 n h a.1.1 a.2)
    (fun j (a : (Value × Unit) × Heap) => ∃ A', Slc 1 a.1.1 (D.length + j) (iz .u8 (D ++ List.replicate j 0)) A' ∧ Own a.2 (A' ++ ((t, opO 2 which z vd vk) :: (pp, prO w x y b) :: (x.A ++ (x.B ++ (y.A ++ (y.B ++ (b.L ++ (G ++ F)))))))))
    (fun r => ∃ A', Slc 1 r.1.1 (D.length + fill64 which D.length) (iz .u8 (D ++ List.replicate (fill64 which D.length) 0)) A' ∧ Own r.2 (A' ++ ((t, opO 2 which z vd vk) :: (pp, prO w x y b) :: (x.A ++ (x.B ++ (y.A ++ (y.B ++ (b.L ++ (G ++ F))))))))) (N := fill64 which D.length) (k := n) (j := 0) (a := ((s1, ()), h1)) (by omega) (by omega)
    ⟨A1, by simpa using a1, o1.to fun x => by simp only [cnt_append, cnt_cons]; omega⟩
    (fun j a hj hi => by
      obtain ⟨⟨v, _⟩, h1⟩ := a
      obtain ⟨A', hs1, o1⟩ := hi
      have o1 : Own h1 _ := o1
      have hs1 : Slc 1 v (D.length + j) (iz .u8 (D ++ List.replicate j 0)) A' := hs1
      unfold fill64 at hj
      split at hj
      · rename_i hc
        obtain ⟨_, w1, _, _, _⟩ := op_ld (o1.get (t, opO 2 which z vd vk) (by simp))
        have hlt : ((D.length + j : Nat) : Int) < 64 := by omega
        obtain ⟨v2, h2, G2, e1, e2, o2⟩ := hs1.push (new := [.int .u8 0]) o1 (by decide) rfl (bytes := 1) (by omega)
        refine .inl ⟨((v2, ()), h2), ?_, G2, ?_, o2⟩
        · have f1 : fillL [.int .u8 0] [(0, 1, .int .u8 0)] = some [.int .u8 0] := rfl
          simp only [f_wicketlaw04_pair_plays_L40, hs1.lenB, Option.bind_some, hlt, decide_true, cond_true, nwA_eq, ht, fa_mk, Nat.zero_add, w1, hc.1, f1, bnd_eq, e1]
        · have : iz .u8 (D ++ List.replicate (j + 1) (0 : Int)) = iz .u8 (D ++ List.replicate j 0) ++ [.int .u8 0] := by rw [List.replicate_succ', ← List.append_assoc]; simp [iz]
          rw [this]; exact e2
      · omega)
    (fun a hi => by
      obtain ⟨⟨v, _⟩, h1⟩ := a
      obtain ⟨A', hs1, o1⟩ := hi
      have o1 : Own h1 _ := o1
      have hs1 : Slc 1 v (D.length + fill64 which D.length) (iz .u8 (D ++ List.replicate (fill64 which D.length) 0)) A' := hs1
      refine ⟨((v, ()), h1), ?_, A', hs1, o1⟩
      obtain ⟨_, w1, _, _, _⟩ := op_ld (o1.get (t, opO 2 which z vd vk) (by simp))
      by_cases hlt : ((D.length + fill64 which D.length : Nat) : Int) < 64
      · have hneg : ¬ 0 ≤ which := by
          intro h0
          unfold fill64 at hlt
          split at hlt <;> omega
        simp only [f_wicketlaw04_pair_plays_L40, hs1.lenB, Option.bind_some, hlt, decide_true, cond_true, nwA_eq, ht, fa_mk, Nat.zero_add, w1, hneg, decide_false, cond_false]
      · simp only [f_wicketlaw04_pair_plays_L40, hs1.lenB, Option.bind_some, hlt, decide_false, cond_false])
  have o2 : Own h2 _ := o2
  have a2 : Slc 1 s2 _ _ A2 := a2
  have e2 : loopT (fun a => f_wicketlaw04_pair_plays_L40 n h a.1.1 a.2) n ((s1, ()), h1) = some ((s2, ()), h2) := e2
  rw [← hlen] at a2
  have hYl : (D ++ List.replicate (fill64 which D.length) (0 : Int)).length ≤ D.length + 64 := by rw [hlen]; omega
  generalize D ++ List.replicate (fill64 which D.length) (0 : Int) = Y at a2 hYl
  obtain ⟨s3, h3, A3, e3, a3, o3⟩ := marked_ok (n := n) a2.sow (h := h2) o2 (by omega)
  obtain ⟨_, _, m2b, _, _⟩ := op_ld (o3.get (t, opO 2 which z vd vk) (by simp))
  obtain ⟨h4, L4, e4, d4, o4⟩ := write_z (n := n) (z := z) hx.hd a3.slc.sow (h := h3) (F := (t, opO 2 which z vd vk) :: (pp, prO w x y b) :: (A2 ++ (x.B ++ (y.A ++ (y.B ++ (b.L ++ (G ++ F))))))) (o3.to fun x => by simp only [cnt_append, cnt_cons]; omega) (by omega)
  obtain ⟨_, _, m2c, _, _⟩ := op_ld (o4.get (t, opO 2 which z vd vk) (by simp))
  obtain ⟨h5, L5, e5, d5, o5⟩ := rwrite_z (n := n) (z := z) hx.hr a2.sow (h := h4) (F := (t, opO 2 which z vd vk) :: (pp, prO w x y b) :: (A3 ++ (L4 ++ (y.A ++ (y.B ++ (b.L ++ (G ++ F))))))) (o4.to fun x => by simp only [cnt_append, cnt_cons]; omega) (by omega) (by omega)
  have e6 := held_ok (n := n) a3 a2.sow (h := h5) (F := (t, opO 2 which z vd vk) :: (pp, prO w x y b) :: (L5 ++ (L4 ++ (y.A ++ (y.B ++ (b.L ++ (G ++ F))))))) (o5.to fun x => by simp only [cnt_append, cnt_cons]; omega) (by omega)
  obtain ⟨h7, A7, e7, o7⟩ := fills_ok (n := n) (c := 69) (r := (true, ())) (f := fun a => f_wicketlaw04_pair_plays_L54 n ((s3, ()), h3) ((true, ()), h5) Y.length a.1.1 a.2) (h := h5) a3.slc (F := (t, opO 2 which z vd vk) :: (pp, prO w x y b) :: (L5 ++ (L4 ++ (y.A ++ (y.B ++ (b.L ++ (G ++ F))))))) (o5.to fun x => by simp only [cnt_append, cnt_cons]; omega)
    (fun k h1 h2 q hk e1 e2 => by
      have hlt : (k : Int) < (Y.length : Int) := by omega
      simp only [f_wicketlaw04_pair_plays_L54, hlt, decide_true, cond_true, e1, e2, Option.bind_some])
    (fun h1 => by simp [f_wicketlaw04_pair_plays_L54]) (by omega) (by omega)
  have hwl := wrz_len (ds := x.ds) (ws := x.ws) (X := Y) (z := z)
  refine ⟨h7, { x with ws := wrz x.ds x.ws Y z, A := L4, B := L5 }, y, b, (pp, prO w x y b) :: (L4 ++ (L5 ++ (y.A ++ (y.B ++ b.L)))), ?_, ⟨⟨d4, d5, hxn, Nat.le_trans hwl (Nat.succ_le_succ hxk)⟩, hy.mono (Nat.le_succ _), hb, Nat.le_succ_of_le hbk, rfl⟩, o7.to fun x => by simp only [cnt_append, cnt_cons, List.cons_append]; omega⟩
  have hcl := opc_cell (kind := 2) (which := which) (z := z) hvd hvk
  have hco : cellsOf (.agg ⟨opc 2 which z vd vk⟩) = opc 2 which z vd vk := rfl
  have hh0 : h.new (.cells (opc 2 which z vd vk) false 0) = h0 := hh0
  simp only [f_wicketlaw04_pair_plays, hcl, hco, cond_true, bnd_eq, nwA_eq, ht, hh0, fa_mk, Nat.zero_add, m0, m1, m2, m3, hwh, Option.bind_some, i1, l1, i2, l2, show (decide ((2 : Int) = 1)) = false from rfl, decide_true, cond_false, e1, e2, e3, m2b, e4, m2c, e5, e6, a3.slc.lenB, e7]

theorem play_flush (hp : PrW w pp N k x y b L) (hw : w < 2) (hwh : Int.tmod (IntKind.i64.wrap (Int.tmod which 2 + 2)) 2 = (w : Int)) (hvd : isCell vd = true) (hvk : isCell vk = true) (ho : Own h (L ++ (G ++ F))) (hk : k ≤ 1000) (hN : N ≤ 4096) (hn : 5000 ≤ n) :
    Played n w pp N k 3 which z vd vk h G F := by
  obtain ⟨hx, hy, hb, hbk, rfl⟩ := hp
  have hxn := hx.hn
  have hxk := hx.hk
  have o0 := ho.new (opO 3 which z vd vk)
  generalize ht : h.next = t at o0
  generalize hh0 : h.new (opO 3 which z vd vk) = h0 at o0
  obtain ⟨m0, m1, m2, m3, m4⟩ := op_ld o0.head
  obtain ⟨⟨q1, i1, l1, _⟩, ⟨q2, i2, l2, _⟩, _, _⟩ := pcl_ld hw (o0.get (pp, .cells (pcl w x y b.t b.s) false 0) (by simp))
  have o0 : Own h0 ((t, opO 3 which z vd vk) :: ((pp, prO w x y b) :: (x.A ++ (x.B ++ (y.A ++ (y.B ++ b.L)))) ++ (G ++ F))) := o0
  obtain ⟨h1, L1, e1, d1, o1⟩ := flush_ok (n := n) (sp := none) hx.hd (h := h0) (F := (t, opO 3 which z vd vk) :: (pp, prO w x y b) :: (x.B ++ (y.A ++ (y.B ++ (b.L ++ (G ++ F)))))) (o0.to fun x => by simp only [cnt_append, cnt_cons]; omega) (by omega) (by omega)
  obtain ⟨h2, L2, e2, d2, o2⟩ := rflush_ok (n := n) (sp := none) hx.hr (h := h1) (F := (t, opO 3 which z vd vk) :: (pp, prO w x y b) :: (L1 ++ (y.A ++ (y.B ++ (b.L ++ (G ++ F)))))) (o1.to fun x => by simp only [cnt_append, cnt_cons]; omega) (by omega) (by omega) (by omega)
  refine ⟨h2, { x with ds := ak (fun _ => true) x.ws x.ws.length x.ds, ws := [], A := L1, B := L2 }, y, b, (pp, prO w x y b) :: (L1 ++ (L2 ++ (y.A ++ (y.B ++ b.L)))), ?_, ⟨⟨d1, d2, ak_len.trans hxn, Nat.zero_le _⟩, hy.mono (Nat.le_succ _), hb, Nat.le_succ_of_le hbk, rfl⟩, o2.to fun x => by simp only [cnt_append, cnt_cons, List.cons_append]; omega⟩
  have hcl := opc_cell (kind := 3) (which := which) (z := z) hvd hvk
  have hco : cellsOf (.agg ⟨opc 3 which z vd vk⟩) = opc 3 which z vd vk := rfl
  have hh0 : h.new (.cells (opc 3 which z vd vk) false 0) = h0 := hh0
  simp only [f_wicketlaw04_pair_plays, hcl, hco, cond_true, bnd_eq, nwA_eq, ht, hh0, fa_mk, Nat.zero_add, m0, m1, m2, m3, hwh, Option.bind_some, i1, l1, i2, l2, show (decide ((3 : Int) = 1)) = false from rfl, show (decide ((3 : Int) = 2)) = false from rfl, decide_true, cond_false, e1, e2]
end
end Go.Proofs.Ytbjipkemgnpifaa

/- A step of the pair: crashes. -/
namespace Go.Proofs.Ytbjipkemgnpifaa
open Go
set_option linter.unusedVariables false
set_option linter.unusedSimpArgs false
section
variable {n p k pp w N : Nat} {x y : Sid} {b : Tl} {L F G : Ch} {h : Heap} {vd vk : Value} {which z : Int} {K : List Int}
theorem play_crash (hp : PrW w pp N k x y b L) (hw : w < 2) (hwh : Int.tmod (IntKind.i64.wrap (Int.tmod which 2 + 2)) 2 = (w : Int)) (hu : Sow 1 vk K.length (iz .i64 K) G) (hvd : isCell vd = true) (ho : Own h (L ++ (G ++ F))) (hk : k ≤ 1000) (hN : N ≤ 4096) (hn : 5000 ≤ n) (hK : (K.length + 2) * 8 ≤ 140737488355328) (hKn : K.length + 5000 ≤ n) :
    Played n w pp N k 4 which z vd vk h G F := by
  obtain ⟨hx, hy, hb, hbk, rfl⟩ := hp
  have hxn := hx.hn
  have hxk := hx.hk
  have hvk : isCell vk = true := sow_cell hu ho.right
  have o0 := ho.new (opO 4 which z vd vk)
  generalize ht : h.next = t at o0
  generalize hh0 : h.new (opO 4 which z vd vk) = h0 at o0
  obtain ⟨m0, m1, m2, m3, m4⟩ := op_ld o0.head
  obtain ⟨⟨q1, i1, l1, _⟩, ⟨q2, i2, l2, _⟩, _, _⟩ := pcl_ld hw (o0.get (pp, .cells (pcl w x y b.t b.s) false 0) (by simp))
  have o0 : Own h0 ((t, opO 4 which z vd vk) :: ((pp, prO w x y b) :: (x.A ++ (x.B ++ (y.A ++ (y.B ++ b.L)))) ++ (G ++ F))) := o0
  obtain ⟨h58, h61, b1, b2, v3, h3, h4, h5, h6, bb, off, sp, c, A, hh58, hb1, hb2, hh61, g1, g2, e3, hh4, e5, hh6, hc, a6, o6⟩ := marks7_ok hu (h := h0) (t := t) (cells := opc 4 which z vd vk) (F := (pp, prO w x y b) :: (x.A ++ (x.B ++ (y.A ++ (y.B ++ (b.L ++ F)))))) (o0.to fun x => by simp only [opO, cnt_append, cnt_cons]; omega) hK
  have o6 : Own h6 (A ++ ((t, opO 4 which z vd vk) :: (G ++ ((pp, prO w x y b) :: (x.A ++ (x.B ++ (y.A ++ (y.B ++ (b.L ++ F))))))))) := o6
  obtain ⟨_, _, _, _, n4⟩ := op_ld g1
  obtain ⟨_, _, _, _, n4b⟩ := op_ld g2
  have hlk : lenB vk = some K.length := (hu.rds (h := h0) (F := (t, opO 4 which z vd vk) :: (pp, prO w x y b) :: (x.A ++ (x.B ++ (y.A ++ (y.B ++ (b.L ++ F)))))) (o0.to fun x => by simp only [cnt_append, cnt_cons]; omega)).lenB
  have a7 := a6.pre' (k := K.length) (by omega)
  have ek : (iz .i64 (K ++ [-7, -7])).take K.length = iz .i64 K := by
    rw [iz, List.map_append, List.take_append_of_le_length (by simp), List.take_of_length_le (by simp)]; rfl
  rw [ek] at a7
  have s7 : sliceK h6 1 none (some (.int .i64 (K.length : Int))) none (.slice (some ⟨bb, off, sp⟩) (K.length + 2) c) = some (.slice (some ⟨bb, off, sp⟩) K.length c, h6) := sliceK_h (by omega)
  obtain ⟨h8, L8, e8, d8, o8⟩ := crash_ok (n := n) (sp := none) hx.hd a7.sow (h := h6) (F := (t, opO 4 which z vd vk) :: (pp, prO w x y b) :: (G ++ (x.B ++ (y.A ++ (y.B ++ (b.L ++ F)))))) (o6.to fun x => by simp only [cnt_append, cnt_cons]; omega) (by omega) (by omega) (by omega)
  obtain ⟨_, _, _, _, n4c⟩ := op_ld (o8.get (t, opO 4 which z vd vk) (by simp))
  obtain ⟨h9, L9, e9, d9, o9⟩ := rcrash_ok (n := n) (sp := none) hx.hr hu (h := h8) (F := (t, opO 4 which z vd vk) :: (pp, prO w x y b) :: (A ++ (L8 ++ (y.A ++ (y.B ++ (b.L ++ F)))))) (o8.to fun x => by simp only [cnt_append, cnt_cons]; omega) (by omega) (by omega) (by omega) (by omega)
  obtain ⟨_, _, _, _, n4d⟩ := op_ld (o9.get (t, opO 4 which z vd vk) (by simp))
  have s9 : sliceK h9 1 none (some (.int .i64 (IntKind.i64.wrap ((K.length : Int) + 2)))) none (.slice (some ⟨bb, off, sp⟩) K.length c) = some (.slice (some ⟨bb, off, sp⟩) (K.length + 2) c, h9) := by
    have : IntKind.i64.wrap ((K.length : Int) + 2) = ((K.length + 2 : Nat) : Int) := by rw [wrap_i64 (by omega) (by omega)]; omega
    rw [this]; exact sliceK_h hc
  have r9 := a6.rds (h := h9) (F := (t, opO 4 which z vd vk) :: (pp, prO w x y b) :: (G ++ (L9 ++ (L8 ++ (y.A ++ (y.B ++ (b.L ++ F))))))) (o9.to fun x => by simp only [cnt_append, cnt_cons]; omega)
  have rk := hu.rds (h := h9) (F := (t, opO 4 which z vd vk) :: (pp, prO w x y b) :: (A ++ (L9 ++ (L8 ++ (y.A ++ (y.B ++ (b.L ++ F))))))) (o9.to fun x => by simp only [cnt_append, cnt_cons]; omega)
  have hl2 : (K ++ [-7, -7] : List Int).length = K.length + 2 := by simp
  have e10 : loopT (fun a => f_wicketlaw04_pair_plays_L86 n h (.slice (some ⟨bb, off, sp⟩) (K.length + 2) c, h9) K.length a.1.1 a.1.2.1 a.2) n ((true, (0, ())), h9) = some ((true, ()), h9) := by
    obtain ⟨⟨r, h'⟩, e, q⟩ := loopT_up (f := fun a => f_wicketlaw04_pair_plays_L86 n h (.slice (some ⟨bb, off, sp⟩) (K.length + 2) c, h9) K.length a.1.1 a.1.2.1 a.2)
      (fun j (a : (Bool × Int × Unit) × Heap) => a = ((true, ((j : Int), ())), h9))
      (fun r => r = ((true, ()), h9)) (N := K.length) (k := n) (j := 0) (a := ((true, (0, ())), h9)) (by omega) (by omega) rfl
      (fun j a hj hi => by
        subst hi
        have hlt : (j : Int) < (K.length : Int) := by omega
        obtain ⟨q, g1, g2⟩ := r9.intn hl2 (i := j) (by omega)
        obtain ⟨q', g1', g2'⟩ := rk.int hj
        have ej : (K ++ [-7, -7])[j]'(by omega) = K[j] := List.getElem_append_left hj
        rw [ej] at g2
        exact .inl ⟨_, by simp only [f_wicketlaw04_pair_plays_L86, hlt, decide_true, cond_true, g1, g2, nwA_eq, ht, fa_mk, Nat.zero_add, n4d, g1', g2', Option.bind_some, wrap_succ (show j < 4611686018427387904 by omega)], rfl⟩)
      (fun a hi => by
        subst hi
        have hlt : ¬ (K.length : Int) < (K.length : Int) := by omega
        exact ⟨_, by simp only [f_wicketlaw04_pair_plays_L86, hlt, decide_false, cond_false], rfl⟩)
    rw [e, q]
  obtain ⟨q11, g11, g12⟩ := r9.intn hl2 (i := K.length) (by omega)
  obtain ⟨q13, g13, g14⟩ := r9.intn hl2 (i := K.length + 1) (by omega)
  have x11 : (K ++ [-7, -7])[K.length]'(by omega) = -7 := by simp
  have x13 : (K ++ [-7, -7])[K.length + 1]'(by omega) = -7 := by simp
  rw [x11] at g12
  rw [x13] at g14
  have hw1 := wrap_succ (show K.length < 4611686018427387904 by omega)
  refine ⟨h9, { x with ds := ak (fun j => decide ((j : Int) ∈ K)) x.ws x.ws.length x.ds, ws := [], A := L8, B := L9 }, y, b, (pp, prO w x y b) :: (L8 ++ (L9 ++ (y.A ++ (y.B ++ b.L)))), ?_, ⟨⟨d8, d9, ak_len.trans hxn, Nat.zero_le _⟩, hy.mono (Nat.le_succ _), hb, Nat.le_succ_of_le hbk, rfl⟩, o9.to fun x => by simp only [cnt_append, cnt_cons, List.cons_append]; omega⟩
  have hcl := opc_cell (kind := 4) (which := which) (z := z) hvd hvk
  have hco : cellsOf (.agg ⟨opc 4 which z vd vk⟩) = opc 4 which z vd vk := rfl
  have hh0 : h.new (.cells (opc 4 which z vd vk) false 0) = h0 := hh0
  have f2 : fillL [.int .i64 0, .int .i64 0] [(0, 1, .int .i64 (-7)), (1, 1, .int .i64 (-7))] = some [.int .i64 (-7), .int .i64 (-7)] := rfl
  have l9 : lenB (.slice (some ⟨bb, off, sp⟩) K.length c) = some K.length := rfl
  simp only [f_wicketlaw04_pair_plays, hcl, hco, cond_true, bnd_eq, nwA_eq, ht, hh0, fa_mk, Nat.zero_add, m0, m1, m2, m3, hwh, Option.bind_some, i1, l1, i2, l2, show (decide ((4 : Int) = 1)) = false from rfl, show (decide ((4 : Int) = 2)) = false from rfl, show (decide ((4 : Int) = 3)) = false from rfl, decide_true, cond_false, fill0, f2, ← hh58, ← hb1, ← hb2, ← hh61, n4, n4b, hlk, e3, hh4, e5, hh6, s7, e8, n4c, e9, l9, s9, n4d, e10, g11, g12, hw1, g13, g14]
end
end Go.Proofs.Ytbjipkemgnpifaa

/- A step of the pair: what waits, images, copies, loads. -/
namespace Go.Proofs.Ytbjipkemgnpifaa
open Go
set_option linter.unusedVariables false
set_option linter.unusedSimpArgs false
section
variable {n p k pp w N : Nat} {x y : Sid} {b : Tl} {L F G : Ch} {h : Heap} {vd vk : Value} {which z : Int} {K : List Int} {ds : List (List Int)} {ws : List (Int × List Int)}
theorem Rd'.own2 (hd : Rd' p ds ws L) : ∃ sd sw A B es, Slc 1 sd (ds.length * 64) (ds.flatMap (iz .u8)) A ∧ Wl sw es B ∧ es.map Wx.key = ws ∧ L = (p, .cells [sd, sw] false 0) :: (A ++ B) ∧ (∀ e ∈ es, e.X.length = 64) := by
  obtain ⟨sd, sw, A, B, es, a1, a2, a3, a4, a5, rfl⟩ := hd
  refine ⟨sd, sw, A, B ++ es.flatMap Wx.A, es, a1, ⟨B, a2, a3, rfl⟩, a4, rfl, fun e he => ?_⟩
  have := a5.w e.key (a4 ▸ List.mem_map_of_mem he)
  simpa [wc, Wx.key] using this
theorem keys_len {es es' : List Wx} (hk : es.map Wx.key = es'.map Wx.key) (h : ∀ e ∈ es', e.X.length = 64) : ∀ e ∈ es, e.X.length = 64 := by
  intro e he
  have : e.key ∈ es'.map Wx.key := hk ▸ List.mem_map_of_mem he
  obtain ⟨e', h1, h2⟩ := List.mem_map.1 this
  have h3 := h e' h1
  simp only [Wx.key, Prod.mk.injEq] at h2
  rw [← h2.2]; exact h3
theorem play_waits (hp : PrW w pp N k x y b L) (hw : w < 2) (hwh : Int.tmod (IntKind.i64.wrap (Int.tmod which 2 + 2)) 2 = (w : Int)) (hvd : isCell vd = true) (hvk : isCell vk = true) (ho : Own h (L ++ (G ++ F))) (hk : k ≤ 1000) (hN : N ≤ 4096) (hn : 5000 ≤ n) :
    Played n w pp N k 5 which z vd vk h G F := by
  obtain ⟨hx, hy, hb, hbk, rfl⟩ := hp
  have hxn := hx.hn
  have hxk := hx.hk
  have o0 := ho.new (opO 5 which z vd vk)
  generalize ht : h.next = t at o0
  generalize hh0 : h.new (opO 5 which z vd vk) = h0 at o0
  obtain ⟨m0, m1, m2, m3, m4⟩ := op_ld o0.head
  obtain ⟨⟨q1, i1, l1, _⟩, ⟨q2, i2, l2, _⟩, _, _⟩ := pcl_ld hw (o0.get (pp, .cells (pcl w x y b.t b.s) false 0) (by simp))
  have o0 : Own h0 ((t, opO 5 which z vd vk) :: ((pp, prO w x y b) :: (x.A ++ (x.B ++ (y.A ++ (y.B ++ b.L)))) ++ (G ++ F))) := o0
  obtain ⟨sd, sw, RA, RB, es, a1, a2, a3, hL, a5⟩ := hx.hr.own2
  have hes : es.length = x.ws.length := by rw [← a3, List.length_map]
  obtain ⟨s1, h1, es1, W1, e1, b1, c1, o1⟩ := waiting_ok (n := n) (sp := none) hx.hd (h := h0) (F := (t, opO 5 which z vd vk) :: (pp, prO w x y b) :: (x.B ++ (y.A ++ (y.B ++ (b.L ++ (G ++ F)))))) (o0.to fun x => by simp only [cnt_append, cnt_cons]; omega) (by omega) (by omega)
  obtain ⟨s2, h2, es2, W2, e2, b2, c2, o2⟩ := waiting_ok (n := n) (sp := none) hx.hd (h := h1) (F := (t, opO 5 which z vd vk) :: (pp, prO w x y b) :: (W1 ++ (x.B ++ (y.A ++ (y.B ++ (b.L ++ (G ++ F))))))) (o1.to fun x => by simp only [cnt_append, cnt_cons]; omega) (by omega) (by omega)
  rw [hL] at o2
  have o2 : Own h2 (W1 ++ (W2 ++ (RB ++ ((x.r, .cells [sd, sw] false 0) :: (RA ++ ((t, opO 5 which z vd vk) :: (pp, prO w x y b) :: (x.A ++ (y.A ++ (y.B ++ (b.L ++ (G ++ F))))))))))) := o2.to fun x => by simp only [cnt_append, cnt_cons, List.cons_append]; omega
  have l3 : ldT .any h2 (some ⟨x.r, 1, none⟩) = some sw := by rw [ldT_of (o2.get (x.r, .cells [sd, sw] false 0) (by simp))]; rfl
  have hl1 : es1.length = x.ws.length := by rw [← c1, List.length_map]
  have hl2 : es2.length = x.ws.length := by rw [← c2, List.length_map]
  have e3 := sameW_ok (n := n) b1 a2 (h := h2) (F := W2 ++ ((x.r, .cells [sd, sw] false 0) :: (RA ++ ((t, opO 5 which z vd vk) :: (pp, prO w x y b) :: (x.A ++ (y.A ++ (y.B ++ (b.L ++ (G ++ F))))))))) (o2.to fun x => by simp only [cnt_append, cnt_cons]; omega) (c1.trans a3.symm) (by omega) (by omega)
  have e4 := sameW_ok (n := n) b2 a2 (h := h2) (F := W1 ++ ((x.r, .cells [sd, sw] false 0) :: (RA ++ ((t, opO 5 which z vd vk) :: (pp, prO w x y b) :: (x.A ++ (y.A ++ (y.B ++ (b.L ++ (G ++ F))))))))) (o2.to fun x => by simp only [cnt_append, cnt_cons]; omega) (c2.trans a3.symm) (by omega) (by omega)
  obtain ⟨h5, e5, o5⟩ := apart_ok (n := n) b2 (h := h2) (F := W1 ++ (RB ++ ((x.r, .cells [sd, sw] false 0) :: (RA ++ ((t, opO 5 which z vd vk) :: (pp, prO w x y b) :: (x.A ++ (y.A ++ (y.B ++ (b.L ++ (G ++ F)))))))))) (o2.to fun x => by simp only [cnt_append, cnt_cons]; omega) (fun e he => by rw [keys_len (c2.trans a3.symm) a5 e he]; omega) (by omega) (by omega)
  have l5 : ldT .any h5 (some ⟨x.r, 1, none⟩) = some sw := by rw [ldT_of (o5.get (x.r, .cells [sd, sw] false 0) (by simp))]; rfl
  have e6 := sameW_ok (n := n) b1 a2 (h := h5) (F := ((x.r, .cells [sd, sw] false 0) :: (RA ++ ((t, opO 5 which z vd vk) :: (pp, prO w x y b) :: (x.A ++ (y.A ++ (y.B ++ (b.L ++ (G ++ F))))))))) (o5.to fun x => by simp only [cnt_append, cnt_cons]; omega) (c1.trans a3.symm) (by omega) (by omega)
  obtain ⟨h7, e7, o7⟩ := apart_ok (n := n) b1 (h := h5) (F := RB ++ ((x.r, .cells [sd, sw] false 0) :: (RA ++ ((t, opO 5 which z vd vk) :: (pp, prO w x y b) :: (x.A ++ (y.A ++ (y.B ++ (b.L ++ (G ++ F))))))))) (o5.to fun x => by simp only [cnt_append, cnt_cons]; omega) (fun e he => by rw [keys_len (c1.trans a3.symm) a5 e he]; omega) (by omega) (by omega)
  have o7' : Own h7 ((x.r, .cells [sd, sw] false 0) :: (RB ++ (RA ++ ((t, opO 5 which z vd vk) :: (pp, prO w x y b) :: (x.A ++ (y.A ++ (y.B ++ (b.L ++ (G ++ F))))))))) := o7.to fun x => by simp only [cnt_append, cnt_cons]; omega
  have l7 : ldT .any h7 (some ⟨x.r, 1, none⟩) = some sw := by rw [ldT_of o7'.head]; rfl
  obtain ⟨s8, h8, es8, W8, e8, b8, c8, o8⟩ := waiting_ok (n := n) (sp := none) hx.hd (h := hid h7 [] [x.r]) (F := (x.r, .cells [sd, sw] true 0) :: (RB ++ (RA ++ ((t, opO 5 which z vd vk) :: (pp, prO w x y b) :: (y.A ++ (y.B ++ (b.L ++ (G ++ F)))))))) (o7'.ro.to fun x => by simp only [cnt_append, cnt_cons]; omega) (by omega) (by omega)
  have o9 := Own.back (h0 := h7) (r := x.r) (X := W8 ++ (x.A ++ (RB ++ (RA ++ ((t, opO 5 which z vd vk) :: (pp, prO w x y b) :: (y.A ++ (y.B ++ (b.L ++ (G ++ F))))))))) (o8.to fun x => by simp only [cnt_append, cnt_cons]; omega) o7'.head
  generalize hh9 : h8.putBack h7 [x.r] = h9 at o9
  have hl8 : es8.length = x.ws.length := by rw [← c8, List.length_map]
  have e9 := sameW_ok (n := n) b8 a2 (h := h9) (F := ((x.r, .cells [sd, sw] false 0) :: (RA ++ ((t, opO 5 which z vd vk) :: (pp, prO w x y b) :: (x.A ++ (y.A ++ (y.B ++ (b.L ++ (G ++ F))))))))) (o9.to fun x => by simp only [cnt_append, cnt_cons]; omega) (c8.trans a3.symm) (by omega) (by omega)
  refine ⟨h9, x, y, b, _, ?_, ⟨hx.mono (Nat.le_succ _), hy.mono (Nat.le_succ _), hb, Nat.le_succ_of_le hbk, rfl⟩, ?_⟩
  · have hcl := opc_cell (kind := 5) (which := which) (z := z) hvd hvk
    have hco : cellsOf (.agg ⟨opc 5 which z vd vk⟩) = opc 5 which z vd vk := rfl
    have hh0 : h.new (.cells (opc 5 which z vd vk) false 0) = h0 := hh0
    simp only [f_wicketlaw04_pair_plays, hcl, hco, cond_true, bnd_eq, nwA_eq, ht, hh0, fa_mk, Nat.zero_add, m0, m1, m2, m3, hwh, Option.bind_some, i1, l1, i2, l2, show (decide ((5 : Int) = 1)) = false from rfl, show (decide ((5 : Int) = 2)) = false from rfl, show (decide ((5 : Int) = 3)) = false from rfl, show (decide ((5 : Int) = 4)) = false from rfl, decide_true, cond_false,
      e1, e2, l3, e3, e4, e5, l5, e6, e7, l7, e8, List.nil_append, hh9, e9]
  · rw [hL]
    exact o9.to fun x => by simp only [prO, cnt_append, cnt_cons, List.cons_append]; omega

theorem play_image (hp : PrW w pp N k x y b L) (hw : w < 2) (hwh : Int.tmod (IntKind.i64.wrap (Int.tmod which 2 + 2)) 2 = (w : Int)) (hvd : isCell vd = true) (hvk : isCell vk = true) (ho : Own h (L ++ (G ++ F))) (hk : k ≤ 1000) (hN : N ≤ 4096) (hn : 300000 ≤ n) :
    Played n w pp N k 6 which z vd vk h G F := by
  obtain ⟨hx, hy, hb, hbk, rfl⟩ := hp
  have hxn := hx.hn
  have hxk := hx.hk
  have o0 := ho.new (opO 6 which z vd vk)
  generalize ht : h.next = t at o0
  generalize hh0 : h.new (opO 6 which z vd vk) = h0 at o0
  obtain ⟨m0, m1, m2, m3, m4⟩ := op_ld o0.head
  obtain ⟨⟨q1, i1, l1, _⟩, ⟨q2, i2, l2, _⟩, _, _⟩ := pcl_ld hw (o0.get (pp, .cells (pcl w x y b.t b.s) false 0) (by simp))
  have o0 : Own h0 ((t, opO 6 which z vd vk) :: ((pp, prO w x y b) :: (x.A ++ (x.B ++ (y.A ++ (y.B ++ b.L)))) ++ (G ++ F))) := o0
  obtain ⟨sd, sw, RA, RB, es, a1, a2, a3, hL, a5⟩ := hx.hr.own2
  obtain ⟨s1, h1, A1, e1, b1, o1⟩ := image_ok' (n := n) (sp := none) hx.hd (h := h0) (F := (t, opO 6 which z vd vk) :: (pp, prO w x y b) :: (x.B ++ (y.A ++ (y.B ++ (b.L ++ (G ++ F)))))) (o0.to fun x => by simp only [cnt_append, cnt_cons]; omega) (by omega) (by omega)
  obtain ⟨s2, h2, A2, e2, b2, o2⟩ := image_ok' (n := n) (sp := none) hx.hd (h := h1) (F := (t, opO 6 which z vd vk) :: (pp, prO w x y b) :: (A1 ++ (x.B ++ (y.A ++ (y.B ++ (b.L ++ (G ++ F))))))) (o1.to fun x => by simp only [cnt_append, cnt_cons]; omega) (by omega) (by omega)
  have e3 := len_ok (n := n) (sp := none) hx.hd (h := h2) (F := (t, opO 6 which z vd vk) :: (pp, prO w x y b) :: (A1 ++ (A2 ++ (x.B ++ (y.A ++ (y.B ++ (b.L ++ (G ++ F)))))))) (o2.to fun x => by simp only [cnt_append, cnt_cons]; omega)
  have e4 := rlen_ok (n := n) (sp := none) hx.hr (h := h2) (F := (t, opO 6 which z vd vk) :: (pp, prO w x y b) :: (A1 ++ (A2 ++ (x.A ++ (y.A ++ (y.B ++ (b.L ++ (G ++ F)))))))) (o2.to fun x => by simp only [cnt_append, cnt_cons]; omega) (by omega)
  rw [← iz_flatten] at a1
  have o2w := o2
  rw [hL] at o2
  have o2 : Own h2 (A1 ++ (A2 ++ (RA ++ ((x.r, .cells [sd, sw] false 0) :: (RB ++ ((t, opO 6 which z vd vk) :: (pp, prO w x y b) :: (x.A ++ (y.A ++ (y.B ++ (b.L ++ (G ++ F))))))))))) := o2.to fun x => by simp only [cnt_append, cnt_cons, List.cons_append]; omega
  have l3 : ldT .any h2 (some ⟨x.r, 0, none⟩) = some sd := by rw [ldT_of (o2.get (x.r, .cells [sd, sw] false 0) (by simp))]; rfl
  have hfl : x.ds.flatten.length = x.ds.length * 64 := by have := b1.len; simpa using this
  rw [hxn] at hfl
  rw [hxn] at b1 b2 a1
  have t1 := (b1.rds o2).str
  have t2 := (b2.rds (h := h2) (F := A1 ++ (RA ++ ((x.r, .cells [sd, sw] false 0) :: (RB ++ ((t, opO 6 which z vd vk) :: (pp, prO w x y b) :: (x.A ++ (y.A ++ (y.B ++ (b.L ++ (G ++ F)))))))))) (o2.to fun x => by simp only [cnt_append, cnt_cons]; omega)).str
  have t3 := (a1.rds (h := h2) (F := A1 ++ (A2 ++ ((x.r, .cells [sd, sw] false 0) :: (RB ++ ((t, opO 6 which z vd vk) :: (pp, prO w x y b) :: (x.A ++ (y.A ++ (y.B ++ (b.L ++ (G ++ F)))))))))) (o2.to fun x => by simp only [cnt_append, cnt_cons]; omega)).str
  rw [← hfl] at b1 b2
  generalize x.ds.flatten = X at b1 b2 hfl t1 t2 t3
  obtain ⟨h5, A5, e5, o5⟩ := fills_ok (n := n) (c := 70) (r := ()) (f := fun a => f_wicketlaw04_pair_plays_L134 n ((s2, ()), h2) X.length a.1.1 a.2) (h := h2) b2 (F := (t, opO 6 which z vd vk) :: (pp, prO w x y b) :: (A1 ++ (x.A ++ (x.B ++ (y.A ++ (y.B ++ (b.L ++ (G ++ F)))))))) (o2w.to fun x => by simp only [cnt_append, cnt_cons]; omega)
    (fun k h1 h2 q hk e1 e2 => by
      have hlt : (k : Int) < (X.length : Int) := by omega
      simp only [f_wicketlaw04_pair_plays_L134, hlt, decide_true, cond_true, e1, e2, Option.bind_some])
    (fun h1 => by simp [f_wicketlaw04_pair_plays_L134]) (by omega) (by omega)
  have o5' : Own h5 ((pp, .cells (pcl w x y b.t b.s) false 0) :: (b.L ++ (A1 ++ (x.A ++ (x.B ++ (y.A ++ (y.B ++ (G ++ F)))))))) := o5.to fun x => by simp only [prO, cnt_append, cnt_cons]; omega
  obtain ⟨h6, b6, e6, k6, l6, o6⟩ : ∃ h' b', f_wicketlaw04_pair_keeps n (some ⟨pp, 0, none⟩) s1 h5 = some ((), h') ∧ TlOk b' ∧ b'.bs.length = b.bs.length + 1 ∧ Own h' ((pp, .cells (pcl w x y b'.t b'.s) false 0) :: (b'.L ++ (x.A ++ (x.B ++ (y.A ++ (y.B ++ (G ++ F))))))) := by
    have : w = 0 ∨ w = 1 := by omega
    rcases this with rfl | rfl
    · exact keeps_ok' hb b1 o5' (by omega) (by omega)
    · exact keeps_ok' hb b1 o5' (by omega) (by omega)
  refine ⟨h6, x, y, b6, _, ?_, ⟨hx.mono (Nat.le_succ _), hy.mono (Nat.le_succ _), k6, by omega, rfl⟩, o6.to fun x => by simp only [cnt_append, cnt_cons, List.cons_append]; omega⟩
  have hcl := opc_cell (kind := 6) (which := which) (z := z) hvd hvk
  have hco : cellsOf (.agg ⟨opc 6 which z vd vk⟩) = opc 6 which z vd vk := rfl
  have hh0 : h.new (.cells (opc 6 which z vd vk) false 0) = h0 := hh0
  simp only [f_wicketlaw04_pair_plays, hcl, hco, cond_true, bnd_eq, nwA_eq, ht, hh0, fa_mk, Nat.zero_add, m0, m1, m2, m3, hwh, Option.bind_some, i1, l1, i2, l2, show (decide ((6 : Int) = 1)) = false from rfl, show (decide ((6 : Int) = 2)) = false from rfl, show (decide ((6 : Int) = 3)) = false from rfl, show (decide ((6 : Int) = 4)) = false from rfl, show (decide ((6 : Int) = 5)) = false from rfl, decide_true, cond_false,
    e1, e2, t1, l3, t3, str_eql rfl, t2, e3, e4, b2.lenB, e5, e6]
end
end Go.Proofs.Ytbjipkemgnpifaa

/- A step of the pair: copies, loads; every step. -/
namespace Go.Proofs.Ytbjipkemgnpifaa
open Go
set_option linter.unusedVariables false
set_option linter.unusedSimpArgs false
section
variable {n p k pp w N : Nat} {x y : Sid} {b : Tl} {L F G : Ch} {h : Heap} {vd vk : Value} {which z : Int} {K D : List Int} {ds : List (List Int)} {ws : List (Int × List Int)}
theorem play_copy (hp : PrW w pp N k x y b L) (hw : w < 2) (hwh : Int.tmod (IntKind.i64.wrap (Int.tmod which 2 + 2)) 2 = (w : Int)) (hwo : IntKind.i64.wrap (1 - (w : Int)) = ((1 - w : Nat) : Int)) (hvd : isCell vd = true) (hvk : isCell vk = true) (ho : Own h (L ++ (G ++ F))) (hk : k ≤ 1000) (hN : N ≤ 4096) (hn : 5000 ≤ n) :
    Played n w pp N k 7 which z vd vk h G F := by
  obtain ⟨hx, hy, hb, hbk, rfl⟩ := hp
  have hxn := hx.hn
  have hxk := hx.hk
  have o0 := ho.new (opO 7 which z vd vk)
  generalize ht : h.next = t at o0
  generalize hh0 : h.new (opO 7 which z vd vk) = h0 at o0
  obtain ⟨m0, m1, m2, m3, m4⟩ := op_ld o0.head
  obtain ⟨⟨q1, i1, l1, _⟩, ⟨q2, i2, l2, _⟩, _, _⟩ := pcl_ld hw (o0.get (pp, .cells (pcl w x y b.t b.s) false 0) (by simp))
  have o0 : Own h0 ((t, opO 7 which z vd vk) :: ((pp, prO w x y b) :: (x.A ++ (x.B ++ (y.A ++ (y.B ++ b.L)))) ++ (G ++ F))) := o0
  obtain ⟨p', h1, L1, e1, d1, o1⟩ := copy_ok' (n := n) hx.hd (h := h0) (F := (t, opO 7 which z vd vk) :: (pp, prO w x y b) :: (x.B ++ (y.A ++ (y.B ++ (b.L ++ (G ++ F)))))) (o0.to fun x => by simp only [cnt_append, cnt_cons]; omega) (by omega) (by omega)
  obtain ⟨r', h2, L2, e2, d2, o2⟩ := rcopy_ok (n := n) (sp := none) hx.hr (h := h1) (F := (t, opO 7 which z vd vk) :: (pp, prO w x y b) :: (L1 ++ (x.A ++ (y.A ++ (y.B ++ (b.L ++ (G ++ F))))))) (o1.to fun x => by simp only [cnt_append, cnt_cons]; omega) (by omega) (by omega) (by omega)
  obtain ⟨q3, h3, q4, h4, i3, s3, i4, s4, l4, o4⟩ := pcl_st (pp := pp) (z := ⟨p', r', x.ds, x.ws, L1, L2⟩) hw (h := h2) (t := b.t) (s := b.s) (x := x) (y := y) (F := (t, opO 7 which z vd vk) :: (L2 ++ (L1 ++ (x.B ++ (x.A ++ (y.A ++ (y.B ++ (b.L ++ (G ++ F))))))))) (o2.to fun x => by simp only [prO, cnt_append, cnt_cons]; omega)
  have s3 : stB 1 (.pointer (some ⟨p', 0, none⟩)) h2 (some q3) = some h3 := s3
  have s4 : stB 1 (.pointer (some ⟨r', 0, none⟩)) h3 (some q4) = some h4 := s4
  have l4 : ldT .ptr h4 (some q3) = some (some ⟨p', 0, none⟩) := l4
  refine ⟨h4, x, ⟨p', r', x.ds, x.ws, L1, L2⟩, b, (pp, .cells (pcl w x ⟨p', r', x.ds, x.ws, L1, L2⟩ b.t b.s) false 0) :: (x.A ++ (x.B ++ (L1 ++ (L2 ++ b.L)))), ?_, ⟨hx.mono (Nat.le_succ _), ⟨d1, d2, hxn, Nat.le_succ_of_le hxk⟩, hb, Nat.le_succ_of_le hbk, rfl⟩, o4.to fun x => by simp only [cnt_append, cnt_cons, List.cons_append]; omega⟩
  have hcl := opc_cell (kind := 7) (which := which) (z := z) hvd hvk
  have hco : cellsOf (.agg ⟨opc 7 which z vd vk⟩) = opc 7 which z vd vk := rfl
  have hh0 : h.new (.cells (opc 7 which z vd vk) false 0) = h0 := hh0
  simp only [f_wicketlaw04_pair_plays, hcl, hco, cond_true, bnd_eq, nwA_eq, ht, hh0, fa_mk, Nat.zero_add, m0, m1, m2, m3, hwh, Option.bind_some, i1, l1, i2, l2, show (decide ((7 : Int) = 1)) = false from rfl, show (decide ((7 : Int) = 2)) = false from rfl, show (decide ((7 : Int) = 3)) = false from rfl, show (decide ((7 : Int) = 4)) = false from rfl, show (decide ((7 : Int) = 5)) = false from rfl, show (decide ((7 : Int) = 6)) = false from rfl, decide_true, cond_false,
    e1, e2, hwo, i3, s3, i4, s4, l4, Option.isNone_some, Bool.not_false]

theorem play_load (hp : PrW w pp N k x y b L) (hw : w < 2) (hwh : Int.tmod (IntKind.i64.wrap (Int.tmod which 2 + 2)) 2 = (w : Int)) (hwo : IntKind.i64.wrap (1 - (w : Int)) = ((1 - w : Nat) : Int)) (hvd : isCell vd = true) (hvk : isCell vk = true) (ho : Own h (L ++ (G ++ F))) (hk : k ≤ 1000) (hN1 : 1 ≤ N) (hN : N ≤ 4096) (hn : 300000 ≤ n) :
    Played n w pp N k 8 which z vd vk h G F := by
  obtain ⟨hx, hy, hb, hbk, rfl⟩ := hp
  have hxn := hx.hn
  have hxk := hx.hk
  have o0 := ho.new (opO 8 which z vd vk)
  generalize ht : h.next = t at o0
  generalize hh0 : h.new (opO 8 which z vd vk) = h0 at o0
  obtain ⟨m0, m1, m2, m3, m4⟩ := op_ld o0.head
  obtain ⟨⟨q1, i1, l1, _⟩, ⟨q2, i2, l2, _⟩, _, _⟩ := pcl_ld hw (o0.get (pp, .cells (pcl w x y b.t b.s) false 0) (by simp))
  have o0 : Own h0 ((t, opO 8 which z vd vk) :: ((pp, prO w x y b) :: (x.A ++ (x.B ++ (y.A ++ (y.B ++ b.L)))) ++ (G ++ F))) := o0
  obtain ⟨sd, sw, RA, RB, es, a1, a2, a3, hL, a5⟩ := hx.hr.own2
  have hdd := hx.hd.okd.d
  rw [hL] at o0
  have o0 : Own h0 (RA ++ ((x.r, .cells [sd, sw] false 0) :: (RB ++ ((t, opO 8 which z vd vk) :: (pp, prO w x y b) :: (x.A ++ (y.A ++ (y.B ++ (b.L ++ (G ++ F))))))))) := o0.to fun x => by simp only [cnt_append, cnt_cons, List.cons_append]; omega
  have l3 : ldT .any h0 (some ⟨x.r, 0, none⟩) = some sd := by rw [ldT_of (o0.get (x.r, .cells [sd, sw] false 0) (by simp))]; rfl
  obtain ⟨s1, h1, A1, e1, b1, o1⟩ := marked_ok (n := n) a1.sow (h := h0) o0 (by omega)
  obtain ⟨p', h2, L2, e2, d2, o2⟩ := load_ok (n := n) b1.slc (h := h1) o1 hdd (by omega) (by omega) (by omega)
  have l4 : ldT .any h2 (some ⟨x.r, 0, none⟩) = some sd := by rw [ldT_of (o2.get (x.r, .cells [sd, sw] false 0) (by simp))]; rfl
  obtain ⟨r', h3, L3, e3, d3, o3⟩ := rload_ok (n := n) a1 (h := h2) (F := L2 ++ (A1 ++ ((x.r, .cells [sd, sw] false 0) :: (RB ++ ((t, opO 8 which z vd vk) :: (pp, prO w x y b) :: (x.A ++ (y.A ++ (y.B ++ (b.L ++ (G ++ F)))))))))) (o2.to fun x => by simp only [cnt_append, cnt_cons]; omega) hdd (by omega) (by omega)
  have l5 : ldT .any h3 (some ⟨x.r, 0, none⟩) = some sd := by rw [ldT_of (o3.get (x.r, .cells [sd, sw] false 0) (by simp))]; rfl
  have hfl : x.ds.flatten.length = x.ds.length * 64 := by have := a1.len; rw [← iz_flatten] at this; simpa using this
  rw [← iz_flatten, ← hfl] at b1 a1
  have e4 := held_ok (n := n) b1 a1.sow (h := h3) (F := L3 ++ (L2 ++ ((x.r, .cells [sd, sw] false 0) :: (RB ++ ((t, opO 8 which z vd vk) :: (pp, prO w x y b) :: (x.A ++ (y.A ++ (y.B ++ (b.L ++ (G ++ F)))))))))) (o3.to fun x => by simp only [cnt_append, cnt_cons]; omega) (by omega)
  rw [hxn] at hfl
  generalize x.ds.flatten = X at b1 a1 hfl
  obtain ⟨h5, A5, e5, o5⟩ := fills_ok (n := n) (c := 71) (r := ()) (f := fun a => f_wicketlaw04_pair_plays_L164 n ((s1, ()), h1) X.length a.1.1 a.2) (h := h3) b1.slc (F := L3 ++ (L2 ++ (RA ++ ((x.r, .cells [sd, sw] false 0) :: (RB ++ ((t, opO 8 which z vd vk) :: (pp, prO w x y b) :: (x.A ++ (y.A ++ (y.B ++ (b.L ++ (G ++ F))))))))))) (o3.to fun x => by simp only [cnt_append, cnt_cons]; omega)
    (fun k h1 h2 q hk e1 e2 => by
      have hlt : (k : Int) < (X.length : Int) := by omega
      simp only [f_wicketlaw04_pair_plays_L164, hlt, decide_true, cond_true, e1, e2, Option.bind_some])
    (fun h1 => by simp [f_wicketlaw04_pair_plays_L164]) (by omega) (by omega)
  obtain ⟨q3, h6, q4, h7, i3, s3, i4, s4, l6, o7⟩ := pcl_st (pp := pp) (z := ⟨p', r', x.ds, [], L2, L3⟩) hw (h := h5) (t := b.t) (s := b.s) (x := x) (y := y) (F := L3 ++ (L2 ++ (RA ++ ((x.r, .cells [sd, sw] false 0) :: (RB ++ ((t, opO 8 which z vd vk) :: (x.A ++ (y.A ++ (y.B ++ (b.L ++ (G ++ F))))))))))) (o5.to fun x => by simp only [prO, cnt_append, cnt_cons]; omega)
  have s3 : stB 1 (.pointer (some ⟨p', 0, none⟩)) h5 (some q3) = some h6 := s3
  have s4 : stB 1 (.pointer (some ⟨r', 0, none⟩)) h6 (some q4) = some h7 := s4
  refine ⟨h7, x, ⟨p', r', x.ds, [], L2, L3⟩, b, (pp, .cells (pcl w x ⟨p', r', x.ds, [], L2, L3⟩ b.t b.s) false 0) :: (x.A ++ (x.B ++ (L2 ++ (L3 ++ b.L)))), ?_, ⟨hx.mono (Nat.le_succ _), ⟨d2, d3, hxn, Nat.zero_le _⟩, hb, Nat.le_succ_of_le hbk, rfl⟩, ?_⟩
  · have hcl := opc_cell (kind := 8) (which := which) (z := z) hvd hvk
    have hco : cellsOf (.agg ⟨opc 8 which z vd vk⟩) = opc 8 which z vd vk := rfl
    have hh0 : h.new (.cells (opc 8 which z vd vk) false 0) = h0 := hh0
    simp only [f_wicketlaw04_pair_plays, hcl, hco, cond_true, bnd_eq, nwA_eq, ht, hh0, fa_mk, Nat.zero_add, m0, m1, m2, m3, hwh, Option.bind_some, i1, l1, i2, l2, show (decide ((8 : Int) = 1)) = false from rfl, show (decide ((8 : Int) = 2)) = false from rfl, show (decide ((8 : Int) = 3)) = false from rfl, show (decide ((8 : Int) = 4)) = false from rfl, show (decide ((8 : Int) = 5)) = false from rfl, show (decide ((8 : Int) = 6)) = false from rfl, show (decide ((8 : Int) = 7)) = false from rfl, decide_true, cond_false,
      l3, e1, e2, l4, e3, Bool.not_true, Option.isNone_some, l5, e4, b1.slc.lenB, e5, hwo, i3, s3, i4, s4]
  · rw [hL]
    exact o7.to fun x => by simp only [cnt_append, cnt_cons, List.cons_append]; omega
theorem play_none (hp : PrW w pp N k x y b L) {kind : Int} (hkd : kind < 1 ∨ 8 < kind) (hw : w < 2) (hwh : Int.tmod (IntKind.i64.wrap (Int.tmod which 2 + 2)) 2 = (w : Int)) (hvd : isCell vd = true) (hvk : isCell vk = true) (ho : Own h (L ++ (G ++ F))) :
    Played n w pp N k kind which z vd vk h G F := by
  obtain ⟨hx, hy, hb, hbk, rfl⟩ := hp
  have o0 := ho.new (opO kind which z vd vk)
  generalize ht : h.next = t at o0
  generalize hh0 : h.new (opO kind which z vd vk) = h0 at o0
  obtain ⟨m0, m1, m2, m3, m4⟩ := op_ld o0.head
  obtain ⟨⟨q1, i1, l1, _⟩, ⟨q2, i2, l2, _⟩, _, _⟩ := pcl_ld hw (o0.get (pp, .cells (pcl w x y b.t b.s) false 0) (by simp))
  refine ⟨h0, x, y, b, _, ?_, ⟨hx.mono (Nat.le_succ _), hy.mono (Nat.le_succ _), hb, Nat.le_succ_of_le hbk, rfl⟩, o0.to fun x => by simp only [cnt_append, cnt_cons, List.cons_append]; omega⟩
  have hcl := opc_cell (kind := kind) (which := which) (z := z) hvd hvk
  have hco : cellsOf (.agg ⟨opc kind which z vd vk⟩) = opc kind which z vd vk := rfl
  have hh0 : h.new (.cells (opc kind which z vd vk) false 0) = h0 := hh0
  have k1 : ¬ kind = 1 := by omega
  have k2 : ¬ kind = 2 := by omega
  have k3 : ¬ kind = 3 := by omega
  have k4 : ¬ kind = 4 := by omega
  have k5 : ¬ kind = 5 := by omega
  have k6 : ¬ kind = 6 := by omega
  have k7 : ¬ kind = 7 := by omega
  have k8 : ¬ kind = 8 := by omega
  simp only [f_wicketlaw04_pair_plays, hcl, hco, cond_true, bnd_eq, nwA_eq, ht, hh0, fa_mk, Nat.zero_add, m0, m1, m2, m3, hwh, Option.bind_some, i1, l1, i2, l2, k1, k2, k3, k4, k5, k6, k7, k8, decide_false, cond_false]
/-- Every step is answered as it should be. -/
theorem plays_ok {kind : Int} (hp : PrW 0 pp N k x y b L) (hu : Sow 1 vd D.length (iz .u8 D) G) (hv : Sow 1 vk K.length (iz .i64 K) G) (ho : Own h (L ++ (G ++ F))) (hk : k ≤ 1000) (hN1 : 1 ≤ N) (hN : N ≤ 4096) (hn : 300000 ≤ n)
    (hD : D.length + 4096 ≤ 140737488355328) (hDn : D.length + 5000 ≤ n) (hK : (K.length + 2) * 8 ≤ 140737488355328) (hKn : K.length + 5000 ≤ n) :
    Played n 0 pp N k kind which z vd vk h G F := by
  have hvd : isCell vd = true := sow_cell hu ho.right
  have hvk : isCell vk = true := sow_cell hv ho.right
  obtain ⟨w, hw, hwh, hwo⟩ := which_ok which
  have main : ∀ {x y : Sid} {L : Ch}, PrW w pp N k x y b L → Own h (L ++ (G ++ F)) → Played n w pp N k kind which z vd vk h G F := by
    intro x y L hp ho
    by_cases hkd : kind < 1 ∨ 8 < kind
    · exact play_none hp hkd hw hwh hvd hvk ho
    · have : kind = 1 ∨ kind = 2 ∨ kind = 3 ∨ kind = 4 ∨ kind = 5 ∨ kind = 6 ∨ kind = 7 ∨ kind = 8 := by omega
      rcases this with rfl | rfl | rfl | rfl | rfl | rfl | rfl | rfl
      · exact play_read hp hw hwh hvd hvk ho hk hN (by omega)
      · exact play_write hp hw hwh hu hvk ho hk hN (by omega) hD hDn
      · exact play_flush hp hw hwh hvd hvk ho hk hN (by omega)
      · exact play_crash hp hw hwh hv hvd ho hk hN (by omega) hK hKn
      · exact play_waits hp hw hwh hvd hvk ho hk hN (by omega)
      · exact play_image hp hw hwh hvd hvk ho hk hN hn
      · exact play_copy hp hw hwh hwo hvd hvk ho hk hN (by omega)
      · exact play_load hp hw hwh hwo hvd hvk ho hk hN1 hN hn
  have : w = 0 ∨ w = 1 := by omega
  rcases this with rfl | rfl
  · exact main hp ho
  · obtain ⟨L1, hp1, hc1⟩ := hp.swap (by decide)
    obtain ⟨h', x', y', b', L', e, p', o'⟩ := main hp1 (ho.to fun z => by have := hc1 z; simp only [cnt_append]; omega)
    obtain ⟨L2, hp2, hc2⟩ := p'.swap (by decide)
    exact ⟨h', y', x', b', L2, e, hp2, o'.to fun z => by have := hc2 z; simp only [cnt_append]; omega⟩
end
end Go.Proofs.Ytbjipkemgnpifaa

/- SectorPlays, put together. -/
namespace Go.Proofs.Ytbjipkemgnpifaa
open Go
set_option linter.unusedVariables false
set_option linter.unusedSimpArgs false
/-- A step of the script. -/
structure Sps where
  kind : Int
  which : Int
  z : Int
  vd : Value
  vk : Value
  D : List Int
  K : List Int
def Sps.cells (s : Sps) : List Value := opc s.kind s.which s.z s.vd s.vk
structure Scr (S : List Sps) (u : Value) (G : Ch) : Prop where
  s : Sow 5 u S.length (S.flatMap Sps.cells) G
  d : ∀ s ∈ S, Sow 1 s.vd s.D.length (iz .u8 s.D) G ∧ s.D.length + 4096 ≤ 140737488355328
  k : ∀ s ∈ S, Sow 1 s.vk s.K.length (iz .i64 s.K) G ∧ (s.K.length + 2) * 8 ≤ 140737488355328

section
variable {n k pp N : Nat} {x y : Sid} {b : Tl} {L F G A : Ch} {h : Heap} {u s : Value} {cs : List Value} {p7 : (Option Addr × Unit) × Heap}
theorem script_ok {S : List Sps} (hs : Scr S u G) (hp : PrW 0 pp N 0 x y b L) (ho : Own h (L ++ (G ++ F))) (h7 : p7.2.next = pp) (hN1 : 1 ≤ N) (hN : N ≤ 4096) (hn : 140737488955328 ≤ n) :
    ∃ h' x' y' b' L', f_wicketlaw04_SectorPlays_C22 n u p7 h = some (.inl ((), h')) ∧ PrW 0 pp N 40 x' y' b' L' ∧ Own h' (L' ++ (G ++ F)) := by
  have hm : min S.length 40 ≤ 40 := Nat.min_le_right _ _
  obtain ⟨r, e, h', rfl, x', y', b', L', q1, q2⟩ := loopT_up (f := fun a => f_wicketlaw04_SectorPlays_L21 n u p7 a.1.1 a.2)
    (fun j (a : (Int × Unit) × Heap) => a.1.1 = (j : Int) ∧ ∃ x y b L, PrW 0 pp N j x y b L ∧ Own a.2 (L ++ (G ++ F)))
    (fun r => ∃ h', r = .inl ((), h') ∧ ∃ x y b L, PrW 0 pp N 40 x y b L ∧ Own h' (L ++ (G ++ F))) (N := min S.length 40) (k := n) (j := 0) (a := ((0, ()), h)) (by omega) (by omega)
    ⟨rfl, x, y, b, L, hp, ho⟩
    (fun j a hj hi => by
      obtain ⟨⟨v, _⟩, h1⟩ := a
      obtain ⟨hv, x, y, b, L, hp, ho⟩ := hi
      have hv : v = (j : Int) := hv
      subst hv
      have ho : Own h1 (L ++ (G ++ F)) := ho
      have hjs : j < S.length := by omega
      have c1 : (j : Int) < (S.length : Int) := by omega
      have c2 : (j : Int) < 40 := by omega
      have hr := hs.s.rds (h := h1) (F := L ++ F) (ho.to fun x => by simp only [cnt_append]; omega)
      obtain ⟨q, e1, e2⟩ := hr.ix j hjs
      rw [flat_get (f := Sps.cells) (fun e _ => rfl) hjs] at e2
      have e3 := e2.ldA0 (k := 5) (Nat.le_refl _)
      have e3 : ldA 5 h1 (some q) = some S[j].cells := e3
      have hd := hs.d _ (List.getElem_mem hjs)
      have hk := hs.k _ (List.getElem_mem hjs)
      obtain ⟨h2, x2, y2, b2, L2, e4, p4, o4⟩ := plays_ok (n := n) (kind := S[j].kind) (which := S[j].which) (z := S[j].z) hp hd.1 hk.1 ho (by omega) hN1 hN (by omega) hd.2 (by have := hd.2; omega) hk.2 (by have := hk.2; omega)
      refine .inl ⟨((((j + 1 : Nat) : Int), ()), h2), ?_, rfl, x2, y2, b2, L2, p4, o4⟩
      have e4 : f_wicketlaw04_pair_plays n (some ⟨pp, 0, none⟩) (.agg ⟨S[j].cells⟩) h1 = some ((true, ()), h2) := e4
      simp only [f_wicketlaw04_SectorPlays_L21, hr.lenB, Option.bind_some, c1, c2, decide_true, cond_true, e1, e3, nwA_eq, h7, e4, Bool.not_true, cond_false, wrap_succ (show j < 4611686018427387904 by omega)])
    (fun a hi => by
      obtain ⟨⟨v, _⟩, h1⟩ := a
      obtain ⟨hv, x, y, b, L, hp, ho⟩ := hi
      have hv : v = ((min S.length 40 : Nat) : Int) := hv
      subst hv
      have ho : Own h1 (L ++ (G ++ F)) := ho
      have hr := hs.s.rds (h := h1) (F := L ++ F) (ho.to fun x => by simp only [cnt_append]; omega)
      refine ⟨.inl ((), h1), ?_, h1, rfl, x, y, b, L, hp.mono hm, ho⟩
      by_cases c1 : ((min S.length 40 : Nat) : Int) < (S.length : Int)
      · have c2 : ¬ ((min S.length 40 : Nat) : Int) < 40 := by omega
        simp only [f_wicketlaw04_SectorPlays_L21, hr.lenB, Option.bind_some, c1, c2, decide_true, decide_false, cond_true, cond_false]
      · simp only [f_wicketlaw04_SectorPlays_L21, hr.lenB, Option.bind_some, c1, decide_false, cond_false])
  exact ⟨h', x', y', b', L', e, q1, q2⟩

theorem Slc.reads (hs : Slc 1 s n cs A) (r : Nat) : (r ∈ strReads s ↔ ∃ x ∈ A, x.1 = r) ∧ ∀ x ∈ A, ∃ cs q es, x.2 = .cells cs q es := by
  cases hs with
  | nil => simp [strReads]
  | mk hp hl hr =>
    refine ⟨?_, fun x hx => by rw [List.mem_singleton.1 hx]; exact ⟨_, _, _, rfl⟩⟩
    simp only [strReads_slice, List.mem_singleton]
    constructor
    · rintro rfl; exact ⟨_, rfl, rfl⟩
    · rintro ⟨x, rfl, rfl⟩; rfl
theorem side_ok {w : Nat} (hp : PrW w pp N k x y b L) (hw : w < 2) (ho : Own h (L ++ F)) (h7 : p7.2.next = pp) (hk : k ≤ 1000) (hN : N ≤ 4096) (hn : 300000 ≤ n) :
    ∃ h', f_wicketlaw04_SectorPlays_L48 n p7 (w : Int) h = some (.inl ((((w + 1 : Nat) : Int), ()), h')) ∧ Own h' (L ++ F) := by
  obtain ⟨hx, hy, hb, hbk, rfl⟩ := hp
  have hxn := hx.hn
  have hxk := hx.hk
  obtain ⟨⟨q1, i1, l1, _⟩, ⟨q2, i2, l2, z2⟩, _, _⟩ := pcl_ld hw (ho.get (pp, .cells (pcl w x y b.t b.s) false 0) (by simp))
  obtain ⟨sd, sw, RA, RB, es, a1, a2, a3, hL, a5⟩ := hx.hr.own2
  rw [hL] at ho ⊢
  have o0 : Own h ((RA ++ [(x.r, .cells [sd, sw] false 0), (pp, prO w x y b)]) ++ (RB ++ (x.A ++ (y.A ++ (y.B ++ (b.L ++ F)))))) := ho.to fun x => by simp only [prO, cnt_append, cnt_cons, cnt_nil, List.cons_append]; omega
  have l3 : ldT .any h (some ⟨x.r, 0, none⟩) = some sd := by rw [ldT_of (o0.get (x.r, .cells [sd, sw] false 0) (by simp))]; rfl
  have hl : ∀ r, r ∈ strReads sd ++ [x.r, pp] ↔ ∃ z ∈ RA ++ [(x.r, .cells [sd, sw] false 0), (pp, prO w x y b)], z.1 = r := by
    intro r
    rw [List.mem_append, (a1.reads r).1]
    constructor
    · rintro (⟨z, h1, h2⟩ | h1)
      · exact ⟨z, List.mem_append_left _ h1, h2⟩
      · simp only [List.mem_cons, List.not_mem_nil, or_false] at h1
        rcases h1 with rfl | rfl
        · exact ⟨(x.r, .cells [sd, sw] false 0), by simp, rfl⟩
        · exact ⟨(_, prO w x y b), by simp, rfl⟩
    · rintro ⟨z, h1, rfl⟩
      rcases List.mem_append.1 h1 with h1 | h1
      · exact .inl ⟨z, h1, rfl⟩
      · simp only [List.mem_cons, List.not_mem_nil, or_false] at h1
        rcases h1 with rfl | rfl <;> simp
  have o1 := o0.roL hl fun z hz => by
    rcases List.mem_append.1 hz with hz | hz
    · exact (a1.reads 0).2 z hz
    · simp only [List.mem_cons, List.not_mem_nil, or_false] at hz
      rcases hz with rfl | rfl
      · exact ⟨_, _, _, rfl⟩
      · exact ⟨_, _, _, rfl⟩
  have t3 := (a1.rds (h := h) (F := [(x.r, .cells [sd, sw] false 0), (pp, prO w x y b)] ++ (RB ++ (x.A ++ (y.A ++ (y.B ++ (b.L ++ F)))))) (o0.to fun x => by simp only [cnt_append]; omega))
  rw [← iz_flatten] at t3
  have t3 := t3.str
  obtain ⟨s4, h4, A4, e4, a4, o4⟩ := image_ok' (n := n) (sp := none) hx.hd (h := hid h [] (strReads sd ++ [x.r, pp])) (F := (RA ++ [(x.r, .cells [sd, sw] false 0), (pp, prO w x y b)]).map roA ++ (RB ++ (y.A ++ (y.B ++ (b.L ++ F))))) (o1.to fun x => by simp only [cnt_append]; omega) (by omega) (by omega)
  have o5 := Own.backL (h0 := h) (A := RA ++ [(x.r, .cells [sd, sw] false 0), (pp, prO w x y b)]) (X := A4 ++ (x.A ++ (RB ++ (y.A ++ (y.B ++ (b.L ++ F)))))) (l := strReads sd ++ [x.r, pp]) (o4.to fun x => by simp only [cnt_append]; omega) hl (fun z hz => o0.get z (List.mem_append_left _ hz))
  generalize hh5 : h4.putBack h (strReads sd ++ [x.r, pp]) = h5 at o5
  have t5 := (a4.rds (h := h5) (F := RA ++ ([(x.r, .cells [sd, sw] false 0), (pp, prO w x y b)] ++ (RB ++ (x.A ++ (y.A ++ (y.B ++ (b.L ++ F))))))) (o5.to fun x => by simp only [cnt_append]; omega)).str
  obtain ⟨⟨q6, i6, l6, _⟩, ⟨q7, i7, l7, z7⟩, _, _⟩ := pcl_ld hw (o5.get (pp, .cells (pcl w x y b.t b.s) false 0) (by simp [prO]))
  obtain rfl : q6 = q1 := by rw [i1] at i6; exact (Option.some.inj i6).symm
  obtain rfl : q7 = q2 := by rw [i2] at i7; exact (Option.some.inj i7).symm
  have l8 : ldT .any h5 (some ⟨x.r, 1, none⟩) = some sw := by rw [ldT_of (o5.get (x.r, .cells [sd, sw] false 0) (by simp))]; rfl
  have o5' : Own h5 ((x.r, .cells [sd, sw] false 0) :: (pp, .cells (pcl w x y b.t b.s) false 0) :: (RA ++ (RB ++ (x.A ++ (y.A ++ (y.B ++ (b.L ++ F))))))) := o5.to fun x => by simp only [prO, cnt_append, cnt_cons, cnt_nil]; omega
  obtain ⟨s8, h8, es8, W8, e8, b8, c8, o8⟩ := waiting_ok (n := n) (sp := none) hx.hd (h := hid h5 [] [x.r, pp]) (F := (x.r, .cells [sd, sw] true 0) :: (pp, .cells (pcl w x y b.t b.s) true 0) :: (RA ++ (RB ++ (y.A ++ (y.B ++ (b.L ++ F)))))) (o5'.ro2.to fun x => by simp only [cnt_append, cnt_cons]; omega) (by omega) (by omega)
  have o9 := Own.back2 (h0 := h5) (X := W8 ++ (x.A ++ (RA ++ (RB ++ (y.A ++ (y.B ++ (b.L ++ F))))))) (o8.to fun x => by simp only [cnt_append, cnt_cons]; omega) o5'.head (o5'.get (pp, .cells (pcl w x y b.t b.s) false 0) (by simp))
  generalize hh9 : h8.putBack h5 [x.r, pp] = h9 at o9
  have hl8 : es8.length = x.ws.length := by rw [← c8, List.length_map]
  have e9 := sameW_ok (n := n) b8 a2 (h := h9) (F := (x.r, .cells [sd, sw] false 0) :: (pp, .cells (pcl w x y b.t b.s) false 0) :: (x.A ++ (RA ++ (y.A ++ (y.B ++ (b.L ++ F)))))) (o9.to fun x => by simp only [cnt_append, cnt_cons]; omega) (c8.trans a3.symm) (by omega) (by omega)
  refine ⟨h9, ?_, o9.to fun x => by simp only [cnt_append, cnt_cons, List.cons_append]; omega⟩
  have c2 : (w : Int) < 2 := by omega
  simp only [f_wicketlaw04_SectorPlays_L48, c2, decide_true, cond_true, nwA_eq, h7, fa_mk, Nat.zero_add, i1, l1, i2, l2, Option.bind_some, l3, t3, z2, e4, bnd_eq, List.nil_append, hh5, t5, str_eq rfl, cond_false, l6, l7, l8, e8, hh9, e9, Bool.not_true, wrap_succ (show w < 4611686018427387904 by omega)]
theorem sides_ok (hp : PrW 0 pp N k x y b L) (ho : Own h (L ++ F)) (h7 : p7.2.next = pp) (hk : k ≤ 1000) (hN : N ≤ 4096) (hn : 300000 ≤ n) :
    ∃ h', f_wicketlaw04_SectorPlays_C49 n p7 h = some (.inl ((), h')) ∧ Own h' (L ++ F) := by
  obtain ⟨r, e, h', rfl, q1⟩ := loopT_up (f := fun a => f_wicketlaw04_SectorPlays_L48 n p7 a.1.1 a.2)
    (fun j (a : (Int × Unit) × Heap) => a.1.1 = (j : Int) ∧ Own a.2 (L ++ F))
    (fun r => ∃ h', r = .inl ((), h') ∧ Own h' (L ++ F)) (N := 2) (k := n) (j := 0) (a := ((0, ()), h)) (by omega) (by omega)
    ⟨rfl, ho⟩
    (fun j a hj hi => by
      obtain ⟨⟨v, _⟩, h1⟩ := a
      obtain ⟨hv, ho⟩ := hi
      have hv : v = (j : Int) := hv
      subst hv
      have ho : Own h1 (L ++ F) := ho
      have : j = 0 ∨ j = 1 := by omega
      rcases this with rfl | rfl
      · obtain ⟨h2, e2, o2⟩ := side_ok (n := n) hp (by decide) ho h7 hk hN hn
        exact .inl ⟨_, e2, rfl, o2⟩
      · obtain ⟨L1, hp1, hc1⟩ := hp.swap (by decide)
        obtain ⟨h2, e2, o2⟩ := side_ok (n := n) (F := F) hp1 (by decide) (ho.to fun z => by have := hc1 z; simp only [cnt_append]; omega) h7 hk hN hn
        exact .inl ⟨_, e2, rfl, o2.to fun z => by have := hc1 z; simp only [cnt_append]; omega⟩)
    (fun a hi => by
      obtain ⟨⟨v, _⟩, h1⟩ := a
      obtain ⟨hv, ho⟩ := hi
      have hv : v = ((2 : Nat) : Int) := hv
      subst hv
      exact ⟨.inl ((), h1), rfl, h1, rfl, ho⟩)
  exact ⟨h', e, q1⟩
theorem told_ok {w : Nat} (hp : PrW w pp N k x y b L) (hw : w < 2) (ho : Own h (L ++ F)) (h7 : p7.2.next = pp) (hk : k ≤ 1000) (hn : 300000 ≤ n) :
    loopT (fun a => f_wicketlaw04_SectorPlays_L64 n p7 b.bs.length a.1.1 a.2) n (((0 : Int), ()), h) = some ((true, ()), h) := by
  obtain ⟨hx, hy, hb, hbk, rfl⟩ := hp
  obtain ⟨_, _, l4, l5⟩ := pcl_ld hw (ho.get (pp, .cells (pcl w x y b.t b.s) false 0) (by simp))
  have r4 := hb.t.rds (h := h) (F := b.SA ++ (b.bs.flatMap Tb.G ++ ((pp, .cells (pcl w x y b.t b.s) false 0) :: (x.A ++ (x.B ++ (y.A ++ (y.B ++ F))))))) (ho.to fun x => by simp only [Tl.L, cnt_append, cnt_cons, List.cons_append]; omega)
  have r5 := hb.s.rds (h := h) (F := b.TA ++ (b.bs.flatMap Tb.G ++ ((pp, .cells (pcl w x y b.t b.s) false 0) :: (x.A ++ (x.B ++ (y.A ++ (y.B ++ F))))))) (ho.to fun x => by simp only [Tl.L, cnt_append, cnt_cons, List.cons_append]; omega)
  obtain ⟨⟨r, h'⟩, e, q⟩ := loopT_up (f := fun a => f_wicketlaw04_SectorPlays_L64 n p7 b.bs.length a.1.1 a.2)
    (fun j (a : (Int × Unit) × Heap) => a = (((j : Int), ()), h)) (fun r => r = ((true, ()), h)) (N := b.bs.length) (k := n) (j := 0) (a := ((0, ()), h)) (by omega) (by omega) rfl
    (fun j a hj hi => by
      subst hi
      have hlt : (j : Int) < (b.bs.length : Int) := by omega
      obtain ⟨q1, e1, e2⟩ := r4.ix j hj
      obtain ⟨q2, e3, e4⟩ := r5.ix j hj
      have g2 : ldT .any h (some q1) = some b.bs[j].a := by
        have := e2.ldT0 (ty := .any) (v := b.bs[j].a) (by rw [Nat.mul_one, List.getElem?_take, if_pos (by omega), List.getElem?_drop]; simp [hj])
        rw [this]; rfl
      have g4 : ldT .any h (some q2) = some b.bs[j].v := by
        have := e4.ldT0 (ty := .any) (v := b.bs[j].v) (by rw [Nat.mul_one, List.getElem?_take, if_pos (by omega), List.getElem?_drop]; simp [hj])
        rw [this]; rfl
      obtain ⟨a1, a2⟩ := hb.b _ (List.getElem_mem hj)
      have ho' : ∀ z ∈ b.bs[j].A ++ b.bs[j].B, h.get z.1 = some z.2 := fun z hz => ho.get z (by
        simp only [Tl.L, List.mem_append, List.mem_cons, List.cons_append]
        exact .inr (.inl (.inr (.inr (.inr (.inr (.inr (.inr (List.mem_flatMap.2 ⟨_, List.getElem_mem hj, hz⟩)))))))))
      have t1 := (a1.sow h fun z hz => ho' z (List.mem_append_left _ hz)).str
      have t2 := (a2.sow h fun z hz => ho' z (List.mem_append_right _ hz)).str
      exact .inl ⟨_, by simp only [f_wicketlaw04_SectorPlays_L64, hlt, decide_true, cond_true, nwA_eq, h7, fa_mk, Nat.zero_add, l4, l5, Option.bind_some, e1, e3, g2, g4, t1, t2, str_eq rfl, cond_false, wrap_succ (show j < 4611686018427387904 by omega)], rfl⟩)
    (fun a hi => by
      subst hi
      have hlt : ¬ (b.bs.length : Int) < (b.bs.length : Int) := by omega
      exact ⟨_, by simp only [f_wicketlaw04_SectorPlays_L64, hlt, decide_false, cond_false], rfl⟩)
  rw [e, q]

theorem sectorPlays_ok {S : List Sps} {u0 : Int} (hs : Scr S u G) (ho : Own h G) (hn : 140737488955328 ≤ n) : ∃ h', f_wicketlaw04_SectorPlays n u0 u h = some ((true, ()), h') := by
  have aw : f_wicketlaw04_awake n h = some ((true, ()), h) := rfl
  obtain ⟨z, hz, hz2⟩ : ∃ z : Int, ((bif (decide (64 < u0)) then (some (((IntKind.i64.wrap ((Int.tmod u0 64) + 1)), ()), h)) else (some ((u0, ()), h))) : Option ((Int × Unit) × Heap)) = some ((z, ()), h) ∧ z ≤ 64 := by
    by_cases h1 : 64 < u0
    · refine ⟨IntKind.i64.wrap (Int.tmod u0 64 + 1), by simp only [h1, decide_true, cond_true], ?_⟩
      rw [Int.tmod_eq_emod_of_nonneg (by omega), wrap_i64 (by omega) (by omega)]
      omega
    · exact ⟨u0, by simp only [h1, decide_false, cond_false], by omega⟩
  by_cases h1 : z < 1
  · have e1 : f_sector_New n z h = some ((none, (2, ())), h) := by simp [f_sector_New, h1]
    have e2 : f_wicketref04_New n z h = some ((none, (2, ())), h) := by simp [f_wicketref04_New, h1]
    exact ⟨h, by simp only [f_wicketlaw04_SectorPlays, aw, Option.bind_some, Bool.not_true, cond_false, hz, e1, e2, decide_true, Option.isNone_none, cond_true, beq_self_eq_true]⟩
  · obtain ⟨N, rfl⟩ : ∃ N : Nat, z = N := ⟨z.toNat, by omega⟩
    obtain ⟨p, h2, L2, e2, d2, o2⟩ := new_ok (n := n) (N := N) (h := h) (F := G) ho (by omega) (by omega)
    obtain ⟨r, h3, L3, e3, d3, o3⟩ := rnew_ok (n := n) (N := N) (h := h2) (F := L2 ++ G) o2 (by omega) (by omega)
    generalize hD : List.replicate N (List.replicate 64 (0 : Int)) = D at d2 d3
    have hDl : D.length = N := by rw [← hD, List.length_replicate]
    obtain ⟨p', h4, L4, e4, d4, o4⟩ := copy_ok' (n := n) d2 (h := h3) (F := L3 ++ G) (o3.to fun x => by simp only [cnt_append]; omega) (by omega) (by simp)
    obtain ⟨r', h5, L5, e5, d5, o5⟩ := rcopy_ok (n := n) (sp := none) d3 (h := h4) (F := L4 ++ (L2 ++ G)) (o4.to fun x => by simp only [cnt_append]; omega) (by omega) (by simp) (by omega)
    have f6 : fillL [.pointer none, .pointer none] [(0, 1, .pointer (some ⟨p, 0, none⟩)), (1, 1, .pointer (some ⟨p', 0, none⟩))] = some [.pointer (some ⟨p, 0, none⟩), .pointer (some ⟨p', 0, none⟩)] := rfl
    have f7 : fillL [.pointer none, .pointer none] [(0, 1, .pointer (some ⟨r, 0, none⟩)), (1, 1, .pointer (some ⟨r', 0, none⟩))] = some [.pointer (some ⟨r, 0, none⟩), .pointer (some ⟨r', 0, none⟩)] := rfl
    have f8 : fillL [.pointer none, .pointer none, .pointer none, .pointer none, .slice none 0 0, .slice none 0 0] [(0, 2, .agg ⟨[.pointer (some ⟨p, 0, none⟩), .pointer (some ⟨p', 0, none⟩)]⟩), (2, 2, .agg ⟨[.pointer (some ⟨r, 0, none⟩), .pointer (some ⟨r', 0, none⟩)]⟩)] = some [.pointer (some ⟨p, 0, none⟩), .pointer (some ⟨p', 0, none⟩), .pointer (some ⟨r, 0, none⟩), .pointer (some ⟨r', 0, none⟩), .slice none 0 0, .slice none 0 0] := rfl
    have hc : ([.pointer (some ⟨p, 0, none⟩), .pointer (some ⟨p', 0, none⟩), .pointer (some ⟨r, 0, none⟩), .pointer (some ⟨r', 0, none⟩), .slice none 0 0, .slice none 0 0] : List Value).all isCell = true := rfl
    have o6 := o5.new (.cells (pcl 0 ⟨p, r, D, [], L2, L3⟩ ⟨p', r', D, [], L4, L5⟩ (.slice none 0 0) (.slice none 0 0)) false 0)
    generalize hpp : h5.next = pp at o6
    generalize hh6 : h5.new (.cells (pcl 0 ⟨p, r, D, [], L2, L3⟩ ⟨p', r', D, [], L4, L5⟩ (.slice none 0 0) (.slice none 0 0)) false 0) = h6 at o6
    have hpr : PrW 0 pp N 0 ⟨p, r, D, [], L2, L3⟩ ⟨p', r', D, [], L4, L5⟩ ⟨.slice none 0 0, .slice none 0 0, [], [], []⟩ ((pp, .cells (pcl 0 ⟨p, r, D, [], L2, L3⟩ ⟨p', r', D, [], L4, L5⟩ (.slice none 0 0) (.slice none 0 0)) false 0) :: (L2 ++ (L3 ++ (L4 ++ (L5 ++ []))))) :=
      ⟨⟨d2, d3, hDl, Nat.le_refl _⟩, ⟨d4, d5, hDl, Nat.le_refl _⟩, ⟨.nil, .nil, fun _ h => absurd h List.not_mem_nil⟩, Nat.le_refl _, rfl⟩
    have hh6 : h5.new (.cells [.pointer (some ⟨p, 0, none⟩), .pointer (some ⟨p', 0, none⟩), .pointer (some ⟨r, 0, none⟩), .pointer (some ⟨r', 0, none⟩), .slice none 0 0, .slice none 0 0] false 0) = h6 := hh6
    have i6 : ixA 2 1 (some ⟨pp, 0, none⟩) 1 = some ⟨pp, 1, none⟩ := rfl
    have l6 : ldT .ptr h6 (some ⟨pp, 1, none⟩) = some (some ⟨p', 0, none⟩) := by rw [ldT_of o6.head]; rfl
    obtain ⟨h7, x7, y7, b7, L7, e7, p7, o7⟩ := script_ok (n := n) (p7 := ((some ⟨r', 0, none⟩, ()), h5)) hs hpr (h := h6) (F := []) (o6.to fun x => by simp only [cnt_append, cnt_cons, cnt_nil, List.cons_append]; omega) hpp (by omega) (by omega) hn
    obtain ⟨h8, e8, o8⟩ := sides_ok (n := n) (p7 := ((some ⟨r', 0, none⟩, ()), h5)) p7 o7 hpp (by omega) (by omega) (by omega)
    have e9 := told_ok (n := n) (p7 := ((some ⟨r', 0, none⟩, ()), h5)) p7 (by decide) o8 hpp (by omega) (by omega)
    obtain ⟨hx, hy, hb, hbk, rfl⟩ := p7
    obtain ⟨_, _, l8, _⟩ := pcl_ld (by decide) (o8.get (pp, .cells (pcl 0 x7 y7 b7.t b7.s) false 0) (by simp))
    refine ⟨h8, ?_⟩
    simp only [f_wicketlaw04_SectorPlays, aw, Option.bind_some, Bool.not_true, cond_false, hz, e2, e3, decide_true, Option.isNone_some, beq_self_eq_true, e4, f6, e5, f7, f8, hc, cond_true, bnd_eq, nwA_eq, hpp, hh6, fa_mk, Nat.zero_add, i6, l6, e7, thenB_inl, e8, l8, hb.t.lenB, e9]
end
end Go.Proofs.Ytbjipkemgnpifaa

