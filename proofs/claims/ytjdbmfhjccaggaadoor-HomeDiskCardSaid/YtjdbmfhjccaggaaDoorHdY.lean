import Derived.Test.YtjdbmfhjccaggaaDoorHdX
/- What a called function leaves alone; copies. -/
namespace Go.Proofs.YtjdbmfhjccaggaaDoor
open Go
set_option linter.unusedVariables false
set_option linter.unusedSimpArgs false
theorem tys_prj : ∀ {ts : List Ty} {a : Tys.T ts}, Tys.prj ts (Tys.vals ts a) = some a := by
  intro ts
  induction ts with
  | nil => intro a; rfl
  | cons t ts ih =>
    intro a
    show (t.prj (t.val a.1)).bind _ = _
    rw [Ty.prj_of, Option.bind_some]
    show ((Tys.prj ts (Tys.vals ts a.2)).bind _) = _
    rw [ih]; rfl
theorem sf_next {T : Nat → Option AFun} {g : Nat} {ps : List Ty} {rs : Rs} {f : Tys.T ps → Heap → Option (rs.T × Heap)} (hs : Sf1Ok T g (mkSf ps rs f)) {a : Tys.T ps} {h h' : Heap} {x : rs.T} (e : f a h = some (x, h')) : h.next ≤ h'.next := by
  obtain ⟨v, h1, H1, _, hk, _, hst⟩ := hs (Tys.vals ps a) h Heap (fun _ w => some w) h' (by simp only [mkSf, tys_prj, Option.bind_some, e]) h (HLe.refl h)
  cases hk
  exact hst.nx
theorem readCells_take {h : Heap} {r off n k : Nat} {cs : List Value} (e : readCells h r off n = some cs) (hk : k ≤ n) : readCells h r off k = some (cs.take k) := by
  unfold readCells at e ⊢
  split at e
  · simp only [Bool.cond_eq_ite] at e ⊢
    split at e
    · rename_i hle
      have := Nat.le_of_ble_eq_true hle
      cases e
      rw [if_pos (Nat.ble_eq_true_of_le (by omega)), List.take_take, Nat.min_eq_left hk]
    · cases e
  · cases e
theorem copy_new {h : Heap} {b m n es : Nat} {s : Value} {cs ds : List Value} {F : Ch} (hr : Rds h 1 s n cs) (ho : Own h ((b, .cells ds false es) :: F)) (hd : ds.length = m) :
    ∃ h', copyK h 1 (.slice (some ⟨b, 0, some 0⟩) m m) s = some (Nat.min n m, h') ∧ Own h' ((b, .cells (cs.take m ++ ds.drop (Nat.min n m)) false es) :: F) := by
  obtain ⟨a, c, rfl, hsrc⟩ := hr.src
  have hlen := hr.len
  have hmin : Nat.min n m ≤ n := Nat.min_le_left _ _
  have hmin2 : Nat.min n m ≤ m := Nat.min_le_right _ _
  have htk : cs.take (Nat.min n m) = cs.take m := by
    rcases Nat.le_total n m with h1 | h1
    · rw [show Nat.min n m = n from Nat.min_eq_left h1, List.take_of_length_le (by omega), List.take_of_length_le (by omega)]
    · rw [show Nat.min n m = m from Nat.min_eq_right h1]
  have hs2 : srcCells h a (Nat.min n m * 1) = some (cs.take m) := by
    rw [Nat.mul_one]
    cases a with
    | none =>
      have : (some [] : Option (List Value)) = some cs := hsrc
      cases Option.some.inj this
      simp [srcCells]
    | some q =>
      have := readCells_take (k := Nat.min n m) (show readCells h q.block q.off (n * 1) = some cs from hsrc) (by omega)
      rw [htk] at this
      exact this
  have hl2 : (cs.take m).length = Nat.min n m := by rw [← htk, List.length_take]; omega
  have hp : putCells h (some ⟨b, 0, some 0⟩) 0 (cs.take m) = some (h.put b (.cells (writeAt ds 0 (cs.take m)) false es)) := by
    simp only [putCells, writeCells, ho.head, Nat.zero_add, hl2]
    rw [Nat.ble_eq_true_of_le (by omega)]; rfl
  have hw : writeAt ds 0 (cs.take m) = cs.take m ++ ds.drop (Nat.min n m) := by
    rw [writeAt_eq _ _ _ (by rw [hl2]; omega), hl2]; simp
  refine ⟨_, ?_, ho.put _⟩
  simp only [copyK, hs2, Option.bind_some, hp, hw, Option.map_some]
end Go.Proofs.YtjdbmfhjccaggaaDoor
/- The document's side: what may be, what fits, Save, Load, All. -/
namespace Go.Proofs.YtjdbmfhjccaggaaDoor
open Go
set_option linter.unusedVariables false
set_option linter.unusedSimpArgs false
section
variable {n m k p i : Nat} {s u : Value} {L X V v : List Int} {h : Heap} {F G A Lx : Ch} {c : Cf} {z : Int} {cs : List Value} {ds vals : List (List Int)} {ws : List (Int × List Int)}
theorem ok_iff (hl : -9223372036854775808 ≤ c.l ∧ c.l ≤ 9223372036854775807) : c.ok = true ↔ ((1 ≤ c.b ∧ c.b ≤ 64) ∧ (2 ≤ c.l ∧ c.l ≤ 64) ∧ (1 ≤ c.r ∧ c.r ≤ 16 ∧ c.r ≤ c.b ∧ c.r ≤ c.l - 1) ∧ (1 ≤ c.g ∧ c.g ≤ c.l) ∧ (1 ≤ c.c ∧ c.c ≤ 8)) := by
  by_cases he : c.l = -9223372036854775808
  · constructor
    · intro h; have := (Cf.bounds h hl).2.1; omega
    · intro h; omega
  · rw [Cf.ok, wrap_i64 (by omega) (by omega)]
    simp only [wi, Bool.and_eq_true, decide_eq_true_eq]
    obtain ⟨x, hx⟩ : ∃ x, x = (if c.b < 16 then c.b else 16) := ⟨_, rfl⟩
    rw [← hx]
    obtain ⟨y, hy⟩ : ∃ y, y = (if c.l - 1 < x then c.l - 1 else x) := ⟨_, rfl⟩
    rw [← hy]
    have hx' : (c.b < 16 ∧ x = c.b) ∨ (16 ≤ c.b ∧ x = 16) := by
      by_cases h : c.b < 16
      · rw [if_pos h] at hx; exact .inl ⟨h, hx⟩
      · rw [if_neg h] at hx; exact .inr ⟨by omega, hx⟩
    have hy' : (c.l - 1 < x ∧ y = c.l - 1) ∨ (x ≤ c.l - 1 ∧ y = x) := by
      by_cases h : c.l - 1 < x
      · rw [if_pos h] at hy; exact .inl ⟨h, hy⟩
      · rw [if_neg h] at hy; exact .inr ⟨by omega, hy⟩
    constructor
    · intro h; omega
    · intro h; omega
theorem may_ok (hl : -9223372036854775808 ≤ c.l ∧ c.l ≤ 9223372036854775807) (ho : Own h F) : f_r8_May n (.agg ⟨c.cells⟩) h = some ((c.ok, ()), h.new (.cells c.cells false 0)) := by
  have o1 := ho.new (.cells c.cells false 0)
  generalize ht : h.next = t at o1
  generalize hh1 : h.new (.cells c.cells false 0) = h1 at o1 ⊢
  obtain ⟨l0, l1, l2, l3, l4, _⟩ := Cf.ld' o1.head
  have hco : cellsOf (.agg ⟨c.cells⟩) = c.cells := rfl
  have hno : ∀ {q : Prop}, (c.ok = true → q) → ¬ q → c.ok = false := fun h1 h2 => Bool.eq_false_iff.2 fun h => h2 (h1 h)
  have hi := ok_iff hl
  by_cases c0 : c.b < 1
  · rw [hno (fun h => (hi.1 h).1.1) (by omega)]
    simp only [f_r8_May, hco, cf_cell, cond_true, bnd_eq, hh1, nwA_eq, ht, fa_mk, Nat.zero_add, l0, Option.bind_some, c0, decide_true]
  by_cases c1 : 64 < c.b
  · rw [hno (fun h => (hi.1 h).1.2) (by omega)]
    simp only [f_r8_May, hco, cf_cell, cond_true, bnd_eq, hh1, nwA_eq, ht, fa_mk, Nat.zero_add, l0, Option.bind_some, c0, decide_false, cond_false, c1, decide_true]
  by_cases c2 : c.l < 2
  · rw [hno (fun h => (hi.1 h).2.1.1) (by omega)]
    simp only [f_r8_May, hco, cf_cell, cond_true, bnd_eq, hh1, nwA_eq, ht, fa_mk, Nat.zero_add, l0, l1, Option.bind_some, c0, decide_false, cond_false, c1, c2, decide_true]
  by_cases c3 : 64 < c.l
  · rw [hno (fun h => (hi.1 h).2.1.2) (by omega)]
    simp only [f_r8_May, hco, cf_cell, cond_true, bnd_eq, hh1, nwA_eq, ht, fa_mk, Nat.zero_add, l0, l1, Option.bind_some, c0, decide_false, cond_false, c1, c2, c3, decide_true]
  by_cases c4 : c.r < 1
  · rw [hno (fun h => (hi.1 h).2.2.1.1) (by omega)]
    simp only [f_r8_May, hco, cf_cell, cond_true, bnd_eq, hh1, nwA_eq, ht, fa_mk, Nat.zero_add, l0, l1, l2, Option.bind_some, c0, decide_false, cond_false, c1, c2, c3, c4, decide_true]
  by_cases c5 : 16 < c.r
  · rw [hno (fun h => (hi.1 h).2.2.1.2.1) (by omega)]
    simp only [f_r8_May, hco, cf_cell, cond_true, bnd_eq, hh1, nwA_eq, ht, fa_mk, Nat.zero_add, l0, l1, l2, Option.bind_some, c0, decide_false, cond_false, c1, c2, c3, c4, c5, decide_true]
  by_cases c6 : c.b < c.r
  · rw [hno (fun h => (hi.1 h).2.2.1.2.2.1) (by omega)]
    simp only [f_r8_May, hco, cf_cell, cond_true, bnd_eq, hh1, nwA_eq, ht, fa_mk, Nat.zero_add, l0, l1, l2, Option.bind_some, c0, decide_false, cond_false, c1, c2, c3, c4, c5, c6, decide_true]
  have w7 : IntKind.i64.wrap (c.l - 1) = c.l - 1 := wrap_i64 (by omega) (by omega)
  by_cases c7 : c.l - 1 < c.r
  · rw [hno (fun h => (hi.1 h).2.2.1.2.2.2) (by omega)]
    simp only [f_r8_May, hco, cf_cell, cond_true, bnd_eq, hh1, nwA_eq, ht, fa_mk, Nat.zero_add, l0, l1, l2, Option.bind_some, c0, decide_false, cond_false, c1, c2, c3, c4, c5, c6, w7, c7, decide_true]
  by_cases c8 : 1 ≤ c.g
  · by_cases c9 : c.g ≤ c.l
    · by_cases c10 : 1 ≤ c.c
      · have : c.ok = decide (c.c ≤ 8) := by
          by_cases c11 : c.c ≤ 8
          · rw [decide_eq_true c11]; exact hi.2 (by omega)
          · rw [decide_eq_false c11]; exact hno (fun h => (hi.1 h).2.2.2.2.2) (by omega)
        rw [this]
        simp only [f_r8_May, hco, cf_cell, cond_true, bnd_eq, hh1, nwA_eq, ht, fa_mk, Nat.zero_add, l0, l1, l2, l3, l4, Option.bind_some, c0, decide_false, cond_false, c1, c2, c3, c4, c5, c6, w7, c7, c8, c9, c10, decide_true]
      · rw [hno (fun h => (hi.1 h).2.2.2.2.1) (by omega)]
        simp only [f_r8_May, hco, cf_cell, cond_true, bnd_eq, hh1, nwA_eq, ht, fa_mk, Nat.zero_add, l0, l1, l2, l3, l4, Option.bind_some, c0, decide_false, cond_false, c1, c2, c3, c4, c5, c6, w7, c7, c8, c9, c10, decide_true]
    · rw [hno (fun h => (hi.1 h).2.2.2.1.2) (by omega)]
      simp only [f_r8_May, hco, cf_cell, cond_true, bnd_eq, hh1, nwA_eq, ht, fa_mk, Nat.zero_add, l0, l1, l2, l3, l4, Option.bind_some, c0, decide_false, cond_false, c1, c2, c3, c4, c5, c6, w7, c7, c8, c9, decide_true]
  · rw [hno (fun h => (hi.1 h).2.2.2.1.1) (by omega)]
    simp only [f_r8_May, hco, cf_cell, cond_true, bnd_eq, hh1, nwA_eq, ht, fa_mk, Nat.zero_add, l0, l1, l2, l3, l4, Option.bind_some, c0, decide_false, cond_false, c1, c2, c3, c4, c5, c6, w7, c7, c8, decide_true]
theorem rfits_ok (hd : Rd' p ds ws Lx) (hN : ds.length ≤ 4096) (hw : c.wf) (ho : Own h (Lx ++ F)) : ∃ h', f_r8_fits n (some ⟨p, 0, none⟩) (.agg ⟨c.cells⟩) h = some ((fitE c ds.length, ()), h') ∧ Own h' (Lx ++ F) := by
  have o1 := ho.new (.cells c.cells false 0)
  generalize ht : h.next = t at o1
  generalize hh1 : h.new (.cells c.cells false 0) = h1 at o1
  obtain ⟨_, _, _, _, _, l5⟩ := Cf.ld' (c := c) o1.head
  have e2 := may_ok (n := n) (c := c) hw.2.1 o1
  have o2 := o1.new (.cells c.cells false 0)
  generalize hh2 : h1.new (.cells c.cells false 0) = h2 at e2 o2
  have hco : cellsOf (.agg ⟨c.cells⟩) = c.cells := rfl
  rcases Bool.eq_false_or_eq_true c.ok with hk | hk
  · obtain ⟨⟨b1, b2⟩, ⟨b3, b4⟩, _⟩ := Cf.bounds hk hw.2.1
    rw [hk] at e2
    obtain ⟨l0, l1, _⟩ := Cf.ld' (c := c) (o2.get (t, .cells c.cells false 0) (by simp))
    have o3 : Own h2 ((t, .cells c.cells false 0) :: (Lx ++ F)) := o2.tail
    have o4 := roA1 o3
    have e5 := rlen_ok (n := n) (sp := none) hd (h := hid h2 [] [t, t]) (F := (t, .cells c.cells true 0) :: F) (o4.to fun x => by simp only [cnt_append, cnt_cons]; omega) hN
    have o6 := backA1 (h0 := h2) (q := false) o4 o3.head
    generalize hh6 : (hid h2 [] [t, t]).putBack h2 [t, t] = h6 at o6
    have hwr : IntKind.i64.wrap (IntKind.i64.wrap (1 + c.b) + c.l) = 1 + c.b + c.l := by
      have w0 : IntKind.i64.wrap (1 + c.b) = 1 + c.b := wrap_i64 (by omega) (by omega)
      rw [w0, wrap_i64 (by omega) (by omega)]
    refine ⟨h6, ?_, o6.tail⟩
    by_cases hn : (ds.length : Int) = 1 + c.b + c.l
    · rw [fitE, if_pos hk, if_pos hn]
      simp only [f_r8_fits, hco, cf_cell, cond_true, bnd_eq, hh1, Option.isNone_some, cond_false, nwA_eq, ht, l5, e2, Option.bind_some, decide_true, Bool.not_true, fa_mk, Nat.zero_add, l0, l1, e5, List.nil_append, hh6, hwr, hn]
    · rw [fitE, if_pos hk, if_neg hn]
      simp only [f_r8_fits, hco, cf_cell, cond_true, bnd_eq, hh1, Option.isNone_some, cond_false, nwA_eq, ht, l5, e2, Option.bind_some, decide_true, Bool.not_true, fa_mk, Nat.zero_add, l0, l1, e5, List.nil_append, hh6, hwr, hn, decide_false, Bool.not_false]
  · rw [hk] at e2
    rw [fitE, hk, if_neg (by simp)]
    refine ⟨h2, ?_, o2.tail.tail⟩
    simp only [f_r8_fits, hco, cf_cell, cond_true, bnd_eq, hh1, Option.isNone_some, cond_false, nwA_eq, ht, l5, e2, Option.bind_some, Bool.not_false]
theorem rsave_ok (hd : Rd' p ds ws Lx) (hN : ds.length ≤ 4096) (hcw : c.wf) (hv : v.length = 32) (hb : Byt v) (ho : Own h (Lx ++ F)) (hW : ws.length ≤ 1000) (hn : 2000 ≤ n) :
    ∃ h' Lx', f_r8_Save n (some ⟨p, 0, none⟩) (.agg ⟨c.cells⟩) z (.agg ⟨iz .u8 v⟩) h = some ((hasE c ds.length z, ()), h') ∧ Rd' p ds (svW c ds.length ws z v) Lx' ∧ Own h' (Lx' ++ F) := by
  have o1 := ho.new (.cells c.cells false 0)
  generalize ht : h.next = t at o1
  generalize hh1 : h.new (.cells c.cells false 0) = h1 at o1
  have o2 := o1.new (.cells (iz .u8 v) false 0)
  generalize ht2 : h1.next = t2 at o2
  generalize hh2 : h1.new (.cells (iz .u8 v) false 0) = h2 at o2
  obtain ⟨_, _, _, _, _, l5⟩ := Cf.ld' (c := c) (o2.get (t, .cells c.cells false 0) (by simp))
  obtain ⟨h3, e3, o3⟩ := rfits_ok (n := n) (c := c) hd hN hcw (h := h2) (F := (t2, .cells (iz .u8 v) false 0) :: (t, .cells c.cells false 0) :: F) (o2.to fun x => by simp only [cnt_append, cnt_cons]; omega)
  obtain ⟨l0, _⟩ := Cf.ld' (c := c) (o3.get (t, .cells c.cells false 0) (by simp))
  have hco : cellsOf (.agg ⟨c.cells⟩) = c.cells := rfl
  have hcv : cellsOf (.agg ⟨iz .u8 v⟩) = iz .u8 v := rfl
  by_cases hf : fitE c ds.length = 0
  · obtain ⟨_, hnn, hbb, hlb⟩ := fit_b hcw hf
    rw [hf] at e3
    by_cases hz0 : z < 0
    · have hz : ¬ hasE c ds.length z = 0 := fun h => by have := (has_b hcw h).2; omega
      rw [svW, if_neg hz, hasE, if_pos hf, if_neg (by omega)]
      refine ⟨h3, Lx, ?_, hd, o3.to fun x => by simp only [cnt_append, cnt_cons]; omega⟩
      simp only [f_r8_Save, hco, cf_cell, hcv, iz_cell, cond_true, bnd_eq, hh1, hh2, nwA_eq, ht, l5, e3, Option.bind_some, decide_true, Bool.not_true, cond_false, hz0]
    · by_cases hz1 : c.b ≤ z
      · have hz : ¬ hasE c ds.length z = 0 := fun h => by have := (has_b hcw h).2; omega
        rw [svW, if_neg hz, hasE, if_pos hf, if_neg (by omega)]
        refine ⟨h3, Lx, ?_, hd, o3.to fun x => by simp only [cnt_append, cnt_cons]; omega⟩
        simp only [f_r8_Save, hco, cf_cell, hcv, iz_cell, cond_true, bnd_eq, hh1, hh2, nwA_eq, ht, l5, e3, Option.bind_some, decide_true, Bool.not_true, cond_false, hz0, decide_false, fa_mk, Nat.zero_add, l0, hz1]
      · have hz : hasE c ds.length z = 0 := by rw [hasE, if_pos hf, if_pos (by omega)]
        rw [hz, svW, if_pos hz]
        have l4 := arr_ld (o3.get (t2, .cells (iz .u8 v) false 0) (by simp)) hv
        obtain ⟨s5, h5, A5, e5, a5, o5⟩ := rencode_ok (n := n) (z := z) (V := v) (by omega) (by omega) hv hb o3 hn
        have w6 : IntKind.i64.wrap (1 + z) = 1 + z := wrap_i64 (by omega) (by omega)
        obtain ⟨h6, L6, e6, d6, o6⟩ := rwrite_ok (n := n) (sp := none) hd (u := s5) (X := enc z v) (z := 1 + z) (G := A5) (h := h5) (F := (t2, .cells (iz .u8 v) false 0) :: (t, .cells c.cells false 0) :: F) a5.sow (o5.to fun x => by simp only [cnt_append, cnt_cons]; omega) hN (by omega) (by omega) hW
        refine ⟨h6, L6, ?_, d6, o6.to fun x => by simp only [cnt_append, cnt_cons]; omega⟩
        simp only [f_r8_Save, hco, cf_cell, hcv, iz_cell, cond_true, bnd_eq, hh1, ht2, hh2, nwA_eq, ht, l5, e3, Option.bind_some, decide_true, Bool.not_true, cond_false, hz0, decide_false, fa_mk, Nat.zero_add, l0, hz1, l4, e5, w6, e6]
  · have hz : ¬ hasE c ds.length z = 0 := fun h => hf (has_b hcw h).1
    rw [svW, if_neg hz, hasE, if_neg hf]
    have hd0 : decide (fitE c ds.length = 0) = false := decide_eq_false hf
    refine ⟨h3, Lx, ?_, hd, o3.to fun x => by simp only [cnt_append, cnt_cons]; omega⟩
    simp only [f_r8_Save, hco, cf_cell, hcv, iz_cell, cond_true, bnd_eq, hh1, hh2, nwA_eq, ht, l5, e3, Option.bind_some, hd0, Bool.not_false]
theorem rload_home (hd : Rd' p ds ws Lx) (hN : ds.length ≤ 4096) (hcw : c.wf) (hB : Byts ds ws) (ho : Own h (Lx ++ F)) (hW : ws.length ≤ 1000) (hn : 2000 ≤ n) :
    ∃ h', f_r8_Load n (some ⟨p, 0, none⟩) (.agg ⟨c.cells⟩) z h = some ((.agg ⟨iz .u8 (ldV c ds ws z)⟩, (ldE c ds ws z, ())), h') ∧ Own h' (Lx ++ F) := by
  have o1 := ho.new (.cells c.cells false 0)
  generalize ht : h.next = t at o1
  generalize hh1 : h.new (.cells c.cells false 0) = h1 at o1
  have o2 := o1.new (.cells z32' false 0)
  generalize ht2 : h1.next = t2 at o2
  generalize hh2 : h1.new (.cells z32' false 0) = h2 at o2
  obtain ⟨_, _, _, _, _, l5⟩ := Cf.ld' (c := c) (o2.get (t, .cells c.cells false 0) (by simp))
  obtain ⟨h3, e3, o3⟩ := rfits_ok (n := n) (c := c) hd hN hcw (h := h2) (F := (t2, .cells z32' false 0) :: (t, .cells c.cells false 0) :: F) (o2.to fun x => by simp only [cnt_append, cnt_cons]; omega)
  obtain ⟨l0, _⟩ := Cf.ld' (c := c) (o3.get (t, .cells c.cells false 0) (by simp))
  have hco : cellsOf (.agg ⟨c.cells⟩) = c.cells := rfl
  have hzz : List.replicate 32 (Value.int .u8 0) = z32' := rfl
  have f0 : fillL z32' [] = some (iz .u8 (List.replicate 32 0)) := rfl
  have o3' : Own h3 ((t2, .cells z32' false 0) :: (Lx ++ F)) := o3.to fun x => by simp only [cnt_append, cnt_cons]; omega
  obtain ⟨h9, s9, o9, l9⟩ := tmp32 (w := List.replicate 32 0) o3' (by decide) (by simp)
  by_cases hf : fitE c ds.length = 0
  · obtain ⟨_, hnn, hbb, hlb⟩ := fit_b hcw hf
    rw [hf] at e3
    by_cases hz0 : z < 0
    · have hz : ¬ hasE c ds.length z = 0 := fun h => by have := (has_b hcw h).2; omega
      rw [ldV, ldE, if_neg hz, if_neg hz, hasE, if_pos hf, if_neg (by omega)]
      refine ⟨h9, ?_, o9.tail⟩
      simp only [f_r8_Load, hco, cf_cell, cond_true, bnd_eq, hh1, hzz, ht2, hh2, nwA_eq, ht, l5, e3, Option.bind_some, decide_true, Bool.not_true, cond_false, hz0, f0, s9, l9]
    · by_cases hz1 : c.b ≤ z
      · have hz : ¬ hasE c ds.length z = 0 := fun h => by have := (has_b hcw h).2; omega
        rw [ldV, ldE, if_neg hz, if_neg hz, hasE, if_pos hf, if_neg (by omega)]
        refine ⟨h9, ?_, o9.tail⟩
        simp only [f_r8_Load, hco, cf_cell, cond_true, bnd_eq, hh1, hzz, ht2, hh2, nwA_eq, ht, l5, e3, Option.bind_some, decide_true, Bool.not_true, cond_false, hz0, decide_false, fa_mk, Nat.zero_add, l0, hz1, f0, s9, l9]
      · have hz : hasE c ds.length z = 0 := by rw [hasE, if_pos hf, if_pos (by omega)]
        rw [ldV, ldE, if_pos hz, if_pos hz]
        have w6 : IntKind.i64.wrap (1 + z) = (((1 + z).toNat : Nat) : Int) := by rw [wrap_i64 (by omega) (by omega)]; omega
        have hlt : (1 + z).toNat < ds.length := by omega
        obtain ⟨s7, h7, A7, e7, a7, o7⟩ := rread_ok (n := n) (sp := none) hd (i := (1 + z).toNat) (h := h3) o3 hN hlt hW hn
        have hsec : rdv ws (((1 + z).toNat : Nat) : Int) ds[(1 + z).toNat] = sec ds ws z := by
          rw [sec, List.getD_eq_getElem?_getD, List.getElem?_eq_getElem hlt]
          congr 1; omega
        rw [hsec] at a7
        have hsl := sec_len hd.okd (z := z) hlt
        have hsb := sec_byt hB (z := z)
        generalize sec ds ws z = R at a7 hsl hsb
        obtain ⟨h8, e8, o8⟩ := rdecode_z (n := n) (z := z) (B := R) (s := s7) (G := A7) hsb (by rw [hsl]; exact a7.sow) (h := h7) (F := Lx ++ ((t2, .cells z32' false 0) :: (t, .cells c.cells false 0) :: F)) o7 hn
        rw [deV, deE, if_pos (by omega), if_pos (by omega)] at e8
        have o8' : Own h8 ((t2, .cells z32' false 0) :: (Lx ++ F)) := o8.to fun x => by simp only [cnt_append, cnt_cons]; omega
        obtain ⟨h9, s9, o9, l9⟩ := tmp32 (w := decV z R) o8' (by decide) decV_len
        refine ⟨h9, ?_, o9.tail⟩
        simp only [f_r8_Load, hco, cf_cell, cond_true, bnd_eq, hh1, hzz, ht2, hh2, nwA_eq, ht, l5, e3, Option.bind_some, decide_true, Bool.not_true, cond_false, hz0, decide_false, fa_mk, Nat.zero_add, l0, hz1, w6, e7, e8, s9, l9]
  · have hz : ¬ hasE c ds.length z = 0 := fun h => hf (has_b hcw h).1
    rw [ldV, ldE, if_neg hz, if_neg hz, hasE, if_neg hf]
    have hd0 : decide (fitE c ds.length = 0) = false := decide_eq_false hf
    refine ⟨h9, ?_, o9.tail⟩
    simp only [f_r8_Load, hco, cf_cell, cond_true, bnd_eq, hh1, hzz, ht2, hh2, nwA_eq, ht, l5, e3, Option.bind_some, hd0, Bool.not_false, f0, s9, l9]
theorem rall_home (hd : Rd' p ds ws Lx) (hN : ds.length ≤ 4096) (hcw : c.wf) (hB : Byts ds ws) (ho : Own h (Lx ++ F)) (hW : ws.length ≤ 1000) (hn : 2000 ≤ n) :
    ∃ s h' A, f_r8_All n (some ⟨p, 0, none⟩) (.agg ⟨c.cells⟩) h = some ((s, (alE c ds ws, ())), h') ∧ Slc 32 s (alV c ds ws).length ((alV c ds ws).flatMap (iz .u8)) A ∧ Own h' (A ++ (Lx ++ F)) := by
  have o1 := ho.new (.cells c.cells false 0)
  generalize ht : h.next = t at o1
  generalize hh1 : h.new (.cells c.cells false 0) = h1 at o1
  obtain ⟨_, _, _, _, _, l5⟩ := Cf.ld' (c := c) o1.head
  obtain ⟨h2, e2, o2⟩ := rfits_ok (n := n) (c := c) hd hN hcw (h := h1) (F := (t, .cells c.cells false 0) :: F) (o1.to fun x => by simp only [cnt_append, cnt_cons]; omega)
  have hco : cellsOf (.agg ⟨c.cells⟩) = c.cells := rfl
  by_cases hf : fitE c ds.length = 0
  · obtain ⟨_, hnn, hbb, hlb⟩ := fit_b hcw hf
    obtain ⟨nb, hnb⟩ : ∃ x : Nat, c.b = x := ⟨c.b.toNat, by omega⟩
    have htn : c.b.toNat = nb := by omega
    rw [hf] at e2
    obtain ⟨r, e, q⟩ := loopT_up (f := fun a => f_r8_All_L16 n h (some ⟨p, 0, none⟩) a.1.1 a.1.2.1 a.2)
      (fun j (a : (Value × Int × Unit) × Heap) => a.1.2.1 = (j : Int) ∧ fsE c ds ws j = 0 ∧ ∃ A, Slc 32 a.1.1 j ((vls c ds ws j).flatMap (iz .u8)) A ∧ Own a.2 (A ++ (Lx ++ ((t, .cells c.cells false 0) :: F))))
      (fun r => (fsE c ds ws nb = 0 ∧ ∃ s' h' A, r = .inl ((s', ()), h') ∧ Slc 32 s' nb ((vls c ds ws nb).flatMap (iz .u8)) A ∧ Own h' (A ++ (Lx ++ ((t, .cells c.cells false 0) :: F)))) ∨
        (fsE c ds ws nb ≠ 0 ∧ ∃ h', r = .inr ((.slice none 0 0, (fsE c ds ws nb, ())), h') ∧ Own h' (Lx ++ ((t, .cells c.cells false 0) :: F)))) (N := nb) (k := n) (j := 0) (a := ((.slice none 0 0, (0, ())), h2)) (by omega) (by omega)
      ⟨rfl, rfl, [], .nil, o2⟩
      (fun j a hj hi => by
        obtain ⟨⟨v0, i0, _⟩, hq⟩ := a
        obtain ⟨e0, i0', A, i1, i2⟩ := hi
        have e0 : i0 = (j : Int) := e0
        subst e0
        have i1 : Slc 32 v0 j _ A := i1
        have i2 : Own hq _ := i2
        have hlt : (j : Int) < c.b := by omega
        obtain ⟨l0, _, _, _, _, l8⟩ := Cf.ld' (c := c) (i2.get (t, .cells c.cells false 0) (by simp))
        obtain ⟨h9, e9, o9⟩ := rload_home (n := n) (z := (j : Int)) (c := c) hd hN hcw hB (h := hq) (F := A ++ ((t, .cells c.cells false 0) :: F)) (i2.to fun x => by simp only [cnt_append, cnt_cons]; omega) hW hn
        have hvl := ldV_len (c := c) (ds := ds) (ws := ws) (z := (j : Int))
        have hfs : fsE c ds ws (j + 1) = ldE c ds ws (j : Int) := by rw [fsE, if_pos i0']
        obtain ⟨h10, e10, o10⟩ := arr_tmp o9 hvl
        generalize hb10 : h9.next = t10 at e10 o10
        generalize hh10 : h9.new (.cells z32' false 0) = h10' at e10
        have hz : List.replicate 32 (Value.int .u8 0) = z32' := rfl
        by_cases he : ldE c ds ws (j : Int) = 0
        · have l12 := arr_ld o10.head hvl
          have o12 := o10.new (.cells (iz .u8 (ldV c ds ws (j : Int))) false 32)
          generalize hb12 : h10.next = t12 at o12
          generalize hh12 : h10.new (.cells (iz .u8 (ldV c ds ws (j : Int))) false 32) = h12 at o12
          obtain ⟨s14, h14, A14, e14, a14, o14⟩ := i1.push (new := iz .u8 (ldV c ds ws (j : Int))) (h := h10) (F := (t10, .cells (iz .u8 (ldV c ds ws (j : Int))) false 0) :: (Lx ++ ((t, .cells c.cells false 0) :: F))) (o10.to fun x => by simp only [cnt_append, cnt_cons]; omega) (by decide) (by simp; omega) (bytes := 32) (by omega)
          rw [he] at e9
          rw [hb12, hh12] at e14
          refine .inl ⟨((s14, (((j + 1 : Nat) : Int), ())), h14), ?_, rfl, by rw [hfs, he], A14, ?_, o14.to fun x => by simp only [cnt_append, cnt_cons]; omega⟩
          · simp only [f_r8_All_L16, nwA_eq, ht, fa_mk, Nat.zero_add, l0, hlt, decide_true, cond_true, l8, Option.bind_some, e9, bnd_eq, hz, hb10, hh10, e10, Bool.not_true, cond_false, l12, fill32 hvl, hb12, hh12, e14, wrap_succ (show j < 4611686018427387904 by omega)]
          · rw [vls_snoc, List.flatMap_append]; simpa using a14
        · have hd0 : decide (ldE c ds ws (j : Int) = 0) = false := decide_eq_false he
          have hfn : fsE c ds ws nb = ldE c ds ws (j : Int) := by
            rw [fsE_ne (j := j + 1) (by rw [hfs]; exact he) (by omega), hfs]
          refine .inr ⟨.inr ((.slice none 0 0, (ldE c ds ws (j : Int), ())), h10), ?_, .inr ⟨by rw [hfn]; exact he, h10, by rw [hfn], o10.to fun x => by simp only [cnt_append, cnt_cons]; omega⟩⟩
          simp only [f_r8_All_L16, nwA_eq, ht, fa_mk, Nat.zero_add, l0, hlt, decide_true, cond_true, l8, Option.bind_some, e9, bnd_eq, hz, hb10, hh10, e10, hd0, Bool.not_false])
      (fun a hi => by
        obtain ⟨⟨v0, i0, _⟩, hq⟩ := a
        obtain ⟨e0, i0', A, i1, i2⟩ := hi
        have e0 : i0 = (nb : Int) := e0
        subst e0
        have i2 : Own hq _ := i2
        have hlt : ¬ (nb : Int) < c.b := by omega
        obtain ⟨l0, _⟩ := Cf.ld' (c := c) (i2.get (t, .cells c.cells false 0) (by simp))
        exact ⟨.inl ((v0, ()), hq), by simp only [f_r8_All_L16, nwA_eq, ht, fa_mk, Nat.zero_add, l0, Option.bind_some, hlt, decide_false, cond_false], .inl ⟨i0', v0, hq, A, rfl, i1, i2⟩⟩)
    have e' : f_r8_All_C17 n h (some ⟨p, 0, none⟩) h2 = some r := by
      simp only [f_r8_All_C17]
      exact e
    rcases q with ⟨hE, s', h', A, rfl, a3, o3⟩ | ⟨hE, h', rfl, o3⟩
    · have hal : alE c ds ws = 0 := by rw [alE, if_pos hf, htn, hE]
      have hav : alV c ds ws = vls c ds ws nb := by rw [alV, if_pos hal, htn]; rfl
      rw [hal, hav, vls_len]
      refine ⟨s', h', A, ?_, a3, o3.to fun x => by simp only [cnt_append, cnt_cons]; omega⟩
      simp only [f_r8_All, hco, cf_cell, cond_true, bnd_eq, hh1, nwA_eq, ht, l5, e2, Option.bind_some, decide_true, Bool.not_true, cond_false, e', thenB_inl, a3.notT, Bool.not_false]
    · have hal : alE c ds ws = fsE c ds ws nb := by rw [alE, if_pos hf, htn]
      have hav : alV c ds ws = [] := by rw [alV, if_neg (by rw [hal]; exact hE)]
      rw [hal, hav]
      refine ⟨.slice none 0 0, h', [], ?_, .nil, o3.to fun x => by simp only [cnt_append, cnt_cons, cnt_nil]; omega⟩
      simp only [f_r8_All, hco, cf_cell, cond_true, bnd_eq, hh1, nwA_eq, ht, l5, e2, Option.bind_some, decide_true, Bool.not_true, cond_false, e', thenB_inr]
  · have hal : alE c ds ws = fitE c ds.length := by rw [alE, if_neg hf]
    have hav : alV c ds ws = [] := by rw [alV, if_neg (by rw [hal]; exact hf)]
    have hd0 : decide (fitE c ds.length = 0) = false := decide_eq_false hf
    rw [hal, hav]
    refine ⟨.slice none 0 0, h2, [], ?_, .nil, o2.to fun x => by simp only [cnt_append, cnt_cons, cnt_nil]; omega⟩
    simp only [f_r8_All, hco, cf_cell, cond_true, bnd_eq, hh1, nwA_eq, ht, l5, e2, Option.bind_some, hd0, Bool.not_false]
end
end Go.Proofs.YtjdbmfhjccaggaaDoor
/- New disks on both sides; the same values. -/
namespace Go.Proofs.YtjdbmfhjccaggaaDoor
open Go
set_option linter.unusedVariables false
set_option linter.unusedSimpArgs false
section
variable {n m k p i : Nat} {s u : Value} {L X V v : List Int} {h : Heap} {F G A Lx : Ch} {c : Cf} {z : Int} {cs : List Value} {ds vals : List (List Int)} {ws : List (Int × List Int)}
theorem supH_len : (supH c).length = 60 := by simp [supH, le_len]
theorem supB_len : (supB c).length = 64 := by rw [supB, List.length_append, supH_len, le_len]
def z0v : List Int := List.replicate 32 0
theorem z0v_len : z0v.length = 32 := List.length_replicate ..
theorem z0v_byt : Byt z0v := byt_zeros
def secs (X : List Int) (j : Nat) : List (List Int) := X :: (List.range j).map fun (i : Nat) => enc (i : Int) z0v
theorem secs_snoc {j : Nat} : (secs X (j + 1)).flatten = (secs X j).flatten ++ enc (j : Int) z0v := by
  simp [secs, List.range_succ]
theorem secs_len {j : Nat} (hX : X.length = 64) : (secs X j).flatten.length = 64 * (1 + j) := by
  induction j with
  | zero => simp [secs, hX]
  | succ j ih => rw [secs_snoc, List.length_append, ih, enc_len z0v_len]; omega
def dsN (c : Cf) : List (List Int) := secs (supB c) c.b.toNat ++ List.replicate c.l.toNat (List.replicate 64 (0 : Int))
theorem new_bad (hk : c.ok = false) (ho : Own h F) : ∃ h', f_home_New n (.agg ⟨c.cells⟩) h = some ((none, (3, ())), h') ∧ Own h' F := by
  have o1 := ho.new (.cells c.cells false 0)
  generalize ht : h.next = t at o1
  generalize hh1 : h.new (.cells c.cells false 0) = h1 at o1
  obtain ⟨_, _, _, _, _, l5⟩ := Cf.ld' (c := c) o1.head
  obtain ⟨h2, e2, o2⟩ := sencode_bad (n := n) o1 hk
  have hco : cellsOf (.agg ⟨c.cells⟩) = c.cells := rfl
  have f1 : fillL [.int .i64 0, .int .i64 0, .int .i64 0, .int .i64 0, .int .i64 0, .int .u64 0, .int .u64 0] [(0, 5, .agg ⟨c.cells⟩), (6, 1, .int .u64 1)] = some c.sup := rfl
  exact ⟨h2, by simp only [f_home_New, hco, cf_cell, cond_true, bnd_eq, hh1, nwA_eq, ht, l5, f1, e2, Option.bind_some, show (decide ((3 : Int) = 0)) = false from rfl, Bool.not_false], o2.tail⟩
theorem new_home (hk : c.ok = true) (hl : -9223372036854775808 ≤ c.l ∧ c.l ≤ 9223372036854775807) (hm0 : tabO ∈ F) (hm1 : tabP ∈ F) (ho : Own h F) (hn : 5000 ≤ n) :
    ∃ p h' Lx, f_home_New n (.agg ⟨c.cells⟩) h = some ((some ⟨p, 0, none⟩, (0, ())), h') ∧ Dk p (dsN c) [] Lx ∧ Own h' (Lx ++ F) := by
  obtain ⟨⟨b1, b2⟩, ⟨b3, b4⟩, _⟩ := Cf.bounds hk hl
  obtain ⟨nb, hnb⟩ : ∃ x : Nat, c.b = x := ⟨c.b.toNat, by omega⟩
  obtain ⟨nl, hnl⟩ : ∃ x : Nat, c.l = x := ⟨c.l.toNat, by omega⟩
  have o1 := ho.new (.cells c.cells false 0)
  generalize ht : h.next = t at o1
  generalize hh1 : h.new (.cells c.cells false 0) = h1 at o1
  obtain ⟨_, _, _, _, _, l5⟩ := Cf.ld' (c := c) o1.head
  obtain ⟨s2, h2, A2, e2, a2, o2⟩ := sencode_ok (n := n) hk hl (List.mem_cons_of_mem _ hm0) (List.mem_cons_of_mem _ hm1) o1 (by omega)
  obtain ⟨l0, _⟩ := Cf.ld' (c := c) (o2.get (t, .cells c.cells false 0) (by simp))
  rw [hnb] at l0
  have hX := supB_len (c := c)
  obtain ⟨X, hXe⟩ : ∃ X, X = supB c := ⟨_, rfl⟩
  rw [← hXe] at a2 hX
  obtain ⟨r, e3, s3, h3, rfl, A3, a3, o3⟩ := loopT_up (f := fun a => f_home_New_L14 n (nb : Int) a.1.1 a.1.2.1 a.2)
    (fun j (a : (Value × Int × Unit) × Heap) => a.1.2.1 = (j : Int) ∧ ∃ A, Slc 1 a.1.1 (secs X j).flatten.length (iz .u8 (secs X j).flatten) A ∧ Own a.2 (A ++ ((t, .cells c.cells false 0) :: F)))
    (fun r => ∃ s' h', r = .inl ((s', ()), h') ∧ ∃ A, Slc 1 s' (secs X nb).flatten.length (iz .u8 (secs X nb).flatten) A ∧ Own h' (A ++ ((t, .cells c.cells false 0) :: F))) (N := nb) (k := n) (j := 0) (a := ((s2, (0, ())), h2)) (by omega) (by omega)
    ⟨rfl, A2, by simpa [secs, hX] using a2, o2⟩
    (fun j a hj hi => by
      obtain ⟨⟨v, i0, _⟩, hq⟩ := a
      obtain ⟨e0, A, i1, i2⟩ := hi
      have e0 : i0 = (j : Int) := e0
      subst e0
      have i1 : Slc 1 v _ _ A := i1
      have i2 : Own hq _ := i2
      have hlt : (j : Int) < (nb : Int) := by omega
      have f9 : fillL (List.replicate 32 (.int .u8 0)) [] = some (iz .u8 z0v) := rfl
      obtain ⟨s4, h4, A4, e4, a4, o4⟩ := encode_ok (n := n) (k := (j : Int)) (V := z0v) (by omega) (by omega) z0v_len z0v_byt (List.mem_append_right _ (List.mem_cons_of_mem _ hm0)) i2 (by omega)
      have hel := enc_len (k := (j : Int)) z0v_len
      have hsl := secs_len (j := j) hX
      have o5 := o4.new (.cells [v, s4] false 1)
      generalize hb5 : h4.next = t5 at o5
      generalize hh5 : h4.new (.cells [v, s4] false 1) = h5 at o5
      obtain ⟨s6, h6, A6, e6, a6, o6⟩ := join_ok (n := n) (P := [(v, (secs X j).flatten), (s4, enc (j : Int) z0v)]) (u := .slice (some ⟨t5, 0, some 0⟩) 2 2)
        (G := (t5, .cells [v, s4] false 1) :: (A4 ++ A)) (h := h5) (F := (t, .cells c.cells false 0) :: F)
        ((lits (b := t5) (vs := [v, s4])).mono fun x hx => by simp only [List.mem_singleton] at hx; subst hx; exact List.mem_cons_self ..)
        (by
          intro x hx
          simp only [List.mem_cons, List.not_mem_nil, or_false] at hx
          rcases hx with rfl | rfl
          · exact i1.sow.mono fun x hx => by simp [hx]
          · rw [hel]; exact a4.sow.mono fun x hx => by simp [hx])
        (o5.to fun x => by simp only [cnt_append, cnt_cons, cnt_nil, List.cons_append]; omega) (by simp only [List.flatMap_cons, List.flatMap_nil, List.length_append, hsl, hel, List.length_nil]; omega) (by simp) (by omega)
      have hf : ([(v, (secs X j).flatten), (s4, enc (j : Int) z0v)] : List (Value × List Int)).flatMap (·.2) = (secs X (j + 1)).flatten := by rw [secs_snoc]; simp
      rw [hf] at a6
      refine .inl ⟨((s6, (((j + 1 : Nat) : Int), ())), h6), ?_, rfl, A6, a6, o6.to fun x => by simp only [cnt_append, cnt_cons]; omega⟩
      have f11 : fillL [.slice none 0 0, .slice none 0 0] [(0, 1, v), (1, 1, s4)] = some [v, s4] := by obtain ⟨x, y, rfl⟩ := i1.form; obtain ⟨x, y, rfl⟩ := a4.form; rfl
      simp only [f_home_New_L14, hlt, decide_true, cond_true, f9, Option.bind_some, e4, Bool.not_true, cond_false, f11, bnd_eq, hb5, hh5, e6, wrap_succ (show j < 4611686018427387904 by omega)])
    (fun a hi => by
      obtain ⟨⟨v, i0, _⟩, hq⟩ := a
      obtain ⟨e0, A, i1, i2⟩ := hi
      have e0 : i0 = (nb : Int) := e0
      subst e0
      have hlt : ¬ (nb : Int) < (nb : Int) := by omega
      exact ⟨.inl ((v, ()), hq), by simp only [f_home_New_L14, hlt, decide_false, cond_false], v, hq, rfl, A, i1, i2⟩)
  have e3 : f_home_New_C15 n h ((s2, (0, ())), h2) h2 = some (.inl ((s3, ()), h3)) := by
    simp only [f_home_New_C15, nwA_eq, ht, fa_mk, Nat.zero_add, l0, Option.bind_some]
    exact e3
  obtain ⟨_, l1, _⟩ := Cf.ld' (c := c) (o3.get (t, .cells c.cells false 0) (by simp))
  rw [hnl] at l1
  -- the log's sectors
  have m4 := mkSl_of (nx := h3.next) (bytes := 1) (es := 1) (zs := [.int .u8 0]) (k := .i64) (k' := .i64) (l := 64 * nl) (c := 64 * nl) (by omega) (by omega) (by omega)
  have hz4 : (List.replicate (64 * nl) [Value.int .u8 0]).flatten = iz .u8 (List.replicate (64 * nl) 0) := by rw [flat_rep1, iz_rep]
  rw [hz4] at m4
  have o4 := o3.new (.cells (iz .u8 (List.replicate (64 * nl) 0)) false 1)
  generalize hb4 : h3.next = t4 at m4 o4
  generalize hh4 : h3.new (.cells (iz .u8 (List.replicate (64 * nl) 0)) false 1) = h4 at o4
  have y4 : Sow 1 (.slice (some ⟨t4, 0, some 0⟩) (64 * nl) (64 * nl)) (List.replicate (64 * nl) (0 : Int)).length (iz .u8 (List.replicate (64 * nl) 0)) [(t4, .cells (iz .u8 (List.replicate (64 * nl) 0)) false 1)] := by
    have := lits (b := t4) (vs := iz .u8 (List.replicate (64 * nl) 0))
    simpa [iz] using this
  have o5 := o4.new (.cells [s3, .slice (some ⟨t4, 0, some 0⟩) (64 * nl) (64 * nl)] false 1)
  generalize hb5 : h4.next = t5 at o5
  generalize hh5 : h4.new (.cells [s3, .slice (some ⟨t4, 0, some 0⟩) (64 * nl) (64 * nl)] false 1) = h5 at o5
  have hsl := secs_len (j := nb) hX
  obtain ⟨s6, h6, A6, e6, a6, o6⟩ := join_ok (n := n) (P := [(s3, (secs X nb).flatten), (.slice (some ⟨t4, 0, some 0⟩) (64 * nl) (64 * nl), List.replicate (64 * nl) 0)]) (u := .slice (some ⟨t5, 0, some 0⟩) 2 2)
    (G := (t5, .cells [s3, .slice (some ⟨t4, 0, some 0⟩) (64 * nl) (64 * nl)] false 1) :: (t4, .cells (iz .u8 (List.replicate (64 * nl) 0)) false 1) :: A3) (h := h5) (F := (t, .cells c.cells false 0) :: F)
    ((lits (b := t5) (vs := [s3, .slice (some ⟨t4, 0, some 0⟩) (64 * nl) (64 * nl)])).mono fun x hx => by simp only [List.mem_singleton] at hx; subst hx; exact List.mem_cons_self ..)
    (by
      intro x hx
      simp only [List.mem_cons, List.not_mem_nil, or_false] at hx
      rcases hx with rfl | rfl
      · exact a3.sow.mono fun x hx => by simp [hx]
      · exact y4.mono fun x hx => by simp only [List.mem_singleton] at hx; subst hx; simp)
    (o5.to fun x => by simp only [cnt_append, cnt_cons, cnt_nil, List.cons_append]; omega) (by simp only [List.flatMap_cons, List.flatMap_nil, List.length_append, hsl, List.length_replicate, List.length_nil]; omega) (by simp) (by omega)
  have hf6 : ([(s3, (secs X nb).flatten), ((.slice (some ⟨t4, 0, some 0⟩) (64 * nl) (64 * nl) : Value), List.replicate (64 * nl) (0 : Int))] : List (Value × List Int)).flatMap (·.2) = (secs X nb ++ List.replicate nl (List.replicate 64 0)).flatten := by
    simp only [List.flatMap_cons, List.flatMap_nil, List.append_nil, List.flatten_append, List.flatten_replicate_replicate, Nat.mul_comm nl 64]
  rw [hf6] at a6
  obtain ⟨ds, hds⟩ : ∃ ds, ds = secs X nb ++ List.replicate nl (List.replicate 64 (0 : Int)) := ⟨_, rfl⟩
  rw [← hds] at a6
  have hdl : ds.length = 1 + nb + nl := by rw [hds]; simp [secs]; omega
  have hdd : ∀ d ∈ ds, (iz .u8 d).length = 64 := by
    intro d hd
    rw [hds] at hd
    rcases List.mem_append.1 hd with hd | hd
    · rcases List.mem_cons.1 hd with rfl | hd
      · simp [hX]
      · obtain ⟨i, _, rfl⟩ := List.mem_map.1 hd
        simp [enc_len (k := (i : Int)) z0v_len]
    · rw [List.eq_of_mem_replicate hd]; simp
  have hfl : ds.flatten.length = ds.length * 64 := by
    have := flat_len hdd
    rw [← iz_flatten] at this
    simpa using this
  rw [hfl, iz_flatten] at a6
  obtain ⟨p, h7, L7, e7, d7, o7⟩ := load_ok (n := n) a6 (h := h6) o6 hdd (by omega) (by omega) (by omega)
  have hdn : dsN c = ds := by
    rw [hds, dsN, show c.b.toNat = nb by omega, show c.l.toNat = nl by omega, hXe]
  rw [hdn]
  refine ⟨p, h7, L7, ?_, d7, o7.to fun x => by simp only [cnt_append, cnt_cons]; omega⟩
  · have hco : cellsOf (.agg ⟨c.cells⟩) = c.cells := rfl
    have f1 : fillL [.int .i64 0, .int .i64 0, .int .i64 0, .int .i64 0, .int .i64 0, .int .u64 0, .int .u64 0] [(0, 5, .agg ⟨c.cells⟩), (6, 1, .int .u64 1)] = some c.sup := rfl
    have w64l : IntKind.i64.wrap (64 * (nl : Int)) = ((64 * nl : Nat) : Int) := by rw [wrap_i64 (by omega) (by omega)]; omega
    have f11 : fillL [.slice none 0 0, .slice none 0 0] [(0, 1, s3), (1, 1, .slice (some ⟨t4, 0, some 0⟩) (64 * nl) (64 * nl))] = some [s3, .slice (some ⟨t4, 0, some 0⟩) (64 * nl) (64 * nl)] := by obtain ⟨x, y, rfl⟩ := a3.form; rfl
    simp only [f_home_New, hco, cf_cell, cond_true, bnd_eq, hh1, nwA_eq, ht, l5, f1, e2, Option.bind_some, decide_true, Bool.not_true, cond_false, e3, thenB_inl, fa_mk, Nat.zero_add, l1, w64l, hb4, m4, hh4, f11, hb5, hh5, e6, e7]
theorem sameV_ok {s u : Value} {A B : Ch} {F : Ch} (hv : ∀ x ∈ vals, x.length = 32) (ha : Slc 32 s vals.length (vals.flatMap (iz .u8)) A) (hb : Slc 32 u vals.length (vals.flatMap (iz .u8)) B) (ho : Own h (A ++ (B ++ F))) (hl : vals.length ≤ 1000) (hn : 2000 ≤ n) : f_r8_Same n s u h = some ((true, ()), h) := by
  have r1 := ha.rds ho
  have r2 := hb.rds (h := h) (F := A ++ F) (ho.to fun x => by simp only [cnt_append]; omega)
  have hf : ∀ x ∈ vals, (iz .u8 x).length = 32 := fun x hx => by simp [hv x hx]
  obtain ⟨r, e, q⟩ := loopT_up (f := fun a => f_r8_Same_L10 n u s a.1.1 a.2)
    (fun j (a : (Int × Unit) × Heap) => a = (((j : Int), ()), h)) (fun r => r = ((true, ()), h)) (N := vals.length) (k := n) (j := 0) (a := ((0, ()), h)) (by omega) (by omega) rfl
    (fun j a hj hi => by
      subst hi
      have hlt : (j : Int) < (vals.length : Int) := by omega
      obtain ⟨q, e1, e2⟩ := r1.ix j hj
      obtain ⟨q', e3, e4⟩ := r2.ix j hj
      rw [flat_get hf hj] at e2 e4
      have hl := hf _ (List.getElem_mem hj)
      have g1 := e2.ldA0 (k := 32) (by omega)
      have g2 := e4.ldA0 (k := 32) (by omega)
      rw [List.take_of_length_le (by omega)] at g1 g2
      have ev := eq_ok (h := h) (hv _ (List.getElem_mem hj)) (hv _ (List.getElem_mem hj))
      rw [decide_eq_true rfl] at ev
      exact .inl ⟨_, by simp only [f_r8_Same_L10, r1.lenB, hlt, decide_true, cond_true, e1, g1, e3, g2, ev, Option.bind_some, Bool.not_true, cond_false, wrap_succ (show j < 4611686018427387904 by omega)], rfl⟩)
    (fun a hi => by
      subst hi
      have hlt : ¬ (vals.length : Int) < (vals.length : Int) := by omega
      exact ⟨_, by simp only [f_r8_Same_L10, r1.lenB, Option.bind_some, hlt, decide_false, cond_false], rfl⟩)
  simp only [f_r8_Same, r1.lenB, r2.lenB, Option.bind_some, decide_true, Bool.not_true, cond_false, e, q]
theorem supH_byt (hk : c.ok = true) (hl : -9223372036854775808 ≤ c.l ∧ c.l ≤ 9223372036854775807) : Byt (supH c) := by
  obtain ⟨⟨b1, b2⟩, ⟨b3, b4⟩, ⟨b5, b6⟩, ⟨b7, b8⟩, b9, b10⟩ := Cf.bounds hk hl
  refine Byt.append ?_ (Byt.append le_byt (Byt.append le_byt byt_zeros))
  intro z hz
  simp only [List.mem_cons, List.not_mem_nil, or_false] at hz
  rcases hz with h | h | h | h | h | h | h | h | h | h | h | h | h | h | h | h <;> omega
theorem supB_byt (hk : c.ok = true) (hl : -9223372036854775808 ≤ c.l ∧ c.l ≤ 9223372036854775807) : Byt (supB c) := Byt.append (supH_byt hk hl) le_byt
theorem dsN_byt (hk : c.ok = true) (hl : -9223372036854775808 ≤ c.l ∧ c.l ≤ 9223372036854775807) : Byts (dsN c) [] := by
  obtain ⟨⟨b1, b2⟩, _⟩ := Cf.bounds hk hl
  refine ⟨fun d hd => ?_, fun w hw => absurd hw List.not_mem_nil⟩
  rcases List.mem_append.1 hd with hd | hd
  · rcases List.mem_cons.1 hd with rfl | hd
    · exact supB_byt hk hl
    · obtain ⟨i, hi, rfl⟩ := List.mem_map.1 hd
      have := List.mem_range.1 hi
      exact enc_byt (by omega) (by omega) z0v_byt
  · rw [List.eq_of_mem_replicate hd]; exact byt_zeros
theorem dsN_len (hk : c.ok = true) (hl : -9223372036854775808 ≤ c.l ∧ c.l ≤ 9223372036854775807) : ((dsN c).length : Int) = 1 + c.b + c.l := by
  obtain ⟨⟨b1, b2⟩, ⟨b3, b4⟩, _⟩ := Cf.bounds hk hl
  simp [dsN, secs]; omega
theorem rsuper_ok (hk : c.ok = true) (hl : -9223372036854775808 ≤ c.l ∧ c.l ≤ 9223372036854775807) (ho : Own h F) (hn : 2000 ≤ n) :
    ∃ s h' A, f_r8_Super n (.agg ⟨c.cells⟩) h = some ((s, ()), h') ∧ Slc 1 s 64 (iz .u8 (supB c)) A ∧ Own h' (A ++ F) := by
  obtain ⟨⟨b1, b2⟩, ⟨b3, b4⟩, ⟨b5, b6⟩, ⟨b7, b8⟩, b9, b10⟩ := Cf.bounds hk hl
  have o1 := ho.new (.cells c.cells false 0)
  generalize ht : h.next = t at o1
  generalize hh1 : h.new (.cells c.cells false 0) = h1 at o1
  have o2 := o1.new (.cells (iz .u8 [87, 73, 67, 75, 69, 84]) false 1)
  generalize hb1 : h1.next = b1' at o2
  generalize hh2 : h1.new (.cells (iz .u8 [87, 73, 67, 75, 69, 84]) false 1) = ha at o2
  have mk : markSK ha (.slice (some ⟨b1', 0, some 0⟩) 6 6) = some (.slice (some ⟨b1', 0, some 0⟩) 6 6, ha.put b1' (.cells (iz .u8 [87, 73, 67, 75, 69, 84]) false 1)) := by
    simp only [markSK, o2.head]; rfl
  have o3 := o2.put (.cells (iz .u8 [87, 73, 67, 75, 69, 84]) false 1)
  generalize hhb : ha.put b1' (.cells (iz .u8 [87, 73, 67, 75, 69, 84]) false 1) = hbb at o3 mk
  have y1 : Slc 1 (.slice (some ⟨b1', 0, some 0⟩) 6 6) 6 (iz .u8 [87, 73, 67, 75, 69, 84]) [(b1', .cells ([] ++ (iz .u8 [87, 73, 67, 75, 69, 84] ++ [])) false 1)] := .mk rfl rfl rfl
  have o4 := o3.new (.cells (iz .u8 [1, 0]) false 1)
  have y2 : Slc 1 (.slice (some ⟨hbb.next, 0, some 0⟩) 2 2) 2 (iz .u8 [1, 0]) [(hbb.next, .cells ([] ++ (iz .u8 [1, 0] ++ [])) false 1)] := .mk rfl rfl rfl
  generalize hb2 : hbb.next = b2' at o4 y2
  generalize hhc : hbb.new (.cells (iz .u8 [1, 0]) false 1) = hc at o4
  obtain ⟨s5, h5, A5, e5, a5, o5⟩ := y2.sow.app y1 (h := hc) (F := (t, .cells c.cells false 0) :: F) (o4.to fun x => by simp only [cnt_append, cnt_cons, cnt_nil, List.nil_append, List.append_nil]; omega) (by decide) (bytes := 1) (by omega)
  obtain ⟨l0, l1, l2, l3, l4, _⟩ := Cf.ld' (c := c) (o5.get (t, .cells c.cells false 0) (by simp))
  have w0 : ∀ {x : Int}, 0 ≤ x → x < 256 → IntKind.u8.wrap x = x := fun h1 h2 => by
    have := Int.emod_eq_of_lt h1 h2
    simpa [IntKind.wrap, IntKind.signed, IntKind.bits] using this
  have o6 := o5.new (.cells (iz .u8 [c.b, c.l, c.r, c.g, c.c, 0, 0, 0]) false 1)
  have y6 : Slc 1 (.slice (some ⟨h5.next, 0, some 0⟩) 8 8) 8 (iz .u8 [c.b, c.l, c.r, c.g, c.c, 0, 0, 0]) [(h5.next, .cells ([] ++ (iz .u8 [c.b, c.l, c.r, c.g, c.c, 0, 0, 0] ++ [])) false 1)] := .mk rfl rfl rfl
  generalize hb6 : h5.next = b6' at o6 y6
  generalize hh6 : h5.new (.cells (iz .u8 [c.b, c.l, c.r, c.g, c.c, 0, 0, 0]) false 1) = h6 at o6
  obtain ⟨s7, h7, A7, e7, a7, o7⟩ := y6.sow.app a5 (h := h6) (F := (t, .cells c.cells false 0) :: F) (o6.to fun x => by simp only [cnt_append, cnt_cons, cnt_nil, List.nil_append, List.append_nil]; omega) (by decide) (bytes := 1) (by omega)
  obtain ⟨s8, h8, A8, e8, a8, o8⟩ := rnumberw_ok (n := n) (x := 0) (w := 8) (by omega) (by decide) (h := h7) o7 (by omega)
  obtain ⟨s9, h9, A9, e9, a9, o9⟩ := a8.sow.app a7 (h := h8) (F := (t, .cells c.cells false 0) :: F) (o8.to fun x => by simp only [cnt_append, cnt_cons]; omega) (by decide) (bytes := 1) (by omega)
  obtain ⟨s10, h10, A10, e10, a10, o10⟩ := rnumberw_ok (n := n) (x := 1) (w := 8) (by omega) (by decide) (h := h9) o9 (by omega)
  obtain ⟨s11, h11, A11, e11, a11, o11⟩ := a10.sow.app a9 (h := h10) (F := (t, .cells c.cells false 0) :: F) (o10.to fun x => by simp only [cnt_append, cnt_cons]; omega) (by decide) (bytes := 1) (by omega)
  obtain ⟨s12, h12, A12, e12, a12, o12⟩ := a11.appZ (m := 28) (zs := [.int .u8 0]) (kk := .i64) (bytes := 1) (h := h11) (F := (t, .cells c.cells false 0) :: F) (o11.to fun x => by simp only [cnt_append, cnt_cons]; omega) (by decide) rfl (by omega) (by omega)
  have hH : iz .u8 [87, 73, 67, 75, 69, 84] ++ iz .u8 [1, 0] ++ iz .u8 [c.b, c.l, c.r, c.g, c.c, 0, 0, 0] ++ iz .u8 (le 0 8) ++ iz .u8 (le 1 8) ++ (List.replicate 28 [Value.int .u8 0]).flatten = iz .u8 (supH c) := by
    rw [flat_rep1, supH]; simp [iz]
  rw [hH] at a12
  have a12 : Slc 1 s12 (supH c).length (iz .u8 (supH c)) A12 := by rw [supH_len]; exact a12
  obtain ⟨s13, h13, A13, e13, a13, o13⟩ := rsummed_ok (n := n) (supH_byt hk hl) a12.sow (h := h12) (F := (t, .cells c.cells false 0) :: F) o12 (by rw [supH_len]; omega) hn
  rw [supH_len] at a13
  refine ⟨s13, h13, A13, ?_, a13, o13.to fun x => by simp only [cnt_append, cnt_cons]; omega⟩
  have hco : cellsOf (.agg ⟨c.cells⟩) = c.cells := rfl
  have f1 : fillL (List.replicate 6 (.int .u8 0)) [(0, 1, .int .u8 87), (1, 1, .int .u8 73), (2, 1, .int .u8 67), (3, 1, .int .u8 75), (4, 1, .int .u8 69), (5, 1, .int .u8 84)] = some (iz .u8 [87, 73, 67, 75, 69, 84]) := rfl
  have f2 : fillL [.int .u8 0, .int .u8 0] [(0, 1, .int .u8 1), (1, 1, .int .u8 0)] = some (iz .u8 [1, 0]) := rfl
  have f3 : fillL (List.replicate 8 (.int .u8 0)) [(0, 1, .int .u8 c.b), (1, 1, .int .u8 c.l), (2, 1, .int .u8 c.r), (3, 1, .int .u8 c.g), (4, 1, .int .u8 c.c), (5, 1, .int .u8 0), (6, 1, .int .u8 0), (7, 1, .int .u8 0)] = some (iz .u8 [c.b, c.l, c.r, c.g, c.c, 0, 0, 0]) := rfl
  have e12 : appendZK h11 1 1 [.int .u8 0] s11 (.int .i64 28) = some (s12, h12) := e12
  have e8 : f_r8_number n 0 8 h7 = _ := e8
  have e10 : f_r8_number n 1 8 h9 = _ := e10
  simp only [f_r8_Super, hco, cf_cell, cond_true, bnd_eq, ht, hh1, Option.bind_some, f1, hb1, hh2, mk, f2, hb2, hhc, e5, nwA_eq, fa_mk, Nat.zero_add, l0, l1, l2, l3, l4, w0 (show 0 ≤ c.b by omega) (by omega), w0 (show 0 ≤ c.l by omega) (by omega), w0 (show 0 ≤ c.r by omega) (by omega), w0 (show 0 ≤ c.g by omega) (by omega), w0 (show 0 ≤ c.c by omega) (by omega), f3, hb6, hh6, e7, e8, e9, e10, e11, e12, e13, a13.notT, Bool.not_false]
theorem rnew_bad (hl : -9223372036854775808 ≤ c.l ∧ c.l ≤ 9223372036854775807) (hk : c.ok = false) (ho : Own h F) : ∃ h', f_r8_New n (.agg ⟨c.cells⟩) h = some ((none, (3, ())), h') ∧ Own h' F := by
  have o1 := ho.new (.cells c.cells false 0)
  generalize ht : h.next = t at o1
  generalize hh1 : h.new (.cells c.cells false 0) = h1 at o1
  obtain ⟨_, _, _, _, _, l5⟩ := Cf.ld' (c := c) o1.head
  have e2 := may_ok (n := n) (c := c) hl o1
  have o2 := o1.new (.cells c.cells false 0)
  rw [hk] at e2
  have hco : cellsOf (.agg ⟨c.cells⟩) = c.cells := rfl
  exact ⟨_, by simp only [f_r8_New, hco, cf_cell, cond_true, bnd_eq, hh1, nwA_eq, ht, l5, e2, Option.bind_some, Bool.not_false], o2.tail.tail⟩
theorem rnew_home (hk : c.ok = true) (hl : -9223372036854775808 ≤ c.l ∧ c.l ≤ 9223372036854775807) (ho : Own h F) (hn : 5000 ≤ n) :
    ∃ p h' Lx, f_r8_New n (.agg ⟨c.cells⟩) h = some ((some ⟨p, 0, none⟩, (0, ())), h') ∧ Rd' p (dsN c) [] Lx ∧ Own h' (Lx ++ F) := by
  obtain ⟨⟨b1, b2⟩, ⟨b3, b4⟩, _⟩ := Cf.bounds hk hl
  obtain ⟨nb, hnb⟩ : ∃ x : Nat, c.b = x := ⟨c.b.toNat, by omega⟩
  obtain ⟨nl, hnl⟩ : ∃ x : Nat, c.l = x := ⟨c.l.toNat, by omega⟩
  have o1 := ho.new (.cells c.cells false 0)
  generalize ht : h.next = t at o1
  generalize hh1 : h.new (.cells c.cells false 0) = h1 at o1
  obtain ⟨_, _, _, _, _, l5⟩ := Cf.ld' (c := c) o1.head
  have e1 := may_ok (n := n) (c := c) hl o1
  rw [hk] at e1
  have o1' := o1.new (.cells c.cells false 0)
  generalize hh1' : h1.new (.cells c.cells false 0) = h1' at e1 o1'
  generalize h1.next = t' at o1'
  obtain ⟨_, _, _, _, _, l5'⟩ := Cf.ld' (c := c) (o1'.get (t, .cells c.cells false 0) (by simp))
  obtain ⟨s2, h2, A2, e2, a2, o2⟩ := rsuper_ok (n := n) hk hl o1'.tail (by omega)
  have hX := supB_len (c := c)
  obtain ⟨X, hXe⟩ : ∃ X, X = supB c := ⟨_, rfl⟩
  rw [← hXe] at a2 hX
  obtain ⟨⟨⟨s3, _⟩, h3⟩, e3, A3, a3, o3⟩ := loopT_up (f := fun a => f_r8_New_L12 n h a.1.1 a.1.2.1 a.2)
    (fun j (a : (Value × Int × Unit) × Heap) => a.1.2.1 = (j : Int) ∧ ∃ A, Slc 1 a.1.1 (secs X j).flatten.length (iz .u8 (secs X j).flatten) A ∧ Own a.2 (A ++ ((t, .cells c.cells false 0) :: F)))
    (fun r => ∃ A, Slc 1 r.1.1 (secs X nb).flatten.length (iz .u8 (secs X nb).flatten) A ∧ Own r.2 (A ++ ((t, .cells c.cells false 0) :: F))) (N := nb) (k := n) (j := 0) (a := ((s2, (0, ())), h2)) (by omega) (by omega)
    ⟨rfl, A2, by simpa [secs, hX] using a2, o2⟩
    (fun j a hj hi => by
      obtain ⟨⟨v, i0, _⟩, hq⟩ := a
      obtain ⟨e0, A, i1, i2⟩ := hi
      have e0 : i0 = (j : Int) := e0
      subst e0
      have i1 : Slc 1 v _ _ A := i1
      have i2 : Own hq _ := i2
      have hlt : (j : Int) < c.b := by omega
      obtain ⟨l0, _⟩ := Cf.ld' (c := c) (i2.get (t, .cells c.cells false 0) (by simp))
      have f9 : fillL (List.replicate 32 (.int .u8 0)) [] = some (iz .u8 z0v) := rfl
      obtain ⟨s4, h4, A4, e4, a4, o4⟩ := rencode_ok (n := n) (z := (j : Int)) (V := z0v) (by omega) (by omega) z0v_len z0v_byt i2 (by omega)
      have hel := enc_len (k := (j : Int)) z0v_len
      have hsl := secs_len (j := j) hX
      obtain ⟨s6, h6, A6, e6, a6, o6⟩ := a4.sow.app i1 (h := h4) (F := (t, .cells c.cells false 0) :: F) (o4.to fun x => by simp only [cnt_append, cnt_cons]; omega) (by decide) (bytes := 1) (by omega)
      have hf : iz .u8 (secs X j).flatten ++ iz .u8 (enc (j : Int) z0v) = iz .u8 (secs X (j + 1)).flatten := by rw [secs_snoc]; simp [iz]
      have hf2 : (secs X j).flatten.length + 64 = (secs X (j + 1)).flatten.length := by rw [secs_snoc, List.length_append, hel]
      rw [hf, hf2] at a6
      refine .inl ⟨((s6, (((j + 1 : Nat) : Int), ())), h6), ?_, rfl, A6, a6, o6.to fun x => by simp only [cnt_append, cnt_cons]; omega⟩
      simp only [f_r8_New_L12, nwA_eq, ht, fa_mk, Nat.zero_add, l0, hlt, decide_true, cond_true, f9, Option.bind_some, e4, e6, wrap_succ (show j < 4611686018427387904 by omega)])
    (fun a hi => by
      obtain ⟨⟨v, i0, _⟩, hq⟩ := a
      obtain ⟨e0, A, i1, i2⟩ := hi
      have e0 : i0 = (nb : Int) := e0
      subst e0
      have i2 : Own hq _ := i2
      have hlt : ¬ (nb : Int) < c.b := by omega
      obtain ⟨l0, _⟩ := Cf.ld' (c := c) (i2.get (t, .cells c.cells false 0) (by simp))
      exact ⟨((v, ()), hq), by simp only [f_r8_New_L12, nwA_eq, ht, fa_mk, Nat.zero_add, l0, Option.bind_some, hlt, decide_false, cond_false], A, i1, i2⟩)
  have a3 : Slc 1 s3 _ _ A3 := a3
  have o3 : Own h3 _ := o3
  obtain ⟨_, l1, _⟩ := Cf.ld' (c := c) (o3.get (t, .cells c.cells false 0) (by simp))
  have hsl := secs_len (j := nb) hX
  obtain ⟨s6, h6, A6, e6, a6, o6⟩ := a3.appZ (m := 64 * nl) (zs := [.int .u8 0]) (kk := .i64) (bytes := 1) (h := h3) (F := (t, .cells c.cells false 0) :: F) o3 (by decide) rfl (by omega) (by omega)
  obtain ⟨ds, hds⟩ : ∃ ds, ds = secs X nb ++ List.replicate nl (List.replicate 64 (0 : Int)) := ⟨_, rfl⟩
  have hf6 : iz .u8 (secs X nb).flatten ++ (List.replicate (64 * nl) [Value.int .u8 0]).flatten = iz .u8 ds.flatten := by
    rw [hds, flat_rep1, ← iz_rep, List.flatten_append, List.flatten_replicate_replicate, Nat.mul_comm nl 64]
    simp [iz]
  rw [hf6] at a6
  have hdl : ds.length = 1 + nb + nl := by rw [hds]; simp [secs]; omega
  have hdd : ∀ d ∈ ds, (iz .u8 d).length = 64 := by
    intro d hd
    rw [hds] at hd
    rcases List.mem_append.1 hd with hd | hd
    · rcases List.mem_cons.1 hd with rfl | hd
      · simp [hX]
      · obtain ⟨i, _, rfl⟩ := List.mem_map.1 hd
        simp [enc_len (k := (i : Int)) z0v_len]
    · rw [List.eq_of_mem_replicate hd]; simp
  have hfl : (secs X nb).flatten.length + 64 * nl = ds.length * 64 := by omega
  rw [hfl, iz_flatten] at a6
  obtain ⟨p, h7, L7, e7, d7, o7⟩ := rload_ok (n := n) a6 (h := h6) o6 hdd (by omega) (by omega)
  have hdn : dsN c = ds := by
    rw [hds, dsN, show c.b.toNat = nb by omega, show c.l.toNat = nl by omega, hXe]
  rw [hdn]
  refine ⟨p, h7, L7, ?_, d7, o7.to fun x => by simp only [cnt_append, cnt_cons]; omega⟩
  have hco : cellsOf (.agg ⟨c.cells⟩) = c.cells := rfl
  have w64l : IntKind.i64.wrap (64 * c.l) = ((64 * nl : Nat) : Int) := by rw [wrap_i64 (by omega) (by omega)]; omega
  simp only [f_r8_New, hco, cf_cell, cond_true, bnd_eq, hh1, nwA_eq, ht, l5, e1, Option.bind_some, Bool.not_true, cond_false, l5', e2, e3, fa_mk, Nat.zero_add, l1, w64l, e6, e7]
end
end Go.Proofs.YtjdbmfhjccaggaaDoor
/- The desk: the same on both sides. -/
namespace Go.Proofs.YtjdbmfhjccaggaaDoor
open Go
set_option linter.unusedVariables false
set_option linter.unusedSimpArgs false
def dkc (p r : Nat) (c : Cf) (sT sW : Value) : List Value := .pointer (some ⟨p, 0, none⟩) :: .pointer (some ⟨r, 0, none⟩) :: (c.cells ++ [sT, sW])
def dkO (p r : Nat) (c : Cf) (sT sW : Value) : AObj := .cells (dkc p r c sT sW) false 0
section
variable {n m k p r q i : Nat} {s u sT sW : Value} {L X V v : List Int} {h : Heap} {F G A Lp Lr : Ch} {c : Cf} {z : Int} {cs : List Value} {ds vals : List (List Int)} {ws : List (Int × List Int)} {ro : Bool}
theorem Rd'.own2 (hd : Rd' p ds ws Lp) : ∃ sd sw A B es, Slc 1 sd (ds.length * 64) (ds.flatMap (iz .u8)) A ∧ Wl sw es B ∧ es.map Wx.key = ws ∧ Lp = (p, .cells [sd, sw] false 0) :: (A ++ B) ∧ (∀ e ∈ es, e.X.length = 64) := by
  obtain ⟨sd, sw, A, B, es, a1, a2, a3, a4, a5, rfl⟩ := hd
  refine ⟨sd, sw, A, B ++ es.flatMap Wx.A, es, a1, ⟨B, a2, a3, rfl⟩, a4, rfl, fun e he => ?_⟩
  have := a5.w e.key (a4 ▸ List.mem_map_of_mem he)
  simpa [wc, Wx.key] using this
theorem dk_ld (hg : h.get q = some (.cells (dkc p r c sT sW) ro 0)) : ldT .ptr h (some ⟨q, 0, none⟩) = some (some ⟨p, 0, none⟩) ∧ ldT .ptr h (some ⟨q, 1, none⟩) = some (some ⟨r, 0, none⟩) ∧ ldA 5 h (some ⟨q, 2, none⟩) = some c.cells ∧ (ldT .any h (some ⟨q, 7, none⟩) = some sT) ∧ (ldT .any h (some ⟨q, 8, none⟩) = some sW) := by
  refine ⟨?_, ?_, ?_, ?_, ?_⟩
  · rw [ldT_of hg]; rfl
  · rw [ldT_of hg]; rfl
  · rw [ldA_of hg (by simp [dkc, Cf.cells])]; rfl
  · rw [ldT_of hg]; rfl
  · rw [ldT_of hg]; rfl
theorem dsame_ok (hd : Dk p ds ws Lp) (hr : Rd' r ds ws Lr) (ho : Own h ((q, dkO p r c sT sW) :: (Lp ++ (Lr ++ F)))) (hN : ds.length ≤ 4096) (hW : ws.length ≤ 1000) (hn : 300000 ≤ n) :
    ∃ h', f_w8_desk_same n (some ⟨q, 0, none⟩) h = some ((true, ()), h') ∧ Own h' ((q, dkO p r c sT sW) :: (Lp ++ (Lr ++ F))) := by
  obtain ⟨l0, _⟩ := dk_ld (p := p) (r := r) (c := c) (sT := sT) (sW := sW) (ro := false) (ho.get (q, dkO p r c sT sW) (by simp))
  obtain ⟨s2, h2, es2, W2, e2, b2, c2, o2⟩ := waiting_ok (n := n) (sp := none) hd (h := h) (F := (q, dkO p r c sT sW) :: (Lr ++ F)) (ho.to fun x => by simp only [cnt_append, cnt_cons]; omega) (by omega) (by omega)
  obtain ⟨l1, l2, _⟩ := dk_ld (p := p) (r := r) (c := c) (sT := sT) (sW := sW) (ro := false) (o2.get (q, dkO p r c sT sW) (by simp))
  obtain ⟨sd, sw, RA, RB, es, a1, a2, a3, hL, a5⟩ := hr.own2
  rw [hL] at ho o2 ⊢
  have o0 : Own h2 ((RA ++ [(r, .cells [sd, sw] false 0), (q, dkO p r c sT sW)]) ++ (W2 ++ (RB ++ (Lp ++ F)))) := o2.to fun x => by simp only [cnt_append, cnt_cons, cnt_nil, List.cons_append]; omega
  have l3 : ldT .any h2 (some ⟨r, 0, none⟩) = some sd := by rw [ldT_of (o0.get (r, .cells [sd, sw] false 0) (by simp))]; rfl
  have hl : ∀ x, x ∈ strReads sd ++ [r, q] ↔ ∃ z ∈ RA ++ [(r, .cells [sd, sw] false 0), (q, dkO p r c sT sW)], z.1 = x := by
    intro x
    rw [List.mem_append, (a1.reads x).1]
    constructor
    · rintro (⟨z, h1, h2⟩ | h1)
      · exact ⟨z, List.mem_append_left _ h1, h2⟩
      · simp only [List.mem_cons, List.not_mem_nil, or_false] at h1
        rcases h1 with rfl | rfl
        · exact ⟨(x, .cells [sd, sw] false 0), by simp, rfl⟩
        · exact ⟨(x, dkO p r c sT sW), by simp, rfl⟩
    · rintro ⟨z, h1, rfl⟩
      rcases List.mem_append.1 h1 with h1 | h1
      · exact .inl ⟨z, h1, rfl⟩
      · simp only [List.mem_cons, List.not_mem_nil, or_false] at h1
        rcases h1 with rfl | rfl <;> simp
  have o1 := o0.roL hl fun z hz => by
    rcases List.mem_append.1 hz with hz | hz
    · exact (a1.reads 0).2 z hz
    · simp only [List.mem_cons, List.not_mem_nil, or_false] at hz
      rcases hz with rfl | rfl
      · exact ⟨_, _, _, rfl⟩
      · exact ⟨_, _, _, rfl⟩
  have t3 := (a1.rds (h := h2) (F := [(r, .cells [sd, sw] false 0), (q, dkO p r c sT sW)] ++ (W2 ++ (RB ++ (Lp ++ F)))) (o0.to fun x => by simp only [cnt_append]; omega))
  rw [← iz_flatten] at t3
  have t3 := t3.str
  obtain ⟨s4, h4, A4, e4, a4, o4⟩ := image_ok' (n := n) (sp := none) hd (h := hid h2 [] (strReads sd ++ [r, q])) (F := (RA ++ [(r, .cells [sd, sw] false 0), (q, dkO p r c sT sW)]).map roA ++ (W2 ++ (RB ++ F))) (o1.to fun x => by simp only [cnt_append]; omega) (by omega) (by omega)
  have o5 := Own.backL (h0 := h2) (A := RA ++ [(r, .cells [sd, sw] false 0), (q, dkO p r c sT sW)]) (X := A4 ++ (Lp ++ (W2 ++ (RB ++ F)))) (l := strReads sd ++ [r, q]) (o4.to fun x => by simp only [cnt_append]; omega) hl (fun z hz => o0.get z (List.mem_append_left _ hz))
  generalize hh5 : h4.putBack h2 (strReads sd ++ [r, q]) = h5 at o5
  have t5 := (a4.rds (h := h5) (F := RA ++ ([(r, .cells [sd, sw] false 0), (q, dkO p r c sT sW)] ++ (Lp ++ (W2 ++ (RB ++ F))))) (o5.to fun x => by simp only [cnt_append]; omega)).str
  have hq5 : h5.get q = some (dkO p r c sT sW) := o5.get (q, dkO p r c sT sW) (by simp)
  obtain ⟨_, l6, _⟩ := dk_ld (p := p) (r := r) (c := c) (sT := sT) (sW := sW) (ro := false) hq5
  have l8 : ldT .any h5 (some ⟨r, 1, none⟩) = some sw := by rw [ldT_of (o5.get (r, .cells [sd, sw] false 0) (by simp))]; rfl
  have hl2 : es2.length = ws.length := by rw [← c2, List.length_map]
  have hlE : es.length = ws.length := by rw [← a3, List.length_map]
  have hlen : es2.length = es.length := by omega
  have hk : es2.map Wx.key = es.map Wx.key := c2.trans a3.symm
  obtain ⟨B, x1, x2, rfl⟩ := b2
  obtain ⟨B', y1, y2, rfl⟩ := a2
  have oL : Own h5 ((B ++ es2.flatMap Wx.A) ++ ((B' ++ es.flatMap Wx.A) ++ (RA ++ ((r, .cells [sd, sw] false 0) :: (q, dkO p r c sT sW) :: (A4 ++ (Lp ++ F)))))) := o5.to fun x => by simp only [cnt_append, cnt_cons, cnt_nil]; omega
  obtain ⟨rr, e, hrr⟩ := loopT_up (f := fun a => f_w8_desk_same_L44 n (some ⟨q, 0, none⟩) ((s2, ()), h2) a.1.1 a.2) (fun j (a : (Int × Unit) × Heap) => a = (((j : Int), ()), h5)) (fun r => r = ((true, ()), h5)) (N := es2.length) (k := n) (j := 0) (a := ((0, ()), h5)) (by omega) (by omega) rfl
    (fun j a hj hi => by
      subst hi
      have hj' : j < es.length := by omega
      obtain ⟨q1, e1, e2, e3, _⟩ := wd_at (F := es2.flatMap Wx.A ++ ((B' ++ es.flatMap Wx.A) ++ (RA ++ ((r, .cells [sd, sw] false 0) :: (q, dkO p r c sT sW) :: (A4 ++ (Lp ++ F)))))) x1 (oL.to fun x => by simp only [cnt_append]; omega) hj
      obtain ⟨q', e1', e2', e3', _⟩ := wd_at (F := es.flatMap Wx.A ++ ((B ++ es2.flatMap Wx.A) ++ (RA ++ ((r, .cells [sd, sw] false 0) :: (q, dkO p r c sT sW) :: (A4 ++ (Lp ++ F)))))) y1 (oL.to fun x => by simp only [cnt_append]; omega) hj'
      have hkj : es2[j].key = es[j].key := by
        have h1 : (es2.map Wx.key)[j]'(by simpa using hj) = (es.map Wx.key)[j]'(by simpa using hj') := by congr 1
        simpa using h1
      have hz : es2[j].z = es[j].z := congrArg Prod.fst hkj
      have hX : es2[j].X = es[j].X := congrArg Prod.snd hkj
      have s1 := ((x2 _ (List.getElem_mem hj)).rds (h := h5) (F := (es2.eraseIdx j).flatMap Wx.A ++ (B ++ ((B' ++ es.flatMap Wx.A) ++ (RA ++ ((r, .cells [sd, sw] false 0) :: (q, dkO p r c sT sW) :: (A4 ++ (Lp ++ F))))))) (oL.to fun x => by have := wd_cnt hj x; simp only [cnt_append]; omega)).str
      have s2 := ((y2 _ (List.getElem_mem hj')).rds (h := h5) (F := (es.eraseIdx j).flatMap Wx.A ++ (B' ++ ((B ++ es2.flatMap Wx.A) ++ (RA ++ ((r, .cells [sd, sw] false 0) :: (q, dkO p r c sT sW) :: (A4 ++ (Lp ++ F))))))) (oL.to fun x => by have := wd_cnt hj' x; simp only [cnt_append]; omega)).str
      refine .inl ⟨_, ?_, rfl⟩
      have hlt : (j : Int) < (es2.length : Int) := by omega
      have hne : (!decide (es2[j].z = es[j].z)) = false := by simp [hz]
      simp only [f_w8_desk_same_L44, x1.lenB, hlt, decide_true, cond_true, e1, e2, e3, fa_mk, Nat.zero_add, l6, l8, e1', e2', e3', Option.bind_some, hne, cond_false, s1, s2, str_eq (congrArg strOfInts hX), wrap_succ (show j < 4611686018427387904 by omega)])
    (fun a hi => by
      subst hi
      have hlt : ¬ (es2.length : Int) < (es2.length : Int) := by omega
      exact ⟨_, by simp only [f_w8_desk_same_L44, x1.lenB, Option.bind_some, hlt, decide_false, cond_false], rfl⟩)
  subst hrr
  refine ⟨h5, ?_, oL.to fun x => by simp only [cnt_append, cnt_cons, List.cons_append]; omega⟩
  have cL : decide (((es2.length : Nat) : Int) = ((es.length : Nat) : Int)) = true := decide_eq_true (by omega)
  simp only [f_w8_desk_same, Option.bind_some, fa_mk, Nat.zero_add, l0, e2, l1, l2, l3, t3, e4, bnd_eq, List.nil_append, hh5, t5, str_eq rfl, cond_false, x1.lenB, l6, l8, y1.lenB, cL, Bool.not_true, e]
end
end Go.Proofs.YtjdbmfhjccaggaaDoor
/- The desk: steps. -/
namespace Go.Proofs.YtjdbmfhjccaggaaDoor
open Go
set_option linter.unusedVariables false
set_option linter.unusedSimpArgs false
structure DOp where
  kind : Int
  block : Int
  val : List Int
  raw : Value
  keep : Value
  oc : Cf
  odd : Bool
def DOp.cells (o : DOp) : List Value := .int .i64 o.kind :: .int .i64 o.block :: (iz .u8 o.val ++ (o.raw :: o.keep :: (o.oc.cells ++ [.bool o.odd])))
def DOp.cf (o : DOp) (c : Cf) : Cf := if o.odd then o.oc else c
structure DOp.ok (o : DOp) (R K : List Int) (G : Ch) : Prop where
  v : o.val.length = 32
  vb : Byt o.val
  r : Sow 1 o.raw R.length (iz .u8 R) G
  rf : ∃ a k c, o.raw = .slice a k c
  rb : Byt R
  k : Sow 1 o.keep K.length (iz .i64 K) G
  kf : ∃ a k c, o.keep = .slice a k c
  cw : o.oc.wf
section
variable {n m k p r q i : Nat} {s u sT sW : Value} {L X V v R K : List Int} {h : Heap} {F G A Lp Lr : Ch} {c : Cf} {z : Int} {cs : List Value} {ds vals : List (List Int)} {ws : List (Int × List Int)} {ro : Bool} {o : DOp}
theorem DOp.all (ho : o.ok R K G) : (o.cells).all isCell = true := by
  obtain ⟨a, k, c, e1⟩ := ho.rf
  obtain ⟨a', k', c', e2⟩ := ho.kf
  simp only [DOp.cells, List.all_cons, List.all_append, iz_cell, cf_cell, e1, e2]
  rfl
theorem DOp.get (hv : o.val.length = 32) {j : Nat} : (o.cells)[34 + j]? = (o.raw :: o.keep :: (o.oc.cells ++ [.bool o.odd]))[j]? := by
  rw [DOp.cells, show 34 + j = (32 + j) + 2 by omega]
  simp only [List.getElem?_cons_succ]
  rw [List.getElem?_append_right (by simp; omega)]
  congr 1; simp; omega
theorem DOp.drop (hv : o.val.length = 32) : (o.cells).drop 36 = o.oc.cells ++ [.bool o.odd] := by
  rw [DOp.cells, show 36 = 34 + 2 from rfl]
  simp only [List.drop_succ_cons]
  rw [List.drop_append, List.drop_of_length_le (by simp; omega)]
  simp [hv]
theorem DOp.ld {t : Nat} (ho : o.ok R K G) (hg : h.get t = some (.cells o.cells ro 0)) :
    ldT (.int .i64) h (some ⟨t, 0, none⟩) = some o.kind ∧ ldT (.int .i64) h (some ⟨t, 1, none⟩) = some o.block ∧ ldA 32 h (some ⟨t, 2, none⟩) = some (iz .u8 o.val) ∧ ldT .any h (some ⟨t, 34, none⟩) = some o.raw ∧ ldT .any h (some ⟨t, 35, none⟩) = some o.keep ∧ ldA 5 h (some ⟨t, 36, none⟩) = some o.oc.cells ∧ ldT .bool h (some ⟨t, 41, none⟩) = some o.odd := by
  have hl : (o.cells).length = 42 := by have := ho.v; simp [DOp.cells, Cf.cells]; omega
  refine ⟨?_, ?_, ?_, ?_, ?_, ?_, ?_⟩
  · rw [ldT_of hg]; rfl
  · rw [ldT_of hg]; rfl
  · rw [ldA_of hg (by omega)]
    have hl2 : (iz .u8 o.val).length = 32 := by have := ho.v; simp; omega
    simp only [DOp.cells, List.drop_succ_cons, List.drop_zero]
    rw [List.take_append_of_le_length (by omega), List.take_of_length_le (by omega)]
  · rw [ldT_of hg, DOp.get (j := 0) ho.v]; rfl
  · rw [ldT_of hg, DOp.get (j := 1) ho.v]; rfl
  · rw [ldA_of hg (by omega), DOp.drop ho.v]; rfl
  · rw [ldT_of hg, DOp.get (j := 7) ho.v]; rfl
theorem pre_ok (hok : o.ok R K G) (ho : Own h ((q, dkO p r c sT sW) :: F)) :
    ∃ t t2 h0 h3 h4 H, h.next = t ∧ h.new (.cells o.cells false 0) = h0 ∧ ldA 5 h0 (some ⟨q, 2, none⟩) = some c.cells ∧ h0.next = t2 ∧ h0.new (.cells (List.replicate 5 (.int .i64 0)) false 0) = h3 ∧ stB 5 (.agg ⟨c.cells⟩) h3 (some ⟨t2, 0, none⟩) = some h4 ∧
      (((ldT .bool h4 (some ⟨t, 41, none⟩)).bind fun x5 => bif x5 then ((ldA 5 h4 (some ⟨t, 36, none⟩)).bind fun cs6 => (stB 5 (.agg ⟨cs6⟩) h4 (some ⟨t2, 0, none⟩)).bind fun h7 => some ((), h7)) else (some ((), h4))) : Option ((Unit) × Heap)) = some ((), H) ∧
      Own H ((t2, .cells (o.cf c).cells false 0) :: (t, .cells o.cells false 0) :: (q, dkO p r c sT sW) :: F) := by
  have o1 := ho.new (.cells o.cells false 0)
  generalize ht : h.next = t at o1
  generalize hh0 : h.new (.cells o.cells false 0) = h0 at o1
  obtain ⟨_, _, lc, _, _⟩ := dk_ld (p := p) (r := r) (c := c) (sT := sT) (sW := sW) (ro := false) (o1.get (q, dkO p r c sT sW) (by simp))
  have o2 := o1.new (.cells (List.replicate 5 (.int .i64 0)) false 0)
  generalize ht2 : h0.next = t2 at o2
  generalize hh3 : h0.new (.cells (List.replicate 5 (.int .i64 0)) false 0) = h3 at o2
  have s4 := stBA_of (sp := none) (o := 0) (sz := 5) (vs := c.cells) o2.head rfl cf_cell (by simp)
  have w4 : writeAt (List.replicate 5 (.int .i64 0)) 0 c.cells = c.cells := rfl
  rw [w4] at s4
  have o4 := o2.put (.cells c.cells false 0)
  generalize hh4 : h3.put t2 (.cells c.cells false 0) = h4 at s4 o4
  obtain ⟨_, _, _, _, _, l6, l7⟩ := DOp.ld (ro := false) hok (o4.get (t, .cells o.cells false 0) (by simp))
  rcases Bool.eq_false_or_eq_true o.odd with hb | hb
  · have s5 := stBA_of (sp := none) (o := 0) (sz := 5) (vs := o.oc.cells) o4.head rfl cf_cell (by simp [Cf.cells])
    have w5 : writeAt c.cells 0 o.oc.cells = o.oc.cells := rfl
    rw [w5] at s5
    have o5 := o4.put (.cells o.oc.cells false 0)
    generalize hh5 : h4.put t2 (.cells o.oc.cells false 0) = h5 at s5 o5
    refine ⟨t, t2, h0, h3, h4, h5, rfl, rfl, lc, ht2, hh3, s4, ?_, ?_⟩
    · simp only [l7, hb, Option.bind_some, cond_true, l6, s5]
    · rw [DOp.cf, if_pos hb]; exact o5
  · refine ⟨t, t2, h0, h3, h4, h4, rfl, rfl, lc, ht2, hh3, s4, ?_, ?_⟩
    · simp only [l7, hb, Option.bind_some, cond_false]
    · rw [DOp.cf, if_neg (by rw [hb]; simp)]; exact o4
theorem DOp.cfw (hok : o.ok R K G) (hc : c.wf) : (o.cf c).wf := by
  unfold DOp.cf; split
  · exact hok.cw
  · exact hc
theorem svW_len {N : Nat} : (svW c N ws z v).length ≤ ws.length + 1 := by
  unfold svW; split <;> simp
theorem Byts.save {N : Nat} (hB : Byts ds ws) (hw : c.wf) (hv : Byt v) : Byts ds (svW c N ws z v) := by
  unfold svW
  split
  · rename_i hz
    obtain ⟨hf, h0, h1⟩ := has_b hw hz
    obtain ⟨_, _, hb, _⟩ := fit_b hw hf
    refine ⟨hB.d, fun w hw => ?_⟩
    rcases List.mem_append.1 hw with hw | hw
    · exact hB.w w hw
    · rw [List.mem_singleton.1 hw]; exact enc_byt h0 (by omega) hv
  · exact hB
theorem Byts.ak {P : Nat → Bool} (hB : Byts ds ws) : ∀ {j : Nat}, j ≤ ws.length → Byts (ak P ws j ds) [] := by
  intro j
  induction j with
  | zero => intro _; exact ⟨hB.d, fun w hw => absurd hw List.not_mem_nil⟩
  | succ j ih =>
    intro hj
    rw [ak_succ (show j < ws.length by omega)]
    split
    · refine ⟨fun d hd => ?_, fun w hw => absurd hw List.not_mem_nil⟩
      rcases List.mem_or_eq_of_mem_set hd with hd | hd
      · exact (ih (by omega)).d d hd
      · rw [hd]; exact hB.w _ (List.getElem_mem _)
    · exact ih (by omega)
theorem Byts.write (hB : Byts ds ws) (hX : Byt X) : Byts ds (wrz ds ws X z) := by
  unfold wrz; split
  · refine ⟨hB.d, fun w hw => ?_⟩
    rcases List.mem_append.1 hw with hw | hw
    · exact hB.w w hw
    · rw [List.mem_singleton.1 hw]; exact hX
  · exact hB
end
end Go.Proofs.YtjdbmfhjccaggaaDoor
/- The desk: each kind of step. -/
namespace Go.Proofs.YtjdbmfhjccaggaaDoor
open Go
set_option linter.unusedVariables false
set_option linter.unusedSimpArgs false
theorem Own.to' {h : Heap} {D F : Ch} (ho : Own h (D ++ ([] ++ F))) : Own h (D ++ []) := (ho.to (B := F ++ (D ++ [])) fun x => by simp only [cnt_append, cnt_nil]; omega).right
theorem hl3 {a b c : Nat × AObj} : ∀ x, x ∈ [a.1, a.1, b.1, c.1] ↔ ∃ z ∈ [a, b, c], z.1 = x := by
  intro x
  constructor
  · intro h
    simp only [List.mem_cons, List.not_mem_nil, or_false] at h
    rcases h with rfl | rfl | rfl | rfl
    · exact ⟨a, by simp, rfl⟩
    · exact ⟨a, by simp, rfl⟩
    · exact ⟨b, by simp, rfl⟩
    · exact ⟨c, by simp, rfl⟩
  · rintro ⟨z, h, rfl⟩
    simp only [List.mem_cons, List.not_mem_nil, or_false] at h
    rcases h with rfl | rfl | rfl <;> simp
theorem hl2 {a b : Nat × AObj} : ∀ x, x ∈ [a.1, b.1] ↔ ∃ z ∈ [a, b], z.1 = x := by
  intro x
  constructor
  · intro h
    simp only [List.mem_cons, List.not_mem_nil, or_false] at h
    rcases h with rfl | rfl
    · exact ⟨a, by simp, rfl⟩
    · exact ⟨b, by simp, rfl⟩
  · rintro ⟨z, h, rfl⟩
    simp only [List.mem_cons, List.not_mem_nil, or_false] at h
    rcases h with rfl | rfl <;> simp
theorem hl1 {a : Nat × AObj} : ∀ x, x ∈ [a.1] ↔ ∃ z ∈ [a], z.1 = x := by
  intro x
  simp [eq_comm]
theorem hl0 : ∀ x, x ∈ ([] : List Nat) ↔ ∃ z ∈ ([] : Ch), z.1 = x := by
  intro x; simp
section
variable {n m k p r q i : Nat} {s u sT sW : Value} {L X V v R K : List Int} {h : Heap} {F G A Lp Lr : Ch} {c : Cf} {z : Int} {cs : List Value} {ds vals : List (List Int)} {ws : List (Int × List Int)} {ro : Bool} {o : DOp} {T : Nat → Option AFun}
theorem play1 (hok : o.ok R K G) (hk : o.kind = 1) (hcw : c.wf) (hd : Dk p ds ws Lp) (hr : Rd' r ds ws Lr) (hB : Byts ds ws) (hN : ds.length ≤ 4096) (hW : ws.length ≤ 900) (hm0 : tabO ∈ F) (ho : Own h ((q, dkO p r c sT sW) :: (Lp ++ (Lr ++ F)))) (hn : 300000 ≤ n) :
    ∃ h' ws' Lp' Lr', f_w8_desk_plays n (some ⟨q, 0, none⟩) (.agg ⟨o.cells⟩) h = some ((true, ()), h') ∧ Dk p ds ws' Lp' ∧ Rd' r ds ws' Lr' ∧ ws'.length ≤ ws.length + 1 ∧ Byts ds ws' ∧ Own h' ((q, dkO p r c sT sW) :: (Lp' ++ (Lr' ++ F))) := by
  obtain ⟨t, t2, h0, h3, h4, H, ht, hh0, lc, ht2, hh3, s4, key, oH⟩ := pre_ok hok ho
  have hall := DOp.all hok
  have hcc := DOp.cfw hok hcw
  have hco : cellsOf (.agg ⟨o.cells⟩) = o.cells := rfl
  obtain ⟨l0, l1, lv, _⟩ := DOp.ld (ro := false) hok (oH.get (t, .cells o.cells false 0) (by simp))
  obtain ⟨m0, m1, _⟩ := dk_ld (p := p) (r := r) (c := c) (sT := sT) (sW := sW) (ro := false) (oH.get (q, dkO p r c sT sW) (by simp))
  obtain ⟨_, _, _, _, _, x5⟩ := Cf.ld' (c := o.cf c) (oH.get (t2, .cells (o.cf c).cells false 0) (by simp))
  obtain ⟨A3, hA3⟩ : ∃ A3 : Ch, A3 = [(t, .cells o.cells false 0), (t2, .cells (o.cf c).cells false 0), (q, dkO p r c sT sW)] := ⟨_, rfl⟩
  have hl : ∀ x, x ∈ [t, t, t2, q] ↔ ∃ z ∈ A3, z.1 = x := by rw [hA3]; exact hl3 (a := (t, .cells o.cells false 0)) (b := (t2, .cells (o.cf c).cells false 0)) (c := (q, dkO p r c sT sW))
  have o1 : Own H (A3 ++ (Lp ++ (Lr ++ F))) := oH.to fun x => by rw [hA3]; simp only [cnt_append, cnt_cons, cnt_nil]; omega
  have o2 := o1.roL hl fun z hz => by
    rw [hA3] at hz
    simp only [List.mem_cons, List.not_mem_nil, or_false] at hz
    rcases hz with rfl | rfl | rfl <;> exact ⟨_, _, _, rfl⟩
  obtain ⟨h20, L1, e20, d20, o20⟩ := save_ok (n := n) (z := o.block) (c := o.cf c) hd hN hcc hok.v hok.vb (h := hid H [] [t, t, t2, q]) (F := A3.map roA ++ (Lr ++ F)) (List.mem_append_right _ (List.mem_append_right _ hm0)) (o2.to fun x => by simp only [cnt_append]; omega) (by omega) (by omega)
  have o21 := Own.backL (h0 := H) (A := A3) (X := L1 ++ (Lr ++ F)) (l := [t, t, t2, q]) (o20.to fun x => by simp only [cnt_append]; omega) hl (fun z hz => o1.get z (List.mem_append_left _ hz))
  generalize hh21 : h20.putBack H [t, t, t2, q] = h21 at o21
  obtain ⟨h22, L2, e22, d22, o22⟩ := rsave_ok (n := n) (z := o.block) (c := o.cf c) hr hN hcc hok.v hok.vb (h := h21) (F := A3 ++ (L1 ++ F)) (o21.to fun x => by simp only [cnt_append]; omega) (by omega) (by omega)
  have oF : Own h22 ((t, .cells o.cells false 0) :: (t2, .cells (o.cf c).cells false 0) :: ((q, dkO p r c sT sW) :: (L1 ++ (L2 ++ F)))) := o22.to fun x => by rw [hA3]; simp only [cnt_append, cnt_cons, cnt_nil]; omega
  refine ⟨h22, _, L1, L2, ?_, d20, d22, svW_len, hB.save hcc hok.vb, oF.tail.tail⟩
  simp only [f_w8_desk_plays, hco, hall, cond_true, bnd_eq, hh0, nwA_eq, ht, Option.bind_some, fa_mk, Nat.zero_add, lc, ht2, hh3, s4, key, l0, hk, decide_true, m0, x5, l1, lv, m1, e20, List.nil_append, hh21, e22]
theorem play2 (hT : LfT T) (hok : o.ok R K G) (hk : o.kind = 2) (hcw : c.wf) (hd : Dk p ds ws Lp) (hr : Rd' r ds ws Lr) (hB : Byts ds ws) (hN : ds.length ≤ 4096) (hW : ws.length ≤ 900) (hm0 : tabO ∈ F) (ho : Own h ((q, dkO p r c sT sW) :: (Lp ++ (Lr ++ F)))) (hn : 300000 ≤ n) :
    ∃ h', f_w8_desk_plays n (some ⟨q, 0, none⟩) (.agg ⟨o.cells⟩) h = some ((true, ()), h') ∧ Own h' ((q, dkO p r c sT sW) :: (Lp ++ (Lr ++ F))) := by
  obtain ⟨t, t2, h0, h3, h4, H, ht, hh0, lc, ht2, hh3, s4, key, oH⟩ := pre_ok hok ho
  have hall := DOp.all hok
  have hcc := DOp.cfw hok hcw
  have hco : cellsOf (.agg ⟨o.cells⟩) = o.cells := rfl
  obtain ⟨l0, l1, _⟩ := DOp.ld (ro := false) hok (oH.get (t, .cells o.cells false 0) (by simp))
  obtain ⟨m0, _⟩ := dk_ld (p := p) (r := r) (c := c) (sT := sT) (sW := sW) (ro := false) (oH.get (q, dkO p r c sT sW) (by simp))
  obtain ⟨_, _, _, _, _, x5⟩ := Cf.ld' (c := o.cf c) (oH.get (t2, .cells (o.cf c).cells false 0) (by simp))
  have hz : List.replicate 32 (Value.int .u8 0) = z32' := rfl
  have hvl := ldV_len (c := o.cf c) (ds := ds) (ws := ws) (z := o.block)
  -- the disk's
  have o5 := oH.new (.cells z32' false 0)
  generalize ht5 : H.next = t5 at o5
  generalize hh5 : H.new (.cells z32' false 0) = h5 at o5
  obtain ⟨F5, hF5⟩ : ∃ F5 : Ch, F5 = (t2, .cells (o.cf c).cells false 0) :: (t, .cells o.cells false 0) :: (q, dkO p r c sT sW) :: (Lp ++ (Lr ++ F)) := ⟨_, rfl⟩
  have o5' : Own h5 ([(t5, .cells z32' false 0)] ++ ([] ++ F5)) := by rw [hF5]; exact o5
  have o6 := o5'.roDL (l1 := [t5]) (l2 := []) (hl1 (a := (t5, .cells z32' false 0))) hl0 (fun x hx => absurd hx List.not_mem_nil)
  obtain ⟨h7, e7, o7⟩ := load_home (n := n) (z := o.block) (c := o.cf c) hd hN hcc hB (h := hid h5 [t5] []) (F := (t2, .cells (o.cf c).cells false 0) :: (t, .cells o.cells false 0) :: (q, dkO p r c sT sW) :: (Lr ++ F)) (by simp [hm0]) (o6.to fun x => by rw [hF5]; simp only [List.map_nil, cnt_append, cnt_cons, cnt_nil]; omega) (by omega) (by omega)
  have n7 := sf_next (ok_home_Load hT n) (a := (some ⟨p, 0, none⟩, (.agg ⟨(o.cf c).cells⟩, (o.block, ())))) e7
  rw [next_hid] at n7
  have o8 := Own.backDL (h := h7) (h0 := h5) (D := [(t5, .cells z32' false 0)]) (R := []) (X := F5) (l1 := [t5]) (l2 := []) (o7.to fun x => by rw [hF5]; simp only [List.map_nil, cnt_append, cnt_cons, cnt_nil]; omega) (o5'.to' ) (hl1 (a := (t5, .cells z32' false 0))) hl0 (fun x hx => by rw [List.mem_singleton.1 hx]; exact Nat.lt_of_lt_of_le (o5.lt _ (List.mem_cons_self ..)) n7) (fun x hx y hy => o5'.apart hx (List.mem_append_right _ hy))
  generalize hh8 : h7.putBack h5 ([t5] ++ []) = h8 at o8
  have o8' : Own h8 ((t5, .cells z32' false 0) :: F5) := o8
  obtain ⟨h9, s9, o9, _⟩ := tmp32 (w := ldV (o.cf c) ds ws o.block) o8' (by decide) hvl
  -- the document's
  rw [hF5] at o9
  obtain ⟨_, l1', _⟩ := DOp.ld (ro := false) hok (o9.get (t, .cells o.cells false 0) (by simp))
  obtain ⟨_, m1, _⟩ := dk_ld (p := p) (r := r) (c := c) (sT := sT) (sW := sW) (ro := false) (o9.get (q, dkO p r c sT sW) (by simp))
  obtain ⟨_, _, _, _, _, x5'⟩ := Cf.ld' (c := o.cf c) (o9.get (t2, .cells (o.cf c).cells false 0) (by simp))
  have o10 := o9.new (.cells z32' false 0)
  generalize ht10 : h9.next = t10 at o10
  generalize hh10 : h9.new (.cells z32' false 0) = h10 at o10
  obtain ⟨F10, hF10⟩ : ∃ F10 : Ch, F10 = (t5, .cells (iz .u8 (ldV (o.cf c) ds ws o.block)) false 0) :: (t2, .cells (o.cf c).cells false 0) :: (t, .cells o.cells false 0) :: (q, dkO p r c sT sW) :: (Lp ++ (Lr ++ F)) := ⟨_, rfl⟩
  have o10' : Own h10 ([(t10, .cells z32' false 0)] ++ ([] ++ F10)) := by rw [hF10]; exact o10
  have o11 := o10'.roDL (l1 := [t10]) (l2 := []) (hl1 (a := (t10, .cells z32' false 0))) hl0 (fun x hx => absurd hx List.not_mem_nil)
  obtain ⟨h12, e12, o12⟩ := rload_home (n := n) (z := o.block) (c := o.cf c) hr hN hcc hB (h := hid h10 [t10] []) (F := (t5, .cells (iz .u8 (ldV (o.cf c) ds ws o.block)) false 0) :: (t2, .cells (o.cf c).cells false 0) :: (t, .cells o.cells false 0) :: (q, dkO p r c sT sW) :: (Lp ++ F)) (o11.to fun x => by rw [hF10]; simp only [List.map_nil, cnt_append, cnt_cons, cnt_nil]; omega) (by omega) (by omega)
  have n12 := sf_next (ok_r8_Load hT n) (a := (some ⟨r, 0, none⟩, (.agg ⟨(o.cf c).cells⟩, (o.block, ())))) e12
  rw [next_hid] at n12
  have o13 := Own.backDL (h := h12) (h0 := h10) (D := [(t10, .cells z32' false 0)]) (R := []) (X := F10) (l1 := [t10]) (l2 := []) (o12.to fun x => by rw [hF10]; simp only [List.map_nil, cnt_append, cnt_cons, cnt_nil]; omega) (o10'.to') (hl1 (a := (t10, .cells z32' false 0))) hl0 (fun x hx => by rw [List.mem_singleton.1 hx]; exact Nat.lt_of_lt_of_le (o10.lt _ (List.mem_cons_self ..)) n12) (fun x hx y hy => o10'.apart hx (List.mem_append_right _ hy))
  generalize hh13 : h12.putBack h10 ([t10] ++ []) = h13 at o13
  have o13' : Own h13 ((t10, .cells z32' false 0) :: F10) := o13
  obtain ⟨h14, s14, o14, l14⟩ := tmp32 (w := ldV (o.cf c) ds ws o.block) o13' (by decide) hvl
  rw [hF10] at o14
  have l15 := arr_ld (o14.get (t5, .cells (iz .u8 (ldV (o.cf c) ds ws o.block)) false 0) (by simp)) hvl
  have ev := eq_ok (h := h14) hvl hvl
  rw [decide_eq_true rfl] at ev
  refine ⟨h14, ?_, o14.tail.tail.tail.tail⟩
  simp only [f_w8_desk_plays, hco, hall, cond_true, bnd_eq, hh0, nwA_eq, ht, Option.bind_some, fa_mk, Nat.zero_add, lc, ht2, hh3, s4, key, l0, hk, show (decide ((2 : Int) = 1)) = false from rfl, cond_false, decide_true, m0, x5, l1, hz, ht5, hh5, e7, hh8, s9, m1, x5', l1', ht10, hh10, e12, hh13, s14, l15, l14, ev]
theorem play4 (hok : o.ok R K G) (hk : o.kind = 4) (hcw : c.wf) (hd : Dk p ds ws Lp) (hr : Rd' r ds ws Lr) (hB : Byts ds ws) (hN : ds.length ≤ 4096) (hW : ws.length ≤ 900) (ho : Own h ((q, dkO p r c sT sW) :: (Lp ++ (Lr ++ (G ++ F))))) (hn : 300000 ≤ n) :
    ∃ h' ws' Lp' Lr', f_w8_desk_plays n (some ⟨q, 0, none⟩) (.agg ⟨o.cells⟩) h = some ((true, ()), h') ∧ Dk p ds ws' Lp' ∧ Rd' r ds ws' Lr' ∧ ws'.length ≤ ws.length + 1 ∧ Byts ds ws' ∧ Own h' ((q, dkO p r c sT sW) :: (Lp' ++ (Lr' ++ (G ++ F)))) := by
  obtain ⟨t, t2, h0, h3, h4, H, ht, hh0, lc, ht2, hh3, s4, key, oH⟩ := pre_ok hok ho
  have hall := DOp.all hok
  have hco : cellsOf (.agg ⟨o.cells⟩) = o.cells := rfl
  obtain ⟨l0, _⟩ := DOp.ld (ro := false) hok (oH.get (t, .cells o.cells false 0) (by simp))
  have m5 := mkSl_of (nx := H.next) (bytes := 1) (es := 1) (zs := [.int .u8 0]) (k := .i64) (k' := .i64) (l := 64) (c := 64) (by omega) (by omega) (by omega)
  have hz5 : (List.replicate 64 [Value.int .u8 0]).flatten = iz .u8 (List.replicate 64 0) := rfl
  rw [hz5] at m5
  have m5 : mkSl H.next 1 1 [.int .u8 0] (.int .i64 64) (.int .i64 64) = _ := m5
  have o5 := oH.new (.cells (iz .u8 (List.replicate 64 0)) false 1)
  generalize ht5 : H.next = b at o5 m5
  generalize hh5 : H.new (.cells (iz .u8 (List.replicate 64 0)) false 1) = h5 at o5
  obtain ⟨_, _, _, l34, _⟩ := DOp.ld (ro := false) hok (o5.get (t, .cells o.cells false 0) (by simp))
  obtain ⟨h6, e6, o6⟩ := copy_new (m := 64) (hok.r.rds (h := h5) (F := (b, .cells (iz .u8 (List.replicate 64 0)) false 1) :: (t2, .cells (o.cf c).cells false 0) :: (t, .cells o.cells false 0) :: (q, dkO p r c sT sW) :: (Lp ++ (Lr ++ F))) (o5.to fun x => by simp only [cnt_append, cnt_cons]; omega)) o5 (by simp)
  obtain ⟨X, hX⟩ : ∃ X, X = R.take 64 ++ (List.replicate 64 (0 : Int)).drop (Nat.min R.length 64) := ⟨_, rfl⟩
  have hXi : (iz .u8 R).take 64 ++ (iz .u8 (List.replicate 64 0)).drop (Nat.min R.length 64) = iz .u8 X := by rw [hX]; simp [iz, List.map_take, List.map_drop]
  have hXl : X.length = 64 := by rw [hX, List.length_append, List.length_take, List.length_drop, List.length_replicate, show Nat.min R.length 64 = min R.length 64 from rfl]; omega
  have hXb : Byt X := by
    rw [hX]
    intro z hz
    rcases List.mem_append.1 hz with hz | hz
    · exact hok.rb z (List.mem_of_mem_take hz)
    · rw [List.eq_of_mem_replicate (List.mem_of_mem_drop hz)]; decide
  rw [hXi] at o6
  have hu : Sow 1 (.slice (some ⟨b, 0, some 0⟩) 64 64) X.length (iz .u8 X) [(b, .cells (iz .u8 X) false 1)] := by
    have := lits (b := b) (vs := iz .u8 X)
    simpa [iz, hXl] using this
  obtain ⟨_, l1, _⟩ := DOp.ld (ro := false) hok (o6.get (t, .cells o.cells false 0) (by simp))
  obtain ⟨m0, m1, _⟩ := dk_ld (p := p) (r := r) (c := c) (sT := sT) (sW := sW) (ro := false) (o6.get (q, dkO p r c sT sW) (by simp))
  obtain ⟨A3, hA3⟩ : ∃ A3 : Ch, A3 = [(t, .cells o.cells false 0), (q, dkO p r c sT sW)] := ⟨_, rfl⟩
  have hl : ∀ x, x ∈ [t, q] ↔ ∃ z ∈ A3, z.1 = x := by rw [hA3]; exact hl2 (a := (t, .cells o.cells false 0)) (b := (q, dkO p r c sT sW))
  obtain ⟨B, hB'⟩ : ∃ B : Ch, B = [(b, .cells (iz .u8 X) false 1)] := ⟨_, rfl⟩
  rw [← hB'] at hu
  have o7 : Own h6 (A3 ++ (B ++ ((t2, .cells (o.cf c).cells false 0) :: (Lp ++ (Lr ++ (G ++ F)))))) := o6.to fun x => by rw [hA3, hB']; simp only [cnt_append, cnt_cons, cnt_nil]; omega
  have o8 := o7.roL hl fun z hz => by
    rw [hA3] at hz
    simp only [List.mem_cons, List.not_mem_nil, or_false] at hz
    rcases hz with rfl | rfl <;> exact ⟨_, _, _, rfl⟩
  obtain ⟨z, hz⟩ : ∃ z, z = IntKind.i64.wrap (1 + Int.tmod o.block 4096) := ⟨_, rfl⟩
  obtain ⟨h20, L1, e20, d20, o20⟩ := write_z (n := n) (z := z) hd hu (h := hid h6 [] [t, q]) (F := A3.map roA ++ ((t2, .cells (o.cf c).cells false 0) :: (Lr ++ (G ++ F)))) (o8.to fun x => by simp only [cnt_append, cnt_cons]; omega) (by omega)
  have o21 := Own.backL (h0 := h6) (A := A3) (X := L1 ++ (B ++ ((t2, .cells (o.cf c).cells false 0) :: (Lr ++ (G ++ F))))) (l := [t, q]) (o20.to fun x => by simp only [cnt_append, cnt_cons]; omega) hl (fun z hz => o7.get z (List.mem_append_left _ hz))
  generalize hh21 : h20.putBack h6 [t, q] = h21 at o21
  obtain ⟨h22, L2, e22, d22, o22⟩ := rwrite_z (n := n) (z := z) hr hu (h := h21) (F := A3 ++ (L1 ++ ((t2, .cells (o.cf c).cells false 0) :: (G ++ F)))) (o21.to fun x => by simp only [cnt_append, cnt_cons]; omega) hN (by omega)
  have oF : Own h22 ((t, .cells o.cells false 0) :: (t2, .cells (o.cf c).cells false 0) :: (B ++ ((q, dkO p r c sT sW) :: (L1 ++ (L2 ++ (G ++ F)))))) := o22.to fun x => by rw [hA3]; simp only [cnt_append, cnt_cons, cnt_nil]; omega
  refine ⟨h22, _, L1, L2, ?_, d20, d22, wrz_len, hB.write hXb, oF.tail.tail.right⟩
  simp only [f_w8_desk_plays, hco, hall, cond_true, bnd_eq, hh0, nwA_eq, ht, Option.bind_some, fa_mk, Nat.zero_add, lc, ht2, hh3, s4, key, l0, hk, show (decide ((4 : Int) = 1)) = false from rfl, show (decide ((4 : Int) = 2)) = false from rfl, show (decide ((4 : Int) = 3)) = false from rfl, cond_false, decide_true, ht5, m5, hh5, l34, e6, m0, l1, m1, ← hz, e20, List.nil_append, hh21, e22]
theorem play5 (hok : o.ok R K G) (hk : o.kind = 5) (hcw : c.wf) (hd : Dk p ds ws Lp) (hr : Rd' r ds ws Lr) (hB : Byts ds ws) (hN : ds.length ≤ 4096) (hW : ws.length ≤ 900) (ho : Own h ((q, dkO p r c sT sW) :: (Lp ++ (Lr ++ F)))) (hn : 300000 ≤ n) :
    ∃ h' ds' Lp' Lr', f_w8_desk_plays n (some ⟨q, 0, none⟩) (.agg ⟨o.cells⟩) h = some ((true, ()), h') ∧ Dk p ds' [] Lp' ∧ Rd' r ds' [] Lr' ∧ ds'.length = ds.length ∧ Byts ds' [] ∧ Own h' ((q, dkO p r c sT sW) :: (Lp' ++ (Lr' ++ F))) := by
  obtain ⟨t, t2, h0, h3, h4, H, ht, hh0, lc, ht2, hh3, s4, key, oH⟩ := pre_ok hok ho
  have hall := DOp.all hok
  have hco : cellsOf (.agg ⟨o.cells⟩) = o.cells := rfl
  obtain ⟨l0, _⟩ := DOp.ld (ro := false) hok (oH.get (t, .cells o.cells false 0) (by simp))
  obtain ⟨m0, _⟩ := dk_ld (p := p) (r := r) (c := c) (sT := sT) (sW := sW) (ro := false) (oH.get (q, dkO p r c sT sW) (by simp))
  obtain ⟨h5, L1, e5, d5, o5⟩ := flush_ok (n := n) (sp := none) hd (h := H) (F := (t2, .cells (o.cf c).cells false 0) :: (t, .cells o.cells false 0) :: (q, dkO p r c sT sW) :: (Lr ++ F)) (oH.to fun x => by simp only [cnt_append, cnt_cons]; omega) (by omega) (by omega)
  obtain ⟨_, m1, _⟩ := dk_ld (p := p) (r := r) (c := c) (sT := sT) (sW := sW) (ro := false) (o5.get (q, dkO p r c sT sW) (by simp))
  obtain ⟨h6, L2, e6, d6, o6⟩ := rflush_ok (n := n) (sp := none) hr (h := h5) (F := (t2, .cells (o.cf c).cells false 0) :: (t, .cells o.cells false 0) :: (q, dkO p r c sT sW) :: (L1 ++ F)) (o5.to fun x => by simp only [cnt_append, cnt_cons]; omega) hN (by omega) (by omega)
  have oF : Own h6 ((t, .cells o.cells false 0) :: (t2, .cells (o.cf c).cells false 0) :: ((q, dkO p r c sT sW) :: (L1 ++ (L2 ++ F)))) := o6.to fun x => by simp only [cnt_append, cnt_cons, cnt_nil]; omega
  refine ⟨h6, _, L1, L2, ?_, d5, d6, ak_len, hB.ak (Nat.le_refl _), oF.tail.tail⟩
  simp only [f_w8_desk_plays, hco, hall, cond_true, bnd_eq, hh0, nwA_eq, ht, Option.bind_some, fa_mk, Nat.zero_add, lc, ht2, hh3, s4, key, l0, hk, show (decide ((5 : Int) = 1)) = false from rfl, show (decide ((5 : Int) = 2)) = false from rfl, show (decide ((5 : Int) = 3)) = false from rfl, show (decide ((5 : Int) = 4)) = false from rfl, cond_false, decide_true, m0, e5, m1, e6]
theorem play6 (hok : o.ok R K G) (hk : o.kind = 6) (hcw : c.wf) (hd : Dk p ds ws Lp) (hr : Rd' r ds ws Lr) (hB : Byts ds ws) (hN : ds.length ≤ 4096) (hW : ws.length ≤ 900) (ho : Own h ((q, dkO p r c sT sW) :: (Lp ++ (Lr ++ (G ++ F))))) (hK : K.length ≤ 1152921504606846976) (hn : K.length + 300000 ≤ n) :
    ∃ h' ds' Lp' Lr', f_w8_desk_plays n (some ⟨q, 0, none⟩) (.agg ⟨o.cells⟩) h = some ((true, ()), h') ∧ Dk p ds' [] Lp' ∧ Rd' r ds' [] Lr' ∧ ds'.length = ds.length ∧ Byts ds' [] ∧ Own h' ((q, dkO p r c sT sW) :: (Lp' ++ (Lr' ++ (G ++ F)))) := by
  obtain ⟨t, t2, h0, h3, h4, H, ht, hh0, lc, ht2, hh3, s4, key, oH⟩ := pre_ok hok ho
  have hall := DOp.all hok
  have hco : cellsOf (.agg ⟨o.cells⟩) = o.cells := rfl
  obtain ⟨l0, _, _, _, l35, _⟩ := DOp.ld (ro := false) hok (oH.get (t, .cells o.cells false 0) (by simp))
  obtain ⟨m0, _⟩ := dk_ld (p := p) (r := r) (c := c) (sT := sT) (sW := sW) (ro := false) (oH.get (q, dkO p r c sT sW) (by simp))
  obtain ⟨h5, L1, e5, d5, o5⟩ := crash_ok (n := n) (sp := none) hd hok.k (h := H) (F := (t2, .cells (o.cf c).cells false 0) :: (t, .cells o.cells false 0) :: (q, dkO p r c sT sW) :: (Lr ++ F)) (oH.to fun x => by simp only [cnt_append, cnt_cons]; omega) (by omega) hK (by omega)
  obtain ⟨_, m1, _⟩ := dk_ld (p := p) (r := r) (c := c) (sT := sT) (sW := sW) (ro := false) (o5.get (q, dkO p r c sT sW) (by simp))
  obtain ⟨_, _, _, _, l35', _⟩ := DOp.ld (ro := false) hok (o5.get (t, .cells o.cells false 0) (by simp))
  obtain ⟨h6, L2, e6, d6, o6⟩ := rcrash_ok (n := n) (sp := none) hr hok.k (h := h5) (F := (t2, .cells (o.cf c).cells false 0) :: (t, .cells o.cells false 0) :: (q, dkO p r c sT sW) :: (L1 ++ F)) (o5.to fun x => by simp only [cnt_append, cnt_cons]; omega) hN (by omega) hK (by omega)
  have oF : Own h6 ((t, .cells o.cells false 0) :: (t2, .cells (o.cf c).cells false 0) :: ((q, dkO p r c sT sW) :: (L1 ++ (L2 ++ (G ++ F))))) := o6.to fun x => by simp only [cnt_append, cnt_cons, cnt_nil]; omega
  refine ⟨h6, _, L1, L2, ?_, d5, d6, ak_len, hB.ak (Nat.le_refl _), oF.tail.tail⟩
  simp only [f_w8_desk_plays, hco, hall, cond_true, bnd_eq, hh0, nwA_eq, ht, Option.bind_some, fa_mk, Nat.zero_add, lc, ht2, hh3, s4, key, l0, hk, show (decide ((6 : Int) = 1)) = false from rfl, show (decide ((6 : Int) = 2)) = false from rfl, show (decide ((6 : Int) = 3)) = false from rfl, show (decide ((6 : Int) = 4)) = false from rfl, show (decide ((6 : Int) = 5)) = false from rfl, cond_false, decide_true, m0, l35, e5, m1, l35', e6]
theorem play0 (hok : o.ok R K G) (hk1 : o.kind ≠ 1) (hk2 : o.kind ≠ 2) (hk3 : o.kind ≠ 3) (hk4 : o.kind ≠ 4) (hk5 : o.kind ≠ 5) (hk6 : o.kind ≠ 6) (ho : Own h ((q, dkO p r c sT sW) :: F)) :
    ∃ h', f_w8_desk_plays n (some ⟨q, 0, none⟩) (.agg ⟨o.cells⟩) h = some ((true, ()), h') ∧ Own h' ((q, dkO p r c sT sW) :: F) := by
  obtain ⟨t, t2, h0, h3, h4, H, ht, hh0, lc, ht2, hh3, s4, key, oH⟩ := pre_ok hok ho
  have hall := DOp.all hok
  have hco : cellsOf (.agg ⟨o.cells⟩) = o.cells := rfl
  obtain ⟨l0, _⟩ := DOp.ld (ro := false) hok (oH.get (t, .cells o.cells false 0) (by simp))
  refine ⟨H, ?_, oH.tail.tail⟩
  simp only [f_w8_desk_plays, hco, hall, cond_true, bnd_eq, hh0, nwA_eq, ht, Option.bind_some, fa_mk, Nat.zero_add, lc, ht2, hh3, s4, key, l0, decide_eq_false hk1, decide_eq_false hk2, decide_eq_false hk3, decide_eq_false hk4, decide_eq_false hk5, decide_eq_false hk6, cond_false]
end
end Go.Proofs.YtjdbmfhjccaggaaDoor
/- The desk: All, told and kept. -/
namespace Go.Proofs.YtjdbmfhjccaggaaDoor
open Go
set_option linter.unusedVariables false
set_option linter.unusedSimpArgs false
structure Te where
  v : Value
  A : Ch
  V : List (List Int)
def Te.ok (e : Te) : Prop := Slc 32 e.v e.V.length (e.V.flatMap (iz .u8)) e.A ∧ (∀ w ∈ e.V, w.length = 32) ∧ e.V.length ≤ 64
theorem te_cnt {es : List Te} {j : Nat} (hj : j < es.length) (x : Nat × AObj) : cnt x (es.flatMap Te.A) = cnt x es[j].A + cnt x ((es.eraseIdx j).flatMap Te.A) := by
  induction es generalizing j with
  | nil => cases hj
  | cons e es ih =>
    cases j with
    | zero => simp [cnt_append]
    | succ j =>
      have := ih (j := j) (by simpa using hj)
      simp only [List.flatMap_cons, cnt_append, List.getElem_cons_succ, List.eraseIdx_cons_succ]
      omega
section
variable {n m k p r q i nT nW : Nat} {s u sT sW : Value} {L X V v R K : List Int} {h : Heap} {F G A Lp Lr UT UW : Ch} {c : Cf} {z : Int} {cs cT cW : List Value} {ds vals : List (List Int)} {ws : List (Int × List Int)} {ro : Bool} {o : DOp} {T : Nat → Option AFun}
theorem alV_ok (hw : c.wf) : (alV c ds ws).length ≤ 64 ∧ ∀ w ∈ alV c ds ws, w.length = 32 := by
  unfold alV
  split
  · rename_i he
    have hf : fitE c ds.length = 0 := by
      unfold alE at he
      by_cases hf : fitE c ds.length = 0
      · exact hf
      · rw [if_neg hf] at he; exact absurd he hf
    obtain ⟨_, _, hb, _⟩ := fit_b hw hf
    refine ⟨by simp; omega, fun w hw => ?_⟩
    obtain ⟨i, _, rfl⟩ := List.mem_map.1 hw
    exact ldV_len
  · exact ⟨Nat.zero_le _, fun w hw => absurd hw List.not_mem_nil⟩
theorem pass_ok {h0 h43 : Heap} {t t2 w : Nat} {cc : Cf} {oo : AObj} (ht2 : h0.next = t2) (hcc : cc.wf) (hd : Dk p ds ws Lp) (hr : Rd' r ds ws Lr) (hB : Byts ds ws) (hN : ds.length ≤ 4096) (hW : ws.length ≤ 900) (hm0 : tabO ∈ F)
    (hsT : Slc 1 sT nT cT UT) (hsW : Slc 1 sW nW cW UW) (hnT : nT ≤ 1000) (hnW : nW ≤ 1000) (hw : w < 2)
    (ho : Own h43 ((q, dkO p r c sT sW) :: ((t2, .cells cc.cells false 0) :: (t, oo) :: (UT ++ (UW ++ (Lp ++ (Lr ++ F))))))) (hn : 300000 ≤ n) :
    ∃ h68 sT' sW' UT' UW' e1 e2, f_w8_desk_plays_L69 n (some ⟨q, 0, none⟩) h0 (w : Int) h43 = some (.inl ((((w + 1 : Nat) : Int), ()), h68)) ∧ Te.ok e1 ∧ Te.ok e2 ∧ e1.V = e2.V ∧ Slc 1 sT' (nT + 1) (cT ++ [e1.v]) UT' ∧ Slc 1 sW' (nW + 1) (cW ++ [e2.v]) UW' ∧
      Own h68 ((q, dkO p r c sT' sW') :: ((t2, .cells cc.cells false 0) :: (t, oo) :: (UT' ++ (UW' ++ (Lp ++ (Lr ++ (e1.A ++ (e2.A ++ F)))))))) := by
  have hlt : (w : Int) < 2 := by omega
  obtain ⟨m0, _⟩ := dk_ld (p := p) (r := r) (c := c) (sT := sT) (sW := sW) (ro := false) (ho.get (q, dkO p r c sT sW) (by simp))
  obtain ⟨_, _, _, _, _, x5⟩ := Cf.ld' (c := cc) (ho.get (t2, .cells cc.cells false 0) (by simp))
  obtain ⟨s1, h1, A1, e1, a1, o1⟩ := all_home (n := n) hd hN hcc hB (h := h43) (F := (q, dkO p r c sT sW) :: ((t2, .cells cc.cells false 0) :: (t, oo) :: (UT ++ (UW ++ (Lr ++ F))))) (by simp [hm0]) (ho.to fun x => by simp only [cnt_append, cnt_cons]; omega) (by omega) (by omega)
  obtain ⟨_, m1, _⟩ := dk_ld (p := p) (r := r) (c := c) (sT := sT) (sW := sW) (ro := false) (o1.get (q, dkO p r c sT sW) (by simp))
  obtain ⟨_, _, _, _, _, x6⟩ := Cf.ld' (c := cc) (o1.get (t2, .cells cc.cells false 0) (by simp))
  obtain ⟨s2, h2, A2, e2, a2, o2⟩ := rall_home (n := n) hr hN hcc hB (h := h1) (F := A1 ++ ((q, dkO p r c sT sW) :: ((t2, .cells cc.cells false 0) :: (t, oo) :: (UT ++ (UW ++ (Lp ++ F)))))) (o1.to fun x => by simp only [cnt_append, cnt_cons]; omega) (by omega) (by omega)
  obtain ⟨hvl, hv32⟩ := alV_ok (c := cc) (ds := ds) (ws := ws) hcc
  have eS := sameV_ok (n := n) (vals := alV cc ds ws) hv32 a1 a2 (h := h2) (F := (q, dkO p r c sT sW) :: ((t2, .cells cc.cells false 0) :: (t, oo) :: (UT ++ (UW ++ (Lp ++ (Lr ++ F)))))) (o2.to fun x => by simp only [cnt_append, cnt_cons]; omega) (by omega) (by omega)
  obtain ⟨_, _, _, m7, _⟩ := dk_ld (p := p) (r := r) (c := c) (sT := sT) (sW := sW) (ro := false) (o2.get (q, dkO p r c sT sW) (by simp))
  have f1 : fillL [.slice none 0 0] [(0, 1, s1)] = some [s1] := by obtain ⟨x, y, rfl⟩ := a1.form; rfl
  have f2 : fillL [.slice none 0 0] [(0, 1, s2)] = some [s2] := by obtain ⟨x, y, rfl⟩ := a2.form; rfl
  have o3 := o2.new (.cells [s1] false 1)
  generalize hb3 : h2.next = b3 at o3
  generalize hh3 : h2.new (.cells [s1] false 1) = h3 at o3
  have hqb : q ≠ b3 := by
    have := o3.notin (q, dkO p r c sT sW) (by simp)
    exact fun e => this e
  have m8 : ldT .any (Heap.dropAll h3 [b3]) (some ⟨q, 8, none⟩) = some sW := by
    have hg : (Heap.dropAll h3 [b3]).get q = some (dkO p r c sT sW) := by
      rw [Heap.get_dropAll, if_neg (by simp; exact hqb)]
      exact o3.get (q, dkO p r c sT sW) (by simp)
    exact (dk_ld (p := p) (r := r) (c := c) (sT := sT) (sW := sW) (ro := false) hg).2.2.2.2
  have o4 := o3.new (.cells [s2] false 1)
  generalize hb4 : h3.next = b4 at o4
  generalize hh4 : h3.new (.cells [s2] false 1) = h4 at o4
  have y3 : Sow 1 (.slice (some ⟨b3, 0, some 0⟩) 1 1) 1 [s1] [(b3, .cells [s1] false 1)] := lits (b := b3) (vs := [s1])
  have y4 : Sow 1 (.slice (some ⟨b4, 0, some 0⟩) 1 1) 1 [s2] [(b4, .cells [s2] false 1)] := lits (b := b4) (vs := [s2])
  obtain ⟨sT', h5, UT', e5, a5, o5⟩ := hsT.appH y3 (D := [(b4, .cells [s2] false 1)]) (R := [(q, dkO p r c sT sW)]) (l1 := [b4]) (l2 := [q]) (h := h4) (F := A1 ++ (A2 ++ ((t2, .cells cc.cells false 0) :: (t, oo) :: (UW ++ (Lp ++ (Lr ++ F))))))
    (o4.to fun x => by simp only [cnt_append, cnt_cons, cnt_nil]; omega) (hl1 (a := (b4, .cells [s2] false 1))) (hl1 (a := (q, dkO p r c sT sW))) (fun x hx => by rw [List.mem_singleton.1 hx]; exact ⟨_, _, _, rfl⟩) (by decide) (bytes := 24) (by omega)
  generalize hh5 : h5.putBack h4 ([b4] ++ [q]) = h5' at o5
  obtain ⟨sW', h6, UW', e6, a6, o6⟩ := y4.app hsW (h := h5') (F := (b3, .cells [s1] false 1) :: (q, dkO p r c sT sW) :: (UT' ++ (A1 ++ (A2 ++ ((t2, .cells cc.cells false 0) :: (t, oo) :: (Lp ++ (Lr ++ F))))))) (o5.to fun x => by simp only [cnt_append, cnt_cons, cnt_nil]; omega) (by decide) (bytes := 24) (by omega)
  have o6' : Own h6 ((q, dkO p r c sT sW) :: ((t2, .cells cc.cells false 0) :: (t, oo) :: (UT' ++ (UW' ++ (Lp ++ (Lr ++ (A1 ++ (A2 ++ F)))))))) := (o6.to (B := (b3, .cells [s1] false 1) :: ((q, dkO p r c sT sW) :: ((t2, .cells cc.cells false 0) :: (t, oo) :: (UT' ++ (UW' ++ (Lp ++ (Lr ++ (A1 ++ (A2 ++ F))))))))) fun x => by simp only [cnt_append, cnt_cons, cnt_nil]; omega).tail
  obtain ⟨aT, kT, rfl⟩ := a5.form
  obtain ⟨aW, kW, rfl⟩ := a6.form
  have s7 := stB1_of (sp := none) (o := 7) (v := .slice aT (nT + 1) kT) o6'.head rfl rfl (by simp [dkc, Cf.cells])
  have o7 := o6'.put (.cells ((dkc p r c sT sW).set 7 (.slice aT (nT + 1) kT)) false 0)
  generalize hh7 : h6.put q (.cells ((dkc p r c sT sW).set 7 (.slice aT (nT + 1) kT)) false 0) = h7 at s7 o7
  have s8 := stB1_of (sp := none) (o := 8) (v := .slice aW (nW + 1) kW) o7.head rfl rfl (by simp [dkc, Cf.cells])
  have o8 := o7.put (.cells (((dkc p r c sT sW).set 7 (.slice aT (nT + 1) kT)).set 8 (.slice aW (nW + 1) kW)) false 0)
  generalize hh8 : h7.put q (.cells (((dkc p r c sT sW).set 7 (.slice aT (nT + 1) kT)).set 8 (.slice aW (nW + 1) kW)) false 0) = h8 at s8 o8
  refine ⟨h8, _, _, UT', UW', ⟨s1, A1, alV cc ds ws⟩, ⟨s2, A2, alV cc ds ws⟩, ?_, ⟨a1, hv32, hvl⟩, ⟨a2, hv32, hvl⟩, rfl, a5, a6, o8⟩
  simp only [f_w8_desk_plays_L69, hlt, decide_true, cond_true, Option.bind_some, fa_mk, Nat.zero_add, m0, nwA_eq, ht2, x5, e1, m1, x6, e2, eS, Bool.not_true, cond_false, m7, f1, bnd_eq, hb3, hh3, m8, f2, hb4, hh4, e5, hh5, e6, s7, s8, wrap_succ (show w < 4611686018427387904 by omega)]
theorem play3 (hok : o.ok R K G) (hk : o.kind = 3) (hcw : c.wf) (hd : Dk p ds ws Lp) (hr : Rd' r ds ws Lr) (hB : Byts ds ws) (hN : ds.length ≤ 4096) (hW : ws.length ≤ 900) (hm0 : tabO ∈ F)
    (hsT : Slc 1 sT nT cT UT) (hsW : Slc 1 sW nW cW UW) (hnT : nT ≤ 900) (hnW : nW ≤ 900) (ho : Own h ((q, dkO p r c sT sW) :: (UT ++ (UW ++ (Lp ++ (Lr ++ F)))))) (hn : 300000 ≤ n) :
    ∃ h' sT' sW' UT' UW', ∃ (T W : List Te), f_w8_desk_plays n (some ⟨q, 0, none⟩) (.agg ⟨o.cells⟩) h = some ((true, ()), h') ∧ T.length = 2 ∧ W.length = 2 ∧ (∀ e ∈ T, Te.ok e) ∧ (∀ e ∈ W, Te.ok e) ∧ T.map Te.V = W.map Te.V ∧ Slc 1 sT' (nT + 2) (cT ++ T.map Te.v) UT' ∧ Slc 1 sW' (nW + 2) (cW ++ W.map Te.v) UW' ∧
      Own h' ((q, dkO p r c sT' sW') :: (UT' ++ (UW' ++ (Lp ++ (Lr ++ (T.flatMap Te.A ++ (W.flatMap Te.A ++ F))))))) := by
  obtain ⟨t, t2, h0, h3, h4, H, ht, hh0, lc, ht2, hh3, s4, key, oH⟩ := pre_ok hok ho
  have hall := DOp.all hok
  have hcc := DOp.cfw hok hcw
  have hco : cellsOf (.agg ⟨o.cells⟩) = o.cells := rfl
  obtain ⟨l0, _⟩ := DOp.ld (ro := false) hok (oH.get (t, .cells o.cells false 0) (by simp))
  obtain ⟨⟨r', h5⟩, e5, sT', sW', UT', UW', T, W, hT2, hW2, hTo, hWo, hV, a1, a2, hre, o5⟩ := loopT_up (f := fun a => f_w8_desk_plays_L69 n (some ⟨q, 0, none⟩) h0 a.1.1 a.2)
    (fun j (a : (Int × Unit) × Heap) => a.1.1 = (j : Int) ∧ ∃ sT' sW' UT' UW', ∃ (T W : List Te), T.length = j ∧ W.length = j ∧ (∀ e ∈ T, Te.ok e) ∧ (∀ e ∈ W, Te.ok e) ∧ T.map Te.V = W.map Te.V ∧ Slc 1 sT' (nT + j) (cT ++ T.map Te.v) UT' ∧ Slc 1 sW' (nW + j) (cW ++ W.map Te.v) UW' ∧
      Own a.2 ((q, dkO p r c sT' sW') :: ((t2, .cells (o.cf c).cells false 0) :: (t, .cells o.cells false 0) :: (UT' ++ (UW' ++ (Lp ++ (Lr ++ (T.flatMap Te.A ++ (W.flatMap Te.A ++ F)))))))))
    (fun r' => ∃ sT' sW' UT' UW', ∃ (T W : List Te), T.length = 2 ∧ W.length = 2 ∧ (∀ e ∈ T, Te.ok e) ∧ (∀ e ∈ W, Te.ok e) ∧ T.map Te.V = W.map Te.V ∧ Slc 1 sT' (nT + 2) (cT ++ T.map Te.v) UT' ∧ Slc 1 sW' (nW + 2) (cW ++ W.map Te.v) UW' ∧ r'.1 = (true, ()) ∧
      Own r'.2 ((q, dkO p r c sT' sW') :: ((t2, .cells (o.cf c).cells false 0) :: (t, .cells o.cells false 0) :: (UT' ++ (UW' ++ (Lp ++ (Lr ++ (T.flatMap Te.A ++ (W.flatMap Te.A ++ F)))))))))
    (N := 2) (k := n) (j := 0) (a := ((0, ()), H)) (by omega) (by omega)
    ⟨rfl, sT, sW, UT, UW, [], [], rfl, rfl, fun _ h => absurd h List.not_mem_nil, fun _ h => absurd h List.not_mem_nil, rfl, by simpa using hsT, by simpa using hsW, oH.to fun x => by simp only [List.flatMap_nil, cnt_append, cnt_cons, cnt_nil]; omega⟩
    (fun j a hj hi => by
      obtain ⟨⟨i0, _⟩, hq⟩ := a
      obtain ⟨e0, sT', sW', UT', UW', T, W, g1, g2, g3, g4, g5, g6, g7, i2⟩ := hi
      have e0 : i0 = (j : Int) := e0
      subst e0
      have i2 : Own hq _ := i2
      obtain ⟨h68, sT2, sW2, UT2, UW2, x1, x2, e, k1, k2, kv, b1, b2, o2⟩ := pass_ok (n := n) (w := j) (h0 := h0) (F := T.flatMap Te.A ++ (W.flatMap Te.A ++ F)) ht2 hcc hd hr hB hN hW (by simp [hm0]) g6 g7 (by omega) (by omega) hj i2 hn
      refine .inl ⟨((((j + 1 : Nat) : Int), ()), h68), e, rfl, sT2, sW2, UT2, UW2, T ++ [x1], W ++ [x2], by simp [g1], by simp [g2], ?_, ?_, by simp [g5, kv], ?_, ?_, ?_⟩
      · intro y hy
        rcases List.mem_append.1 hy with hy | hy
        · exact g3 y hy
        · rw [List.mem_singleton.1 hy]; exact k1
      · intro y hy
        rcases List.mem_append.1 hy with hy | hy
        · exact g4 y hy
        · rw [List.mem_singleton.1 hy]; exact k2
      · rw [List.map_append, ← List.append_assoc]; exact b1
      · rw [List.map_append, ← List.append_assoc]; exact b2
      · exact o2.to fun x => by simp only [List.flatMap_append, List.flatMap_cons, List.flatMap_nil, cnt_append, cnt_cons, cnt_nil]; omega)
    (fun a hi => by
      obtain ⟨⟨i0, _⟩, hq⟩ := a
      obtain ⟨e0, sT', sW', UT', UW', T, W, g1, g2, g3, g4, g5, g6, g7, i2⟩ := hi
      have e0 : i0 = 2 := e0
      subst e0
      exact ⟨((true, ()), hq), by simp only [f_w8_desk_plays_L69, show (decide ((2 : Int) < 2)) = false from rfl, cond_false], sT', sW', UT', UW', T, W, g1, g2, g3, g4, g5, g6, g7, rfl, i2⟩)
  have hre : r' = (true, ()) := hre
  subst hre
  have o5 : Own h5 _ := o5
  have oF : Own h5 ((t2, .cells (o.cf c).cells false 0) :: (t, .cells o.cells false 0) :: ((q, dkO p r c sT' sW') :: (UT' ++ (UW' ++ (Lp ++ (Lr ++ (T.flatMap Te.A ++ (W.flatMap Te.A ++ F)))))))) := o5.to fun x => by simp only [cnt_append, cnt_cons]; omega
  refine ⟨h5, sT', sW', UT', UW', T, W, ?_, hT2, hW2, hTo, hWo, hV, a1, a2, oF.tail.tail⟩
  simp only [f_w8_desk_plays, hco, hall, cond_true, bnd_eq, hh0, nwA_eq, ht, Option.bind_some, fa_mk, Nat.zero_add, lc, ht2, hh3, s4, key, l0, hk, show (decide ((3 : Int) = 1)) = false from rfl, show (decide ((3 : Int) = 2)) = false from rfl, cond_false, decide_true, e5]
end
end Go.Proofs.YtjdbmfhjccaggaaDoor
/- The law: a new disk of every configuration, and every script on it. -/
namespace Go.Proofs.YtjdbmfhjccaggaaDoor
open Go
set_option linter.unusedVariables false
set_option linter.unusedSimpArgs false
def Dsk (q p r : Nat) (c : Cf) (ds : List (List Int)) (ws : List (Int × List Int)) (nT : Nat) (cT cW : List Value) (L : Ch) : Prop :=
  ∃ sT sW Lp Lr UT UW, Dk p ds ws Lp ∧ Rd' r ds ws Lr ∧ Slc 1 sT nT cT UT ∧ Slc 1 sW nT cW UW ∧ L = (q, dkO p r c sT sW) :: (UT ++ (UW ++ (Lp ++ Lr)))
structure Pd (q p r : Nat) (c : Cf) (N kk mm : Nat) (T W : List Te) (L : Ch) (cT cW : List Value) (ds : List (List Int)) (ws : List (Int × List Int)) : Prop where
  d : Dsk q p r c ds ws mm cT cW L
  n : ds.length = N
  w : ws.length ≤ kk
  b : Byts ds ws
section
variable {n m k p r q i nT nW : Nat} {s u sT sW u1 : Value} {L X V v R K : List Int} {h : Heap} {F G A Lp Lr UT UW Ld : Ch} {c : Cf} {z : Int} {cs cT cW : List Value} {ds vals : List (List Int)} {ws : List (Int × List Int)} {ro : Bool} {o : DOp} {T0 : Nat → Option AFun} {ops : List DOp}
theorem plays_ok (hT : LfT T0) (hok : o.ok R K G) (hcw : c.wf) (hd : Dsk q p r c ds ws nT cT cW Ld) (hB : Byts ds ws) (hN : ds.length ≤ 4096) (hW : ws.length ≤ 900) (hm0 : tabO ∈ G) (hnT : nT ≤ 900) (ho : Own h (Ld ++ (G ++ F))) (hK : K.length ≤ 1152921504606846976) (hn : K.length + 300000 ≤ n) :
    ∃ h' ds' ws' Ld', ∃ (T W : List Te), f_w8_desk_plays n (some ⟨q, 0, none⟩) (.agg ⟨o.cells⟩) h = some ((true, ()), h') ∧ T.length = W.length ∧ T.length ≤ 2 ∧ (∀ e ∈ T, Te.ok e) ∧ (∀ e ∈ W, Te.ok e) ∧ T.map Te.V = W.map Te.V ∧
      Dsk q p r c ds' ws' (nT + T.length) (cT ++ T.map Te.v) (cW ++ W.map Te.v) Ld' ∧ ds'.length = ds.length ∧ ws'.length ≤ ws.length + 1 ∧ Byts ds' ws' ∧ Own h' (Ld' ++ (T.flatMap Te.A ++ (W.flatMap Te.A ++ (G ++ F)))) := by
  obtain ⟨sT, sW, Lp, Lr, UT, UW, d1, d2, d3, d4, rfl⟩ := hd
  by_cases k1 : o.kind = 1
  · obtain ⟨h', ws', Lp', Lr', e, a1, a2, a3, a4, o1⟩ := play1 (n := n) (q := q) (sT := sT) (sW := sW) (F := UT ++ (UW ++ (G ++ F))) hok k1 hcw d1 d2 hB hN hW (by simp [hm0]) (h := h) (ho.to fun x => by simp only [cnt_append, cnt_cons]; omega) (by omega)
    exact ⟨h', ds, ws', _, [], [], e, rfl, by simp, by simp, by simp, rfl, ⟨sT, sW, Lp', Lr', UT, UW, a1, a2, by simpa using d3, by simpa using d4, rfl⟩, rfl, a3, a4, o1.to fun x => by simp only [List.flatMap_nil, cnt_append, cnt_cons, cnt_nil]; omega⟩
  by_cases k2 : o.kind = 2
  · obtain ⟨h', e, o1⟩ := play2 (n := n) (q := q) (sT := sT) (sW := sW) (F := UT ++ (UW ++ (G ++ F))) hT hok k2 hcw d1 d2 hB hN hW (by simp [hm0]) (h := h) (ho.to fun x => by simp only [cnt_append, cnt_cons]; omega) (by omega)
    exact ⟨h', ds, ws, _, [], [], e, rfl, by simp, by simp, by simp, rfl, ⟨sT, sW, Lp, Lr, UT, UW, d1, d2, by simpa using d3, by simpa using d4, rfl⟩, rfl, by omega, hB, o1.to fun x => by simp only [List.flatMap_nil, cnt_append, cnt_cons, cnt_nil]; omega⟩
  by_cases k3 : o.kind = 3
  · obtain ⟨h', sT', sW', UT', UW', T, W, e, a1, a2, a3, a4, a5, a6, a7, o1⟩ := play3 (n := n) (q := q) (F := G ++ F) hok k3 hcw d1 d2 hB hN hW (by simp [hm0]) d3 d4 hnT hnT (h := h) (ho.to fun x => by simp only [cnt_append, cnt_cons]; omega) (by omega)
    exact ⟨h', ds, ws, _, T, W, e, a1.trans a2.symm, by omega, a3, a4, a5, ⟨sT', sW', Lp, Lr, UT', UW', d1, d2, by rw [a1]; exact a6, by rw [a1]; exact a7, rfl⟩, rfl, by omega, hB, o1.to fun x => by simp only [cnt_append, cnt_cons]; omega⟩
  by_cases k4 : o.kind = 4
  · obtain ⟨h', ws', Lp', Lr', e, a1, a2, a3, a4, o1⟩ := play4 (n := n) (q := q) (sT := sT) (sW := sW) (F := UT ++ (UW ++ F)) hok k4 hcw d1 d2 hB hN hW (h := h) (ho.to fun x => by simp only [cnt_append, cnt_cons]; omega) (by omega)
    exact ⟨h', ds, ws', _, [], [], e, rfl, by simp, by simp, by simp, rfl, ⟨sT, sW, Lp', Lr', UT, UW, a1, a2, by simpa using d3, by simpa using d4, rfl⟩, rfl, a3, a4, o1.to fun x => by simp only [List.flatMap_nil, cnt_append, cnt_cons, cnt_nil]; omega⟩
  by_cases k5 : o.kind = 5
  · obtain ⟨h', ds', Lp', Lr', e, a1, a2, a3, a4, o1⟩ := play5 (n := n) (q := q) (sT := sT) (sW := sW) (F := UT ++ (UW ++ (G ++ F))) hok k5 hcw d1 d2 hB hN hW (h := h) (ho.to fun x => by simp only [cnt_append, cnt_cons]; omega) (by omega)
    exact ⟨h', ds', [], _, [], [], e, rfl, by simp, by simp, by simp, rfl, ⟨sT, sW, Lp', Lr', UT, UW, a1, a2, by simpa using d3, by simpa using d4, rfl⟩, a3, by simp, a4, o1.to fun x => by simp only [List.flatMap_nil, cnt_append, cnt_cons, cnt_nil]; omega⟩
  by_cases k6 : o.kind = 6
  · obtain ⟨h', ds', Lp', Lr', e, a1, a2, a3, a4, o1⟩ := play6 (n := n) (q := q) (sT := sT) (sW := sW) (F := UT ++ (UW ++ F)) hok k6 hcw d1 d2 hB hN hW (h := h) (ho.to fun x => by simp only [cnt_append, cnt_cons]; omega) hK hn
    exact ⟨h', ds', [], _, [], [], e, rfl, by simp, by simp, by simp, rfl, ⟨sT, sW, Lp', Lr', UT, UW, a1, a2, by simpa using d3, by simpa using d4, rfl⟩, a3, by simp, a4, o1.to fun x => by simp only [List.flatMap_nil, cnt_append, cnt_cons, cnt_nil]; omega⟩
  · obtain ⟨h', e, o1⟩ := play0 (n := n) (q := q) (p := p) (r := r) (c := c) (sT := sT) (sW := sW) (F := UT ++ (UW ++ (Lp ++ (Lr ++ (G ++ F))))) hok k1 k2 k3 k4 k5 k6 (h := h) (ho.to fun x => by simp only [cnt_append, cnt_cons]; omega)
    exact ⟨h', ds, ws, _, [], [], e, rfl, by simp, by simp, by simp, rfl, ⟨sT, sW, Lp, Lr, UT, UW, d1, d2, by simpa using d3, by simpa using d4, rfl⟩, rfl, by omega, hB, o1.to fun x => by simp only [List.flatMap_nil, cnt_append, cnt_cons, cnt_nil]; omega⟩
theorem dsame2_ok (hd : Dsk q p r c ds ws nT cT cW Ld) (ho : Own h (Ld ++ F)) (hN : ds.length ≤ 4096) (hW : ws.length ≤ 1000) (hn : 300000 ≤ n) :
    ∃ h', f_w8_desk_same n (some ⟨q, 0, none⟩) h = some ((true, ()), h') ∧ Own h' (Ld ++ F) := by
  obtain ⟨sT, sW, Lp, Lr, UT, UW, d1, d2, d3, d4, rfl⟩ := hd
  obtain ⟨h', e, o1⟩ := dsame_ok (n := n) (c := c) (sT := sT) (sW := sW) (q := q) d1 d2 (h := h) (F := UT ++ (UW ++ F)) (ho.to fun x => by simp only [cnt_append, cnt_cons]; omega) hN hW hn
  exact ⟨h', e, o1.to fun x => by simp only [cnt_append, cnt_cons]; omega⟩
theorem script_ok {a16 : ((Option Addr × Option Addr × Unit) × Heap)} {N : Nat} (hq : a16.2.next = q) (hT : LfT T0) (hu : Sow 42 u1 ops.length (ops.flatMap DOp.cells) G) (hops : ∀ o ∈ ops, ∃ R K, o.ok R K G ∧ K.length ≤ 1152921504606846976 ∧ K.length + 300000 ≤ n) (hcw : c.wf) (hd : Dsk q p r c ds [] 0 [] [] Ld) (hB : Byts ds []) (hN : ds.length = N) (hN2 : N ≤ 4096) (hm0 : tabO ∈ G) (ho : Own h (Ld ++ (G ++ F))) (hn : 300000 ≤ n) :
    ∃ h' ds' ws' Ld', ∃ (T W : List Te), f_w8_HomeDisk_C32 n u1 a16 h = some (.inl ((), h')) ∧ T.length = W.length ∧ T.length ≤ 120 ∧ (∀ e ∈ T, Te.ok e) ∧ (∀ e ∈ W, Te.ok e) ∧ T.map Te.V = W.map Te.V ∧
      Dsk q p r c ds' ws' T.length (T.map Te.v) (W.map Te.v) Ld' ∧ ds'.length = N ∧ ws'.length ≤ 60 ∧ Byts ds' ws' ∧ Own h' (Ld' ++ (T.flatMap Te.A ++ (W.flatMap Te.A ++ (G ++ F)))) := by
  obtain ⟨M, hM⟩ : ∃ M, M = min ops.length 60 := ⟨_, rfl⟩
  obtain ⟨r', e, h', rfl, ds', ws', Ld', T, W, q1⟩ := loopT_up (f := fun a => f_w8_HomeDisk_L31 n u1 a16 a.1.1 a.2)
    (fun j (a : (Int × Unit) × Heap) => a.1.1 = (j : Int) ∧ ∃ ds' ws' Ld', ∃ (T W : List Te), T.length = W.length ∧ T.length ≤ 2 * j ∧ (∀ e ∈ T, Te.ok e) ∧ (∀ e ∈ W, Te.ok e) ∧ T.map Te.V = W.map Te.V ∧
      Dsk q p r c ds' ws' T.length (T.map Te.v) (W.map Te.v) Ld' ∧ ds'.length = N ∧ ws'.length ≤ j ∧ Byts ds' ws' ∧ Own a.2 (Ld' ++ (T.flatMap Te.A ++ (W.flatMap Te.A ++ (G ++ F)))))
    (fun r' => ∃ h', r' = .inl ((), h') ∧ ∃ ds' ws' Ld', ∃ (T W : List Te), T.length = W.length ∧ T.length ≤ 2 * M ∧ (∀ e ∈ T, Te.ok e) ∧ (∀ e ∈ W, Te.ok e) ∧ T.map Te.V = W.map Te.V ∧
      Dsk q p r c ds' ws' T.length (T.map Te.v) (W.map Te.v) Ld' ∧ ds'.length = N ∧ ws'.length ≤ M ∧ Byts ds' ws' ∧ Own h' (Ld' ++ (T.flatMap Te.A ++ (W.flatMap Te.A ++ (G ++ F)))))
    (N := M) (k := n) (j := 0) (a := ((0, ()), h)) (by omega) (by omega)
    ⟨rfl, ds, [], Ld, [], [], rfl, by simp, by simp, by simp, rfl, hd, hN, by simp, hB, by simpa using ho⟩
    (fun j a hj hi => by
      obtain ⟨⟨i0, _⟩, hq'⟩ := a
      obtain ⟨e0, ds', ws', Ld', T, W, g1, g2, g3, g4, g5, g6, g7, g8, g9, i2⟩ := hi
      have e0 : i0 = (j : Int) := e0
      subst e0
      have i2 : Own hq' _ := i2
      have hjo : j < ops.length := by omega
      have hlt : (j : Int) < (ops.length : Int) := by omega
      have hlt2 : (j : Int) < 60 := by omega
      obtain ⟨R, K, hok, hK, hKn⟩ := hops _ (List.getElem_mem hjo)
      have hr := hu.rds (h := hq') (F := Ld' ++ (T.flatMap Te.A ++ (W.flatMap Te.A ++ F))) (i2.to fun x => by simp only [cnt_append]; omega)
      obtain ⟨qa, e1, e2⟩ := hr.ix j hjo
      have hc42 : ∀ o ∈ ops, (o.cells).length = 42 := fun o ho => by
        obtain ⟨R, K, hok, _⟩ := hops o ho
        have := hok.v
        simp [DOp.cells, Cf.cells]; omega
      rw [flat_get hc42 hjo] at e2
      have e3 := e2.ldA0 (k := 42) (by rw [hc42 _ (List.getElem_mem hjo)]; omega)
      rw [List.take_of_length_le (by rw [hc42 _ (List.getElem_mem hjo)]; omega)] at e3
      obtain ⟨h4, ds4, ws4, Ld4, T4, W4, x1, x2, x3, x4, x5, x6, x7, x8, x9, x10, o4⟩ := plays_ok (n := n) (F := T.flatMap Te.A ++ (W.flatMap Te.A ++ F)) hT hok hcw g6 g9 (by omega) (by omega) (by simp [hm0]) (by omega) (h := hq') (i2.to fun x => by simp only [cnt_append]; omega) hK hKn
      obtain ⟨h5, x11, o5⟩ := dsame2_ok (n := n) x7 o4 (by omega) (by omega) hn
      refine .inl ⟨((((j + 1 : Nat) : Int), ()), h5), ?_, rfl, ds4, ws4, Ld4, T ++ T4, W ++ W4, by simp [g1, x2], by rw [List.length_append]; omega, ?_, ?_, by simp [g5, x6], by rw [List.length_append, List.map_append, List.map_append]; exact x7, by omega, by omega, x10, o5.to fun x => by simp only [List.flatMap_append, cnt_append]; omega⟩
      · simp only [f_w8_HomeDisk_L31, hr.lenB, Option.bind_some, hlt, decide_true, cond_true, hlt2, e1, e3, nwA_eq, hq, x1, Bool.not_true, cond_false, x11, wrap_succ (show j < 4611686018427387904 by omega)]
      · intro y hy
        rcases List.mem_append.1 hy with hy | hy
        · exact g3 y hy
        · exact x4 y hy
      · intro y hy
        rcases List.mem_append.1 hy with hy | hy
        · exact g4 y hy
        · exact x5 y hy)
    (fun a hi => by
      obtain ⟨⟨i0, _⟩, hq'⟩ := a
      obtain ⟨e0, ds', ws', Ld', T, W, g1, g2, g3, g4, g5, g6, g7, g8, g9, i2⟩ := hi
      have e0 : i0 = (M : Int) := e0
      subst e0
      have i2 : Own hq' _ := i2
      have hr := hu.rds (h := hq') (F := Ld' ++ (T.flatMap Te.A ++ (W.flatMap Te.A ++ F))) (i2.to fun x => by simp only [cnt_append]; omega)
      refine ⟨.inl ((), hq'), ?_, hq', rfl, ds', ws', Ld', T, W, g1, g2, g3, g4, g5, g6, g7, g8, g9, i2⟩
      by_cases hlt : (M : Int) < (ops.length : Int)
      · have hlt2 : ¬ (M : Int) < 60 := by omega
        simp only [f_w8_HomeDisk_L31, hr.lenB, Option.bind_some, hlt, decide_true, cond_true, hlt2, decide_false, cond_false]
      · simp only [f_w8_HomeDisk_L31, hr.lenB, Option.bind_some, hlt, decide_false, cond_false])
  obtain ⟨g1, g2, g3, g4, g5, g6, g7, g8, g9, i2⟩ := q1
  exact ⟨h', ds', ws', Ld', T, W, by simp only [f_w8_HomeDisk_C32, e], g1, by omega, g3, g4, g5, g6, g7, by omega, g9, i2⟩
theorem kept_ok {a16 : ((Option Addr × Option Addr × Unit) × Heap)} {T W : List Te} (hq : a16.2.next = q) (hTW : T.length = W.length) (hTo : ∀ e ∈ T, Te.ok e) (hWo : ∀ e ∈ W, Te.ok e) (hV : T.map Te.V = W.map Te.V)
    (hsT : Slc 1 sT T.length (T.map Te.v) UT) (hsW : Slc 1 sW W.length (W.map Te.v) UW) (hl : T.length ≤ 1000) (ho : Own h ((q, dkO p r c sT sW) :: (UT ++ (UW ++ (T.flatMap Te.A ++ (W.flatMap Te.A ++ F)))))) (hn : 300000 ≤ n) :
    f_w8_HomeDisk_C47 n a16 h = some (.inl ((), h)) := by
  obtain ⟨_, _, _, m7, m8⟩ := dk_ld (p := p) (r := r) (c := c) (sT := sT) (sW := sW) (ro := false) (ho.get (q, dkO p r c sT sW) (by simp))
  obtain ⟨r', e, q1⟩ := loopT_up (f := fun a => f_w8_HomeDisk_L46 n a16 a.1.1 a.2)
    (fun j (a : (Int × Unit) × Heap) => a = (((j : Int), ()), h)) (fun r' => r' = .inl ((), h)) (N := T.length) (k := n) (j := 0) (a := ((0, ()), h)) (by omega) (by omega) rfl
    (fun j a hj hi => by
      subst hi
      have hj' : j < W.length := by omega
      have hlt : (j : Int) < (T.length : Int) := by omega
      obtain ⟨q1, e1, e2⟩ := (hsT.rds (h := h) (F := (q, dkO p r c sT sW) :: (UW ++ (T.flatMap Te.A ++ (W.flatMap Te.A ++ F)))) (ho.to fun x => by simp only [cnt_append, cnt_cons]; omega)).ix j hj
      obtain ⟨q2, e3, e4⟩ := (hsW.rds (h := h) (F := (q, dkO p r c sT sW) :: (UT ++ (T.flatMap Te.A ++ (W.flatMap Te.A ++ F)))) (ho.to fun x => by simp only [cnt_append, cnt_cons]; omega)).ix j hj'
      have g1 : ldT .any h (some q1) = some T[j].v := by
        rw [e2.ldT0 (v := T[j].v) (by rw [Nat.mul_one, List.getElem?_take_of_lt (by omega), List.getElem?_drop, Nat.add_zero, List.getElem?_map, List.getElem?_eq_getElem hj]; rfl)]; rfl
      have g2 : ldT .any h (some q2) = some W[j].v := by
        rw [e4.ldT0 (v := W[j].v) (by rw [Nat.mul_one, List.getElem?_take_of_lt (by omega), List.getElem?_drop, Nat.add_zero, List.getElem?_map, List.getElem?_eq_getElem hj']; rfl)]; rfl
      obtain ⟨t1, t2, t3⟩ := hTo _ (List.getElem_mem hj)
      obtain ⟨w1, w2, w3⟩ := hWo _ (List.getElem_mem hj')
      have hv : T[j].V = W[j].V := by
        have h1 : (T.map Te.V)[j]'(by simpa using hj) = (W.map Te.V)[j]'(by simpa using hj') := by congr 1
        simpa using h1
      rw [← hv] at w1
      have eS := sameV_ok (n := n) (vals := T[j].V) t2 t1 w1 (h := h) (F := (q, dkO p r c sT sW) :: (UT ++ (UW ++ ((T.eraseIdx j).flatMap Te.A ++ ((W.eraseIdx j).flatMap Te.A ++ F))))) (ho.to fun x => by have := te_cnt hj x; have := te_cnt hj' x; simp only [cnt_append, cnt_cons]; omega) (by omega) (by omega)
      exact .inl ⟨_, by simp only [f_w8_HomeDisk_L46, nwA_eq, hq, fa_mk, Nat.zero_add, m7, Option.bind_some, hsT.lenB, hlt, decide_true, cond_true, e1, g1, m8, e3, g2, eS, Bool.not_true, cond_false, wrap_succ (show j < 4611686018427387904 by omega)], rfl⟩)
    (fun a hi => by
      subst hi
      have hlt : ¬ (T.length : Int) < (T.length : Int) := by omega
      exact ⟨_, by simp only [f_w8_HomeDisk_L46, nwA_eq, hq, fa_mk, Nat.zero_add, m7, Option.bind_some, hsT.lenB, hlt, decide_false, cond_false], rfl⟩)
  rw [q1] at e
  simp only [f_w8_HomeDisk_C47, e]
theorem DOp.ok.mono {G' : Ch} (h : o.ok R K G) (hm : ∀ x ∈ G, x ∈ G') : o.ok R K G' := ⟨h.v, h.vb, fun hh hg => h.r hh fun x hx => hg x (hm x hx), h.rf, h.rb, fun hh hg => h.k hh fun x hx => hg x (hm x hx), h.kf, h.cw⟩
def opA : DOp := ⟨3, 0, List.replicate 32 0, .slice none 0 0, .slice none 0 0, ⟨0, 0, 0, 0, 0⟩, false⟩
theorem opA_ok : opA.ok [] [] G := ⟨by simp [opA], byt_zeros, fun h _ => (Slc.nil (es := 1)).rds (h := h) (F := []) ⟨fun _ h => absurd h List.not_mem_nil, List.nodup_nil, fun _ h => absurd h List.not_mem_nil⟩, ⟨_, _, _, rfl⟩, fun _ h => absurd h List.not_mem_nil, fun h _ => (Slc.nil (es := 1)).rds (h := h) (F := []) ⟨fun _ h => absurd h List.not_mem_nil, List.nodup_nil, fun _ h => absurd h List.not_mem_nil⟩, ⟨_, _, _, rfl⟩, by simp [opA, Cf.wf]⟩
theorem opA_fill : fillL [(.int .i64 0), (.int .i64 0), (.int .u8 0), (.int .u8 0), (.int .u8 0), (.int .u8 0), (.int .u8 0), (.int .u8 0), (.int .u8 0), (.int .u8 0), (.int .u8 0), (.int .u8 0), (.int .u8 0), (.int .u8 0), (.int .u8 0), (.int .u8 0), (.int .u8 0), (.int .u8 0), (.int .u8 0), (.int .u8 0), (.int .u8 0), (.int .u8 0), (.int .u8 0), (.int .u8 0), (.int .u8 0), (.int .u8 0), (.int .u8 0), (.int .u8 0), (.int .u8 0), (.int .u8 0), (.int .u8 0), (.int .u8 0), (.int .u8 0), (.int .u8 0), (.slice none 0 0), (.slice none 0 0), (.int .i64 0), (.int .i64 0), (.int .i64 0), (.int .i64 0), (.int .i64 0), (.bool false)] [(0, 1, (.int .i64 3))] = some opA.cells := rfl
theorem tail_ok {hA : Heap} {cc : Cf} {t : Nat} (hT : LfT T0) (hu : Sow 42 u1 ops.length (ops.flatMap DOp.cells) G) (hops : ∀ o ∈ ops, ∃ R K, o.ok R K G ∧ K.length ≤ 1152921504606846976 ∧ K.length + 300000 ≤ n) (hcw : cc.wf) (hd : Dk p ds [] Lp) (hr : Rd' r ds [] Lr) (hB : Byts ds []) (hN : ds.length ≤ 4096) (hm0 : tabO ∈ G)
    (ho : Own hA ((t, .cells cc.cells false 0) :: (Lp ++ (Lr ++ (G ++ F))))) (hn : 300000 ≤ n) :
    ∃ q h19 h20 h33 sT h50 h52 h53, hA.next = q ∧ ldA 5 hA (some ⟨t, 0, none⟩) = some cc.cells ∧ fillL [(.pointer none), (.pointer none), (.int .i64 0), (.int .i64 0), (.int .i64 0), (.int .i64 0), (.int .i64 0), (.slice none 0 0), (.slice none 0 0)] [(0, 1, (.pointer (some ⟨p, 0, none⟩))), (1, 1, (.pointer (some ⟨r, 0, none⟩))), (2, 5, (.agg ⟨cc.cells⟩))] = some (dkc p r cc (.slice none 0 0) (.slice none 0 0)) ∧
      (dkc p r cc (.slice none 0 0) (.slice none 0 0)).all isCell = true ∧ hA.new (.cells (dkc p r cc (.slice none 0 0) (.slice none 0 0)) false 0) = h19 ∧ f_w8_desk_same n (some ⟨q, 0, none⟩) h19 = some ((true, ()), h20) ∧
      f_w8_HomeDisk_C32 n u1 ((some ⟨p, 0, none⟩, (some ⟨r, 0, none⟩, ())), hA) h20 = some (.inl ((), h33)) ∧ f_w8_HomeDisk_C47 n ((some ⟨p, 0, none⟩, (some ⟨r, 0, none⟩, ())), hA) h33 = some (.inl ((), h33)) ∧
      ldT .any h33 (some ⟨q, 7, none⟩) = some sT ∧ f_w8_apart n sT h33 = some ((true, ()), h50) ∧ f_w8_desk_plays n (some ⟨q, 0, none⟩) (.agg ⟨opA.cells⟩) h50 = some ((true, ()), h52) ∧ f_w8_desk_same n (some ⟨q, 0, none⟩) h52 = some ((true, ()), h53) := by
  obtain ⟨_, _, _, _, _, l17⟩ := Cf.ld' (c := cc) ho.head
  have o19 := ho.new (.cells (dkc p r cc (.slice none 0 0) (.slice none 0 0)) false 0)
  generalize hq : hA.next = q at o19
  generalize hh19 : hA.new (.cells (dkc p r cc (.slice none 0 0) (.slice none 0 0)) false 0) = h19 at o19
  have hD : Dsk q p r cc ds [] 0 [] [] ((q, dkO p r cc (.slice none 0 0) (.slice none 0 0)) :: ([] ++ ([] ++ (Lp ++ Lr)))) := ⟨_, _, Lp, Lr, [], [], hd, hr, .nil, .nil, rfl⟩
  obtain ⟨h20, e20, o20⟩ := dsame2_ok (n := n) hD (h := h19) (F := G ++ ((t, .cells cc.cells false 0) :: F)) (o19.to fun x => by simp only [dkO, cnt_append, cnt_cons, cnt_nil, List.nil_append]; omega) hN (by simp) hn
  obtain ⟨h33, ds', ws', Ld', T, W, e33, x1, x2, x3, x4, x5, x6, x7, x8, x9, o33⟩ := script_ok (n := n) (a16 := ((some ⟨p, 0, none⟩, (some ⟨r, 0, none⟩, ())), hA)) (q := q) hq hT hu hops hcw hD hB rfl hN hm0 o20 hn
  obtain ⟨sT, sW, Lp', Lr', UT, UW, d1, d2, d3, d4, rfl⟩ := x6
  have d4' : Slc 1 sW W.length (W.map Te.v) UW := by rw [← x1]; exact d4
  have e48 := kept_ok (n := n) (p := p) (r := r) (c := cc) (a16 := ((some ⟨p, 0, none⟩, (some ⟨r, 0, none⟩, ())), hA)) (q := q) hq x1 x3 x4 x5 d3 d4' (by omega) (h := h33) (F := Lp' ++ (Lr' ++ (G ++ ((t, .cells cc.cells false 0) :: F)))) (o33.to fun x => by simp only [cnt_append, cnt_cons]; omega) hn
  obtain ⟨_, _, _, m7, _⟩ := dk_ld (p := p) (r := r) (c := cc) (sT := sT) (sW := sW) (ro := false) (o33.get (q, dkO p r cc sT sW) (by simp))
  have hAA : (T.map fun e => (⟨e.v, e.V.length, e.V.flatMap (iz .u8), e.A⟩ : Ax)).flatMap Ax.A = T.flatMap Te.A := by rw [List.flatMap_map]
  have hvv : (T.map fun e => (⟨e.v, e.V.length, e.V.flatMap (iz .u8), e.A⟩ : Ax)).map Ax.v = T.map Te.v := by rw [List.map_map]; rfl
  obtain ⟨h50, e50, o50⟩ := apart8_ok (n := n) (B := 64) (u := sT) (xs := T.map fun e => ⟨e.v, e.V.length, e.V.flatMap (iz .u8), e.A⟩) (U := UT) (h := h33) (F := (q, dkO p r cc sT sW) :: (UW ++ (W.flatMap Te.A ++ (Lp' ++ (Lr' ++ (G ++ ((t, .cells cc.cells false 0) :: F)))))))
    (by rw [hvv, List.length_map]; exact d3)
    (fun a ha => by obtain ⟨e, hm, rfl⟩ := List.mem_map.1 ha; exact ⟨(x3 e hm).1, (x3 e hm).2.2⟩)
    (o33.to fun z => by rw [hAA]; simp only [cnt_append, cnt_cons]; omega) (by decide) (by rw [List.length_map]; omega) (by omega) (by rw [List.length_map]; omega)
  have hD2 : Dsk q p r cc ds' ws' T.length (T.map Te.v) (W.map Te.v) ((q, dkO p r cc sT sW) :: (UT ++ (UW ++ (Lp' ++ Lr')))) := ⟨sT, sW, Lp', Lr', UT, UW, d1, d2, d3, d4, rfl⟩
  obtain ⟨h52, ds5, ws5, Ld5, T5, W5, e52, y2, y3, y4, y5, y6, y7, y8, y9, y10, o52⟩ := plays_ok (n := n) (G := G) (F := W.flatMap Te.A ++ ((t, .cells cc.cells false 0) :: F)) hT opA_ok hcw hD2 x9 (by omega) (by omega) (by simp [hm0]) (by omega) (h := h50) (o50.to fun x => by simp only [cnt_append, cnt_cons]; omega) (by simp) (by simp; omega)
  obtain ⟨h53, e53, o53⟩ := dsame2_ok (n := n) y7 o52 (by omega) (by omega) hn
  exact ⟨q, h19, h20, h33, sT, h50, h52, h53, rfl, l17, rfl, rfl, rfl, e20, e33, e48, m7, e50, e52, e53⟩
theorem small_ok (ho : Own h F) : ∃ h', f_w8_small n h = some ((.agg ⟨(⟨2, 3, 1, 1, 1⟩ : Cf).cells⟩, ()), h') ∧ Own h' F := by
  have o1 := ho.new (.cells (List.replicate 5 (.int .i64 0)) false 0)
  generalize ht : h.next = t at o1
  generalize hh1 : h.new (.cells (List.replicate 5 (.int .i64 0)) false 0) = h1 at o1
  have s4 := stBA_of (sp := none) (o := 0) (sz := 5) (vs := (⟨2, 3, 1, 1, 1⟩ : Cf).cells) o1.head rfl cf_cell (by simp)
  have w4 : writeAt (List.replicate 5 (.int .i64 0)) 0 (⟨2, 3, 1, 1, 1⟩ : Cf).cells = (⟨2, 3, 1, 1, 1⟩ : Cf).cells := rfl
  rw [w4] at s4
  have o4 := o1.put (.cells (⟨2, 3, 1, 1, 1⟩ : Cf).cells false 0)
  obtain ⟨_, _, _, _, _, l5⟩ := Cf.ld' (c := ⟨2, 3, 1, 1, 1⟩) o4.head
  have f1 : fillL (List.replicate 5 (.int .i64 0)) [(0, 1, (.int .i64 2)), (1, 1, (.int .i64 3)), (2, 1, (.int .i64 1)), (3, 1, (.int .i64 1)), (4, 1, (.int .i64 1))] = some (⟨2, 3, 1, 1, 1⟩ : Cf).cells := rfl
  exact ⟨_, by simp only [f_w8_small, bnd_eq, hh1, f1, Option.bind_some, nwA_eq, ht, s4, l5], o4.tail⟩
theorem homeDisk_ok (hT : LfT T0) (hcw : c.wf) (hu : Sow 42 u1 ops.length (ops.flatMap DOp.cells) G) (hops : ∀ o ∈ ops, ∃ R K, o.ok R K G ∧ K.length ≤ 1152921504606846976 ∧ K.length + 300000 ≤ n) (hm0 : tabO ∈ G) (hm1 : tabP ∈ G) (ho : Own h (G ++ F)) (hn : 300000 ≤ n) :
    ∃ h', f_w8_HomeDisk n (.agg ⟨c.cells⟩) u1 h = some ((true, ()), h') := by
  have o1 := ho.new (.cells c.cells false 0)
  generalize ht : h.next = t at o1
  generalize hh1 : h.new (.cells c.cells false 0) = h1 at o1
  have aw := awake_ok (n := n) (o1.get tabO (by simp [hm0])) (o1.get tabP (by simp [hm1]))
  obtain ⟨_, _, _, _, _, l2⟩ := Cf.ld' (c := c) o1.head
  have hco : cellsOf (.agg ⟨c.cells⟩) = c.cells := rfl
  rcases Bool.eq_false_or_eq_true c.ok with hk | hk
  · obtain ⟨p, h3, L3, e3, d3, o3⟩ := new_home (n := n) hk hcw.2.1 (F := (t, .cells c.cells false 0) :: (G ++ F)) (by simp [hm0]) (by simp [hm1]) o1 (by omega)
    obtain ⟨_, _, _, _, _, l4⟩ := Cf.ld' (c := c) (o3.get (t, .cells c.cells false 0) (by simp))
    obtain ⟨r, h5, L5, e5, d5, o5⟩ := rnew_home (n := n) hk hcw.2.1 (h := h3) o3 (by omega)
    obtain ⟨q, h19, h20, h33, sT, h50, h52, h53, hq, l17, f18, hall, hh19, e20, e33, e48, m7, e50, e52, e53⟩ := tail_ok (n := n) (F := F) (hA := h5) (cc := c) (t := t) hT hu hops hcw d3 d5 (dsN_byt hk hcw.2.1) (by have := dsN_len hk hcw.2.1; have := Cf.bounds hk hcw.2.1; omega) hm0 (o5.to fun x => by simp only [cnt_append, cnt_cons]; omega) hn
    refine ⟨h53, ?_⟩
    simp only [f_w8_HomeDisk, f_w8_HomeDisk_C15, hco, cf_cell, cond_true, bnd_eq, hh1, nwA_eq, ht, aw, Option.bind_some, Bool.not_true, cond_false, l2, e3, l4, e5, decide_true, Option.isNone_some, beq_self_eq_true, thenB_inl, l17, f18, hall, hh19, hq, e20, e33, e48, fa_mk, Nat.zero_add, m7, e50, opA_fill, e52, e53]
  · obtain ⟨h3, e3, o3⟩ := new_bad (n := n) hk o1
    obtain ⟨_, _, _, _, _, l4⟩ := Cf.ld' (c := c) (o3.get (t, .cells c.cells false 0) (by simp))
    obtain ⟨h5, e5, o5⟩ := rnew_bad (n := n) hcw.2.1 hk o3
    obtain ⟨h8, e8, o8⟩ := small_ok (n := n) o5
    have s9 := stBA_of (sp := none) (o := 0) (sz := 5) (vs := (⟨2, 3, 1, 1, 1⟩ : Cf).cells) o8.head rfl cf_cell (by simp [Cf.cells])
    have w9 : writeAt c.cells 0 (⟨2, 3, 1, 1, 1⟩ : Cf).cells = (⟨2, 3, 1, 1, 1⟩ : Cf).cells := rfl
    rw [w9] at s9
    have o9 := o8.put (.cells (⟨2, 3, 1, 1, 1⟩ : Cf).cells false 0)
    generalize hh9 : h8.put t (.cells (⟨2, 3, 1, 1, 1⟩ : Cf).cells false 0) = h9 at s9 o9
    obtain ⟨cc, hcc⟩ : ∃ cc : Cf, cc = ⟨2, 3, 1, 1, 1⟩ := ⟨_, rfl⟩
    have hk2 : cc.ok = true := by rw [hcc]; decide
    have hw2 : cc.wf := by rw [hcc]; simp [Cf.wf]
    rw [← hcc] at s9 o9 e8
    obtain ⟨_, _, _, _, _, l10⟩ := Cf.ld' (c := cc) o9.head
    obtain ⟨p, h11, L3, e11, d3, o11⟩ := new_home (n := n) hk2 hw2.2.1 (F := (t, .cells cc.cells false 0) :: (G ++ F)) (by simp [hm0]) (by simp [hm1]) o9 (by omega)
    obtain ⟨_, _, _, _, _, l12⟩ := Cf.ld' (c := cc) (o11.get (t, .cells cc.cells false 0) (by simp))
    obtain ⟨r, h13, L5, e13, d5, o13⟩ := rnew_home (n := n) hk2 hw2.2.1 (h := h11) o11 (by omega)
    obtain ⟨q, h19, h20, h33, sT, h50, h52, h53, hq, l17, f18, hall, hh19, e20, e33, e48, m7, e50, e52, e53⟩ := tail_ok (n := n) (F := F) (hA := h13) (cc := cc) (t := t) hT hu hops hw2 d3 d5 (dsN_byt hk2 hw2.2.1) (by have := dsN_len hk2 hw2.2.1; have := Cf.bounds hk2 hw2.2.1; omega) hm0 (o13.to fun x => by simp only [cnt_append, cnt_cons]; omega) hn
    refine ⟨h53, ?_⟩
    simp only [f_w8_HomeDisk, f_w8_HomeDisk_C15, hco, cf_cell, cond_true, bnd_eq, hh1, nwA_eq, ht, aw, Option.bind_some, Bool.not_true, cond_false, l2, e3, l4, e5, decide_true, Option.isNone_some, Option.isNone_none, beq_self_eq_true, e8, s9, l10, e11, l12, e13, thenB_inl, l17, f18, hall, hh19, hq, e20, e33, e48, fa_mk, Nat.zero_add, m7, e50, opA_fill, e52, e53]
end
end Go.Proofs.YtjdbmfhjccaggaaDoor
