import Derived.Test.YtiohkpjljinmfaaTk2
namespace Go.Proofs.Ytiohkpjljinmfaa
open Go
set_option linter.unusedVariables false
set_option linter.unusedSimpArgs false
variable {T : Nat → Option AFun} {H : Heap} {m : Nat}

/-- Where a number stands first; -1: nowhere. -/
def placeOf : List Int → Int → Nat → Int
  | [], _, _ => -1
  | x :: L, t, i => if x = t then i else placeOf L t (i + 1)

theorem placeOf_none {t : Int} : ∀ (L : List Int) (i : Nat), (∀ j : Nat, L[j]? ≠ some t) → placeOf L t i = -1 := by
  intro L
  induction L with
  | nil => intro i _; rfl
  | cons x L ih =>
    intro i h
    have h0 := h 0
    simp only [List.getElem?_cons_zero, ne_eq, Option.some.injEq] at h0
    simp only [placeOf, h0, if_false]
    exact ih _ fun j => by simpa using h (j + 1)
theorem placeOf_some {t : Int} : ∀ (L : List Int) (i k : Nat), L[k]? = some t → (∀ j : Nat, j < k → L[j]? ≠ some t) → placeOf L t i = (i + k : Nat) := by
  intro L
  induction L with
  | nil => intro i k h; simp at h
  | cons x L ih =>
    intro i k hk hj
    cases k with
    | zero => simp at hk; simp [placeOf, hk]
    | succ k =>
      have h0 := hj 0 (by omega)
      simp only [List.getElem?_cons_zero, ne_eq, Option.some.injEq] at h0
      simp only [placeOf, h0, if_false]
      rw [ih (i + 1) k (by simpa using hk) fun j hlt => by simpa using hj (j + 1) (by omega)]
      congr 1; omega

structure PlaceP (H : Heap) (q : Nat) (s : Value) (t : Int) (L : List Int) (last : Int) (res : Int) (i : Nat) (H1 : Heap) : Prop where
  fr : Fr H H1 []
  good : AllGood (H.next + 3) q s L last H1
  what : H1.get H.next = some (.cells [.int .u64 t] false 0)
  out : H1.get (H.next + 1) = some (.cells [.int .i64 res] false 0)
  at_ : H1.get (H.next + 2) = some (.cells [.int .i64 i] false 0)
  defr : H1.get (H.next + 4) = some .defr
  lt : H.next + 5 < H1.next

theorem PlaceP.put {H : Heap} {q : Nat} {s : Value} {t : Int} {L : List Int} {last res : Int} {i : Nat} {H1 : Heap} {o : AObj} (wf : WF H) (hq : q < H.next) (hs : ∀ b ∈ blk s, b < H.next) (h : PlaceP H q s t L last res i H1) :
    PlaceP H q s t L last res i (H1.put (H.next + 5) o) := by
  have f : Fr H1 (H1.put (H.next + 5) o) [H.next + 5] := Fr.put' h.fr.wf h.lt (by simp)
  refine ⟨h.fr.trans wf f (by simp) (by simp), ⟨f.keep _ _ h.good.cell (by simp), h.good.qu.fr f (by simp; omega) ?_⟩, f.keep _ _ h.what (by simp), f.keep _ _ h.out (by simp), f.keep _ _ h.at_ (by simp), f.keep _ _ h.defr (by simp), h.lt⟩
  intro b hb; have := hs b hb; simp; omega

theorem place_ok (hT : Tk T) {q : Nat} {s : Value} {L : List Int} {last t : Int} (h : Qu H q s L last) (wf : WF H) (hm : L.length < m + 1) (hbig : L.length * 8 ≤ 1099511627776) :
    ∃ H', exec T (m + 3) (.fn k_ticket_Queue_Place) [.pointer (some ⟨q, 0, none⟩), .int .u64 t] H = some (.int .i64 (placeOf L t 0), H') ∧ Fr H H' [] := by
  have hq : q < H.next := wf.lt h.at_
  have hs : ∀ b ∈ blk s, b < H.next := h.sl.lt wf
  have f1 := Fr.new (o := .cells [.int .u64 t] false 0) wf []
  have f2 := Fr.new (o := .cells [.int .i64 0] false 0) f1.wf []
  have f3 := Fr.new (o := .cells [.int .i64 0] false 0) f2.wf []
  have f3' := Fr.put (r := H.next + 2) (o := .cells [.int .i64 0] false 0) (fp := [H.next + 2]) f3.wf (by simp) (by simp)
  have f4 := Fr.new (o := .cells [.pointer (some ⟨q, 0, none⟩)] false 0) f3'.wf []
  have f5 := Fr.new (o := .defr) f4.wf []
  have key : ∀ tm, tm.get 8 = some (.func (.func k_ticket_Queue_All_1) #[] #[.pointer (some ⟨H.next + 1 + 1 + 1, 0, none⟩)]) → tm.get 3 = some (.pointer (some ⟨H.next, 0, none⟩)) → tm.get 4 = some (.pointer (some ⟨H.next + 1, 0, none⟩)) → tm.get 5 = some (.pointer (some ⟨H.next + 1 + 1, 0, none⟩)) →
      ∃ e s2, run (exec T (m + 2)) (m + 2) none (.range (.tmp 8) [9] c_ticket_Queue_Place_A0 c_ticket_Queue_Place_B1) ⟨tm, ((((H.new (.cells [.int .u64 t] false 0)).new (.cells [.int .i64 0] false 0)).new (.cells [.int .i64 0] false 0)).put (H.next + 1 + 1) (.cells [.int .i64 0] false 0)).new (.cells [.pointer (some ⟨q, 0, none⟩)] false 0), []⟩ = some (e, s2) ∧
        s2.tm = tm ∧ s2.ds = [H.next + 4] ∧ ∃ H2, s2.h = H2.drop (H.next + 5) ∧ ((e = .normal ∧ PlaceP H q s t L last 0 L.length H2 ∧ ∀ j : Nat, j < L.length → L[j]? ≠ some t) ∨ (e = .ret ∧ ∃ i : Nat, PlaceP H q s t L last i i H2 ∧ L[i]? = some t ∧ ∀ j : Nat, j < i → L[j]? ≠ some t)) := by
    intro tm ht t3 t4 t5
    refine Exists.elim (range_iter (tm := tm) (n := m + 2) (ds := []) (H := ((((H.new (.cells [.int .u64 t] false 0)).new (.cells [.int .i64 0] false 0)).new (.cells [.int .i64 0] false 0)).put (H.next + 1 + 1) (.cells [.int .i64 0] false 0)).new (.cells [.pointer (some ⟨q, 0, none⟩)] false 0)) (all_iter (m := m + 1) (cq := H.next + 3) (q := q) (s := s) (L := L) (last := last) hT hm (by omega)) (f := .tmp 8) (ps := [9]) (as := c_ticket_Queue_Place_A0) (bd := c_ticket_Queue_Place_B1) (by simp [ht])
      (P := fun i H1 => PlaceP H q s t L last 0 i H1 ∧ ∀ j : Nat, j < i → L[j]? ≠ some t) (R := fun e H1 => e = .ret ∧ ∃ i : Nat, PlaceP H q s t L last i i H1 ∧ L[i]? = some t ∧ ∀ j : Nat, j < i → L[j]? ≠ some t) (tm1 := fun x => (setAll tm [9] x).set 6 (x[0]?)) ?_ (fun i H1 o hP => ⟨hP.1.put wf hq hs, hP.2⟩) (fun e H1 o hR => ⟨hR.1, hR.2.choose, hR.2.choose_spec.1.put wf hq hs, hR.2.choose_spec.2⟩) (fun i H1 hP => hP.1.good) (by simp) ?_ ?_) ?_
    rotate_left 3
    · rintro e ⟨H2, k1, k2⟩
      refine ⟨e, _, k1, rfl, rfl, H2, rfl, ?_⟩
      rcases k2 with ⟨rfl, k2⟩ | ⟨_, rfl, k2⟩
      · exact .inl ⟨rfl, by simpa using k2⟩
      · exact .inr ⟨rfl, k2⟩
    · have f6 := Fr.new (o := .loop tm [9] c_ticket_Queue_Place_A0 c_ticket_Queue_Place_B1 .ready none) f5.wf []
      have g5 := f5.trans f4.wf f6 (c := []) (by simp) (by simp)
      have g4 := f4.trans f3'.wf g5 (c := []) (by simp) (by simp)
      have g3' := f3'.trans f3.wf g4 (c := [H.next + 2]) (by simp) (by simp)
      have g3 := f3.trans f2.wf g3' (c := [H.next + 2]) (by simp) (by simp)
      have g2 := f2.trans f1.wf g3 (c := [H.next + 2]) (by simp) (by simp)
      have g1 := f1.trans wf g2 (c := []) (by simp) (by simp)
      refine ⟨⟨g1, ⟨g5.keep _ _ (by simp) (by simp), h.fr g1 (by simp) (by simp)⟩, g2.keep _ _ (by simp) (by simp), g3.keep _ _ (by simp) (by simp), g4.keep _ _ (by simp) (by simp), f6.keep _ _ (by simp) (by simp), by simp⟩, by simp⟩
    · intro x hx H1
      simp only [List.mem_map] at hx
      obtain ⟨v, _, rfl⟩ := hx
      simp [c_ticket_Queue_Place_A0, setAll]
    · rintro i x H1 hx ⟨hP, hj⟩ hl
      simp only [List.getElem?_map, Option.map_eq_some_iff] at hx
      obtain ⟨v, hx, rfl⟩ := hx
      have hlt : i < L.length := (List.getElem?_eq_some_iff.1 hx).1
      have hn := hP.lt
      by_cases hv : v = t
      · subst hv
        have hrun : ∃ tm2, run (exec T m) m (some (H.next + 5)) c_ticket_Queue_Place_B1 ⟨(tm.set 9 (some (.int .u64 v))).set 6 (some (.int .u64 v)), H1, []⟩ = some (.ret, ⟨tm2, H1.put (H.next + 1) (.cells [.int .i64 i] false 0), []⟩) := by
          simp [c_ticket_Queue_Place_B1, t3, t4, t5, readCells_of hP.what, readCells_of hP.at_, storeK_ptr, writeCells_of hP.out, writeAt]
        obtain ⟨tm2, hrun⟩ := hrun
        have f := Fr.put (r := H.next + 1) (o := .cells [.int .i64 i] false 0) (fp := [H.next + 1]) hP.fr.wf (by rw [hP.out]; simp) (by simp)
        refine ⟨.ret, tm2, _, [], hrun, (by simp; intro h; omega), by simp, fun _ => ⟨rfl, i, ⟨hP.fr.trans wf f (by simp) (by simp), ⟨f.keep _ _ hP.good.cell (by simp), hP.good.qu.fr f (by simp; omega) fun b hb => by have := hs b hb; simp; omega⟩, f.keep _ _ hP.what (by simp), by simp, f.keep _ _ hP.at_ (by simp), f.keep _ _ hP.defr (by simp), hP.lt⟩, hx, hj⟩⟩
      · have hrun : ∃ tm2, run (exec T m) m (some (H.next + 5)) c_ticket_Queue_Place_B1 ⟨(tm.set 9 (some (.int .u64 v))).set 6 (some (.int .u64 v)), H1, []⟩ = some (.normal, ⟨tm2, H1.put (H.next + 2) (.cells [.int .i64 (i + 1 : Nat)] false 0), []⟩) := by
          have hw : IntKind.i64.wrap ((i : Int) + 1) = i + 1 := wrap_i64 (by omega) (by omega)
          simp [c_ticket_Queue_Place_B1, t3, t4, t5, readCells_of hP.what, readCells_of hP.at_, storeK_ptr, writeCells_of hP.at_, writeAt, hv, hw]
        obtain ⟨tm2, hrun⟩ := hrun
        have f := Fr.put (r := H.next + 2) (o := .cells [.int .i64 (i + 1 : Nat)] false 0) (fp := [H.next + 2]) hP.fr.wf (by rw [hP.at_]; simp) (by simp)
        refine ⟨.normal, tm2, _, [], hrun, (by simp; intro h; omega), fun _ => ⟨⟨hP.fr.trans wf f (by simp) (by simp), ⟨f.keep _ _ hP.good.cell (by simp), hP.good.qu.fr f (by simp; omega) fun b hb => by have := hs b hb; simp; omega⟩, f.keep _ _ hP.what (by simp), f.keep _ _ hP.out (by simp), by simp, f.keep _ _ hP.defr (by simp), hP.lt⟩, ?_⟩, by simp⟩
        intro j hji
        rcases Nat.lt_succ_iff_lt_or_eq.1 hji with h1 | rfl
        · exact hj j h1
        · rw [hx]; simpa using hv
  rw [exec_fn hT.place]
  have g0 : (((H.new (.cells [.int .u64 t] false 0)).new (.cells [.int .i64 0] false 0)).new (.cells [.int .i64 0] false 0)).get (H.next + 1 + 1) = some (.cells [.int .i64 0] false 0) := by simp
  simp [c_ticket_Queue_Place, all_eq hT ⟨_, rfl⟩, storeK_ptr, writeCells_of g0, writeAt]
  refine thru (G := fun X => ∃ H', endK _ (seqK _ _ none _ (blockK 0 X)) = some (Value.int IntKind.i64 (placeOf L t 0), H') ∧ Fr H H' []) (key _ (by simp) (by simp) (by simp) (by simp)) ?_
  rintro e ⟨tm2, H2, ds2⟩ ⟨htm, hds, H3, hH, hP⟩
  simp only at htm hds hH
  subst htm hds hH
  have fin : ∀ (r : Int) (i : Nat), PlaceP H q s t L last r i H3 → Fr H (((H3.drop (H.next + 5))).drop (H.next + 4)) [] := by
    intro r i hP
    have fa := Fr.drop (r := H.next + 5) (fp := [H.next + 5]) hP.fr.wf (by simp)
    have fc := Fr.drop (r := H.next + 4) (fp := [H.next + 4]) fa.wf (by simp)
    exact hP.fr.trans wf (fa.trans hP.fr.wf fc (c := [H.next + 5, H.next + 4]) (by simp) (by simp)) (by simp) (by simp)
  rcases hP with ⟨rfl, hP, hj⟩ | ⟨rfl, i, hP, hx, hj⟩
  · have hpl : placeOf L t 0 = -1 := placeOf_none L 0 fun j => by
      rcases Nat.lt_or_ge j L.length with h1 | h1
      · exact hj j h1
      · rw [List.getElem?_eq_none h1]; simp
    have g1 : (H3.drop (H.next + 5)).get (H.next + 1) = some (.cells [.int .i64 0] false 0) := by simp [hP.out]
    have g2 : (((H3.drop (H.next + 5)).put (H.next + 1) (.cells [.int .i64 (-1)] false 0)).drop (H.next + 4)).get (H.next + 1) = some (.cells [.int .i64 (-1)] false 0) := by simp
    have fa := Fr.drop (r := H.next + 5) (fp := [H.next + 5]) hP.fr.wf (by simp)
    have fb := Fr.put (r := H.next + 1) (fp := [H.next + 1]) (o := .cells [.int .i64 (-1)] false 0) fa.wf (by rw [g1]; simp) (by simp)
    have fc := Fr.drop (r := H.next + 4) (fp := [H.next + 4]) fb.wf (by simp)
    have f := (fa.trans hP.fr.wf fb (c := [H.next + 5, H.next + 1]) (by simp) (by simp)).trans hP.fr.wf fc (c := [H.next + 5, H.next + 1, H.next + 4]) (by simp) (by simp)
    refine ⟨_, ?_, hP.fr.trans wf f (by simp) (by simp)⟩
    simp [readCells_of g1, storeK_ptr, writeCells_of g1, writeAt, endOf, takeAll, hP.defr, results?, resOf, readCells_of g2, endVal, hpl]
  · have hpl : placeOf L t 0 = i := by rw [placeOf_some L 0 i hx hj]; simp
    have g1 : ((H3.drop (H.next + 5)).drop (H.next + 4)).get (H.next + 1) = some (.cells [.int .i64 i] false 0) := by simp [hP.out]
    refine ⟨_, ?_, fin _ _ hP⟩
    simp [endOf, takeAll, hP.defr, results?, resOf, readCells_of g1, endVal, hpl]
end Go.Proofs.Ytiohkpjljinmfaa
