import Derived.Test.YtiohkpjljinmfaaTk
namespace Go.Proofs.Ytiohkpjljinmfaa
open Go
set_option linter.unusedVariables false
set_option linter.unusedSimpArgs false
variable {T : Nat → Option AFun} {H : Heap} {m : Nat}

/-- The first most of a list; all, where most is negative. -/
def upTo (z : Int) (L : List Int) : List Int := if z < 0 then L else L.take z.toNat

structure ListedP (H : Heap) (q : Nat) (s : Value) (z : Int) (L : List Int) (last : Int) (i : Nat) (H1 : Heap) : Prop where
  fr : Fr H H1 []
  good : AllGood (H.next + 2) q s L last H1
  most : H1.get H.next = some (.cells [.int .i64 z] false 0)
  out : ∃ s', H1.get (H.next + 1) = some (.cells [s'] false 0) ∧ Sl H1 1 s' i (iz .u64 (L.take i)) ∧ (∀ b ∈ blk s', H.next ≤ b) ∧ ∀ b ∈ blk s', b ≠ H.next + 4
  defr : H1.get (H.next + 3) = some .defr
  le : 0 ≤ z → i ≤ z.toNat
  lt : H.next + 4 < H1.next

theorem ListedP.put {H : Heap} {q : Nat} {s : Value} {z : Int} {L : List Int} {last : Int} {i : Nat} {H1 : Heap} {o : AObj} (wf : WF H) (hq : q < H.next) (hs : ∀ b ∈ blk s, b < H.next) (h : ListedP H q s z L last i H1) :
    ListedP H q s z L last i (H1.put (H.next + 4) o) := by
  have f : Fr H1 (H1.put (H.next + 4) o) [H.next + 4] := Fr.put' h.fr.wf h.lt (by simp)
  obtain ⟨s', o1, o2, o3, o4⟩ := h.out
  refine ⟨h.fr.trans wf f (by simp) (by simp), ⟨f.keep _ _ h.good.cell (by simp), h.good.qu.fr f (by simp; omega) ?_⟩, f.keep _ _ h.most (by simp), ⟨s', f.keep _ _ o1 (by simp), o2.fr f ?_, o3, o4⟩, f.keep _ _ h.defr (by simp), h.le, h.lt⟩
  · intro b hb; have := hs b hb; simp; omega
  · intro b hb; simpa using o4 b hb

theorem listed_ok (hT : Tk T) {q : Nat} {s : Value} {L : List Int} {last z : Int} (h : Qu H q s L last) (wf : WF H) (hm : L.length < m + 1) (hbig : L.length * 8 ≤ 1099511627776) :
    ∃ s' H', exec T (m + 3) (.fn k_wicketlaw11_listed) [.pointer (some ⟨q, 0, none⟩), .int .i64 z] H = some (.tuple #[s', .bool true], H') ∧ Fr H H' [] ∧ Sl H' 1 s' (upTo z L).length (iz .u64 (upTo z L)) ∧
      ∀ b ∈ blk s', H.next ≤ b := by
  have hq : q < H.next := wf.lt h.at_
  have hs : ∀ b ∈ blk s, b < H.next := h.sl.lt wf
  have f1 := Fr.new (o := .cells [.int .i64 z] false 0) wf []
  have f2 := Fr.new (o := .cells [.slice none 0 0] false 0) f1.wf []
  have f3 := Fr.new (o := .cells [.pointer (some ⟨q, 0, none⟩)] false 0) f2.wf []
  have f4 := Fr.new (o := .defr) f3.wf []
  have key : ∀ tm, tm.get 12 = some (.func (.func k_ticket_Queue_All_1) #[] #[.pointer (some ⟨H.next + 1 + 1, 0, none⟩)]) → tm.get 3 = some (.pointer (some ⟨H.next, 0, none⟩)) → tm.get 4 = some (.pointer (some ⟨H.next + 1, 0, none⟩)) →
      ∃ e s2, run (exec T (m + 2)) (m + 2) none (.range (.tmp 12) [13] c_wicketlaw11_listed_A0 c_wicketlaw11_listed_B1) ⟨tm, ((H.new (.cells [.int .i64 z] false 0)).new (.cells [.slice none 0 0] false 0)).new (.cells [.pointer (some ⟨q, 0, none⟩)] false 0), []⟩ = some (e, s2) ∧
        (e = .normal ∨ e = .exit 0) ∧ s2.tm = tm ∧ s2.ds = [H.next + 3] ∧ ∃ H2, s2.h = H2.drop (H.next + 4) ∧ ListedP H q s z L last (upTo z L).length H2 := by
    intro tm ht t3 t4
    refine Exists.elim (range_iter (tm := tm) (n := m + 2) (ds := []) (H := ((H.new (.cells [.int .i64 z] false 0)).new (.cells [.slice none 0 0] false 0)).new (.cells [.pointer (some ⟨q, 0, none⟩)] false 0)) (all_iter (m := m + 1) (cq := H.next + 2) (q := q) (s := s) (L := L) (last := last) hT hm (by omega)) (f := .tmp 12) (ps := [13]) (as := c_wicketlaw11_listed_A0) (bd := c_wicketlaw11_listed_B1) (by simp [ht])
      (P := ListedP H q s z L last) (R := fun e H1 => e = .exit 0 ∧ 0 ≤ z ∧ z ≤ L.length ∧ ListedP H q s z L last z.toNat H1) (tm1 := fun x => (setAll tm [13] x).set 7 (x[0]?)) ?_ (fun i H1 o hP => hP.put wf hq hs) (fun e H1 o hR => ⟨hR.1, hR.2.1, hR.2.2.1, hR.2.2.2.put wf hq hs⟩) (fun i H1 hP => hP.good) (by simp) ?_ ?_) ?_
    rotate_left 3
    · rintro e ⟨H2, k1, k2⟩
      refine ⟨e, _, k1, ?_⟩
      rcases k2 with ⟨rfl, k2⟩ | ⟨_, rfl, hz, hzl, k2⟩
      · refine ⟨.inl rfl, rfl, rfl, H2, rfl, ?_⟩
        have hl : (upTo z L).length = L.length := by
          have := k2.le
          simp at this
          unfold upTo; split
          · rfl
          · simp; omega
        rw [hl]; simpa using k2
      · refine ⟨.inr rfl, rfl, rfl, H2, rfl, ?_⟩
        have hl : (upTo z L).length = z.toNat := by unfold upTo; rw [if_neg (by omega)]; simp; omega
        rw [hl]; exact k2
    · have f5 := Fr.new (o := .loop tm [13] c_wicketlaw11_listed_A0 c_wicketlaw11_listed_B1 .ready none) f4.wf []
      have g4 := f4.trans f3.wf f5 (c := []) (by simp) (by simp)
      have g3 := f3.trans f2.wf g4 (c := []) (by simp) (by simp)
      have g2 := f2.trans f1.wf g3 (c := []) (by simp) (by simp)
      have g1 := f1.trans wf g2 (c := []) (by simp) (by simp)
      refine ⟨g1, ⟨g4.keep _ _ (by simp) (by simp), h.fr g1 (by simp) (by simp)⟩, g2.keep _ _ (by simp) (by simp), ⟨.slice none 0 0, g3.keep _ _ (by simp) (by simp), .empty, by simp [blk], by simp [blk]⟩, f5.keep _ _ (by simp) (by simp), by omega, by simp⟩
    · intro x hx H1
      simp only [List.mem_map] at hx
      obtain ⟨v, _, rfl⟩ := hx
      simp [c_wicketlaw11_listed_A0, setAll]
    · intro i x H1 hx hP hl
      simp only [List.getElem?_map, Option.map_eq_some_iff] at hx
      obtain ⟨v, hx, rfl⟩ := hx
      obtain ⟨s', o1, o2, o3, o4⟩ := hP.out
      have hlt : i < L.length := (List.getElem?_eq_some_iff.1 hx).1
      have hgo : (z < 0 ∨ i < z.toNat) → ∃ e tm2 H2 ds2, run (exec T m) m (some (H.next + 4)) c_wicketlaw11_listed_B1 ⟨(tm.set 13 (some (.int .u64 v))).set 7 (some (.int .u64 v)), H1, []⟩ = some (e, ⟨tm2, H2, ds2⟩) ∧ H2.get (H.next + 4) = H1.get (H.next + 4) ∧ e = .normal ∧ ListedP H q s z L last (i + 1) H2 := by
        intro hz
        obtain ⟨s2, H2, e, g1, g2, g3, gcap⟩ := o2.append1 (new := [.int .u64 v]) (bytes := 8) hP.fr.wf (Nat.le_refl 1) rfl (by omega)
        have hc4 : H2.get (H.next + 1) = some (.cells [s'] false 0) := g2.keep _ _ o1 (o2.notin o1 (by decide))
        obtain ⟨a2, c2, rfl⟩ := g1.form
        obtain ⟨a', c', rfl⟩ := o2.form
        have hrun : ∃ tm2, run (exec T m) m (some (H.next + 4)) c_wicketlaw11_listed_B1 ⟨(tm.set 13 (some (.int .u64 v))).set 7 (some (.int .u64 v)), H1, []⟩ = some (.normal, ⟨tm2, H2.put (H.next + 1) (.cells [.slice a2 (i + 1) c2] false 0), []⟩) := by
          rcases Int.lt_or_le z 0 with hz0 | hz0
          · have hz1 : ¬ 0 ≤ z := by omega
            simp [c_wicketlaw11_listed_B1, t3, t4, readCells_of hP.most, readCells_of o1, hz1, operRun_guard, writeAt, e, storeK_ptr, writeCells_of hc4]
          · have hz1 : ¬ z ≤ i := by omega
            simp [c_wicketlaw11_listed_B1, t3, t4, readCells_of hP.most, readCells_of o1, hz0, hz1, goInt, operRun_guard, writeAt, e, storeK_ptr, writeCells_of hc4]
        obtain ⟨tm2, hrun⟩ := hrun
        have hl4 : ∀ b ∈ blk (Value.slice a2 (i + 1) c2), b ≠ H.next + 4 := by
          intro b hb; have := hP.lt
          rcases g3 b hb with h5 | h5
          · exact o4 b h5
          · omega
        have f : Fr H2 (H2.put (H.next + 1) (.cells [.slice a2 (i + 1) c2] false 0)) [H.next + 1] := Fr.put g2.wf (by rw [hc4]; simp) (by simp)
        have hn1 : ∀ b ∈ blk (Value.slice a' i c'), b ≠ H.next + 1 := fun b hb heq => o2.notin o1 (by decide) (heq ▸ hb)
        have fa : Fr H1 (H2.put (H.next + 1) (.cells [.slice a2 (i + 1) c2] false 0)) ((H.next + 1) :: blk (Value.slice a' i c')) := g2.trans hP.fr.wf f (by grind) (by grind)
        have hfp : ∀ r, r < H.next → r ∉ (H.next + 1) :: blk (Value.slice a' i c') := by
          intro r hr hm
          rcases List.mem_cons.1 hm with h5 | h5
          · omega
          · have := o3 r h5; omega
        have hn2 : ∀ r xs ro, H1.get r = some (.cells xs ro 0) → r ≠ H.next + 1 → r ∉ (H.next + 1) :: blk (Value.slice a' i c') := by
          intro r xs ro hr hne hm
          rcases List.mem_cons.1 hm with h5 | h5
          · exact hne h5
          · exact o2.notin hr (by decide) h5
        have o5 : ∀ r o, H1.get r = some o → (∀ xs ro es, o ≠ .cells xs ro es) → r ≠ H.next + 1 → r ∉ (H.next + 1) :: blk (Value.slice a' i c') := by
          intro r o hr hno hne hm
          rcases List.mem_cons.1 hm with h5 | h5
          · exact hne h5
          · exact o2.not hr (fun xs ro => hno _ _ _) h5
        refine ⟨.normal, tm2, _, [], hrun, ?_, rfl, ⟨hP.fr.trans wf fa (c := []) (by simp) (by grind), ⟨fa.keep _ _ hP.good.cell (hn2 _ _ _ hP.good.cell (by omega)), hP.good.qu.fr fa (hfp _ hq) fun b hb => hfp b (hs b hb)⟩, fa.keep _ _ hP.most (hn2 _ _ _ hP.most (by omega)), ⟨_, by simp, ?_, ?_, hl4⟩, fa.keep _ _ hP.defr (o5 _ _ hP.defr (by simp) (by omega)), by omega, Nat.lt_of_lt_of_le hP.lt fa.le⟩⟩
        · exact (fa.keep _ _ hl (o5 _ _ hl (by simp) (by show H.next + 3 + 1 ≠ _; omega))).trans hl.symm
        · have : List.take (i + 1) L = List.take i L ++ [v] := by rw [List.take_add_one, hx]; rfl
          rw [this, iz_append]
          refine g1.fr f fun b hb => ?_
          have := hP.lt
          rcases g3 b hb with h5 | h5
          · simpa using hn1 b h5
          · simp; omega
        · intro b hb; have := hP.lt
          rcases g3 b hb with h5 | h5
          · exact o3 b h5
          · omega
      by_cases hz : 0 ≤ z ∧ z ≤ i
      · have hzi : z.toNat = i := by have := hP.le hz.1; omega
        obtain ⟨a', c', rfl⟩ := o2.form
        have hrun : ∃ tm2, run (exec T m) m (some (H.next + 4)) c_wicketlaw11_listed_B1 ⟨(tm.set 13 (some (.int .u64 v))).set 7 (some (.int .u64 v)), H1, []⟩ = some (.exit 0, ⟨tm2, H1, []⟩) := by
          simp [c_wicketlaw11_listed_B1, t3, t4, readCells_of hP.most, readCells_of o1, hz.1, hz.2, goInt, operRun_guard]
        obtain ⟨tm2, hrun⟩ := hrun
        exact ⟨.exit 0, tm2, H1, [], hrun, rfl, by simp, fun _ => ⟨rfl, hz.1, by omega, by rw [hzi]; exact hP⟩⟩
      · obtain ⟨e, tm2, H2, ds2, k1, k2, rfl, k3⟩ := hgo (by omega)
        exact ⟨.normal, tm2, H2, ds2, k1, k2, fun _ => k3, by simp⟩
  rw [exec_fn hT.listed]
  simp [c_wicketlaw11_listed, all_eq hT ⟨_, rfl⟩]
  refine thru (G := fun X => ∃ s' H', endK _ (seqK _ _ none _ (blockK 0 X)) = some (Value.tuple #[s', Value.bool true], H') ∧ Fr H H' [] ∧ Sl H' 1 s' (upTo z L).length (iz IntKind.u64 (upTo z L)) ∧ ∀ (b : Nat), b ∈ blk s' → H.next ≤ b) (key _ (by simp) (by simp) (by simp)) ?_
  rintro e ⟨tm2, H2, ds2⟩ ⟨he, htm, hds, H3, hH, hP⟩
  simp only at htm hds hH
  subst htm hds hH
  obtain ⟨s', o1, o2, o3, o4⟩ := hP.out
  have g1 : (H3.drop (H.next + 4)).get (H.next + 1) = some (.cells [s'] false 0) := by simp [o1]
  have o2n : ∀ b ∈ blk s', b ≠ H.next + 1 := fun b hb heq => o2.notin o1 (by decide) (heq ▸ hb)
  have hlen : (iz .u64 (List.take (upTo z L).length L)) = iz .u64 (upTo z L) := by
    congr 1; unfold upTo; split <;> simp
  have fa := Fr.drop (r := H.next + 4) (fp := [H.next + 4]) hP.fr.wf (by simp)
  have fb := Fr.put (r := H.next + 1) (fp := [H.next + 1]) (o := .cells [s'] false 0) fa.wf (by rw [g1]; simp) (by simp)
  have fc := Fr.drop (r := H.next + 3) (fp := [H.next + 3]) fb.wf (by simp)
  have f := (fa.trans hP.fr.wf fb (c := [H.next + 4, H.next + 1]) (by simp) (by simp)).trans hP.fr.wf fc (c := [H.next + 4, H.next + 1, H.next + 3]) (by simp) (by simp)
  refine ⟨s', ((H3.drop (H.next + 4)).put (H.next + 1) (.cells [s'] false 0)).drop (H.next + 3), ?_, hP.fr.trans wf f (by simp) (by simp), ?_, o3⟩
  · obtain ⟨a', c', rfl⟩ := o2.form
    have g2 : (((H3.drop (H.next + 4)).put (H.next + 1) (.cells [.slice a' (upTo z L).length c'] false 0)).drop (H.next + 3)).get (H.next + 1) = some (.cells [.slice a' (upTo z L).length c'] false 0) := by simp
    rcases he with rfl | rfl <;>
      simp [readCells_of g1, storeK_ptr, writeCells_of g1, writeAt, endOf, takeAll, hP.defr, results?, resOf, readCells_of g2, endVal, o1]
  · rw [hlen] at o2
    refine o2.fr f fun b hb => ?_
    have h1 := o4 b hb; have h2 := o2n b hb
    have h3 : b ≠ H.next + 3 := by
      rintro rfl
      exact o2.not hP.defr (by simp) hb
    simp [h1, h2, h3]
end Go.Proofs.Ytiohkpjljinmfaa
