/- TicketPlays: the steps of one queue. -/
import Derived.Test.YtpcmjoghflllfaaTp5
namespace Go.Proofs.Ytpcmjoghflllfaa
open Go
set_option linter.unusedVariables false
set_option linter.unusedSimpArgs false

structure OpT where
  kind : Int
  which : Int
  t : Int
  n : Int
def OpT.cells (o : OpT) : List Value := [.int .i64 o.kind, .int .i64 o.which, .int .u64 o.t, .int .i64 o.n]

section
variable {p N n : Nat} {D : Nat → Sd} {K : List (Nat × Nat)} {L F : Ch} {h : Heap}

/-- What a step looks at first. -/
structure Pre (h0 : Heap) (b0 p : Nat) (D : Nat → Sd) (ks : Value) (o : OpT) (w : Nat) : Prop where
  op : h0.get b0 = some (.cells o.cells false 0)
  pp : h0.get p = some (.cells (pcells D ks) false 0)
  hw : w < 2
  hwe : Int.tmod (IntKind.i64.wrap (Int.tmod o.which 2 + 2)) 2 = (w : Int)
theorem Pre.x1 {h0 : Heap} {b0 p w : Nat} {ks : Value} {o : OpT} (P : Pre h0 b0 p D ks o w) : ldT (.int .i64) h0 (some ⟨b0, 1, none⟩) = some o.which := by simp [ldT_of P.op, OpT.cells]
theorem Pre.x8 {h0 : Heap} {b0 p w : Nat} {ks : Value} {o : OpT} (P : Pre h0 b0 p D ks o w) : ldT (.int .i64) h0 (some ⟨b0, 0, none⟩) = some o.kind := by simp [ldT_of P.op, OpT.cells]
theorem Pre.xt {h0 : Heap} {b0 p w : Nat} {ks : Value} {o : OpT} (P : Pre h0 b0 p D ks o w) : ldT (.int .u64) h0 (some ⟨b0, 2, none⟩) = some o.t := by simp [ldT_of P.op, OpT.cells]
theorem Pre.q {h0 : Heap} {b0 p w : Nat} {ks : Value} {o : OpT} (P : Pre h0 b0 p D ks o w) : ldT .ptr h0 (some ⟨p, w, none⟩) = some (some ⟨(D w).q, 0, none⟩) := by rw [ldT_of P.pp, pget_q P.hw]; rfl
theorem Pre.r {h0 : Heap} {b0 p w : Nat} {ks : Value} {o : OpT} (P : Pre h0 b0 p D ks o w) : ldT .ptr h0 (some ⟨p, 2 + w, none⟩) = some (some ⟨(D w).r, 0, none⟩) := by rw [ldT_of P.pp, pget_r P.hw]; rfl
theorem Pre.iq {h0 : Heap} {b0 p w : Nat} {ks : Value} {o : OpT} (P : Pre h0 b0 p D ks o w) : ixA 2 1 (some ⟨p, 0, none⟩) (w : Int) = some ⟨p, w, none⟩ := by rw [ixA_of P.hw]; simp
theorem Pre.ir {h0 : Heap} {b0 p w : Nat} {ks : Value} {o : OpT} (P : Pre h0 b0 p D ks o w) : ixA 2 1 (some ⟨p, 2, none⟩) (w : Int) = some ⟨p, 2 + w, none⟩ := by rw [ixA_of P.hw]; simp

theorem ocell (o : OpT) : o.cells.all isCell = true := rfl

/-- The end of a step at one queue. -/
theorem plays1 (hP : PSx p D K N L) (ho : Own h (L ++ F)) (o : OpT) (hk : o.kind = 1 ∨ o.kind = 2 ∨ o.kind = 3 ∨ o.kind = 4) (hN : N ≤ 900) (hn : 2000 ≤ n) :
    ∃ h' L' D', f_wicketlaw11_pair_plays n (some ⟨p, 0, none⟩) (.agg ⟨o.cells⟩) h = some ((true, ()), h') ∧ PSx p D' K (N + 1) L' ∧ Own h' (L' ++ F) := by
  have o1 := ho.new (.cells o.cells false 0)
  generalize hb0 : h.next = b0 at o1
  generalize hh0 : h.new (.cells o.cells false 0) = h0 at o1
  obtain ⟨w, hw, hwe⟩ := side_of o.which
  obtain ⟨ks, Q, R, X, hq, hr, hri, hlen, ow, fin⟩ := hP.side (F := (b0, .cells o.cells false 0) :: F) (h := h0) (o1.to fun x => by simp only [cnt_append, cnt_cons, cnt_nil]; omega) hw
  have P : Pre h0 b0 p D ks o w := ⟨ow.get (b0, _) (by simp), ow.head, hw, hwe⟩
  have done : ∀ {h' : Heap} {Q' R' : Ch} {xs : List Int} {last : Int}, Qx (D w).q xs last Q' → Qx (D w).r xs last R' → Rise xs last → xs.length ≤ N + 1 → Own h' ((p, .cells (pcells D ks) false 0) :: (Q' ++ (R' ++ (X ++ ((b0, .cells o.cells false 0) :: F))))) →
      ∃ L' D', PSx p D' K (N + 1) L' ∧ Own h' (L' ++ F) := by
    intro h' Q' R' xs last a b c d e
    obtain ⟨L', f1, f2⟩ := fin h' Q' R' xs last a b c d e
    exact ⟨L', _, f1, f2.to fun x => by simp only [cnt_append, cnt_cons, cnt_nil]; omega⟩
  have hoc : (cellsOf (.agg ⟨o.cells⟩)).all isCell = true := rfl
  have hoc2 : cellsOf (.agg ⟨o.cells⟩) = o.cells := rfl
  have hlen' : (D w).xs.length ≤ 1000 := by omega
  rcases hk with hk | hk | hk | hk
  · -- Put
    have ob : Own h0 ((b0, .cells o.cells false 0) :: (Q ++ ((p, .cells (pcells D ks) false 0) :: (R ++ (X ++ F))))) := ow.to fun x => by simp only [cnt_append, cnt_cons, cnt_nil]; omega
    obtain ⟨h1, Q1, e1, q1, o2⟩ := put_ok (n := n) (sp := none) (t := o.t) hq (F := (b0, .cells o.cells true 0) :: ((p, .cells (pcells D ks) false 0) :: (R ++ (X ++ F)))) (ob.ro.to fun x => by simp only [cnt_append, cnt_cons, cnt_nil]; omega) hlen'
    have o3 := Own.back (h0 := h0) (ro := false) (X := Q1 ++ ((p, .cells (pcells D ks) false 0) :: (R ++ (X ++ F)))) (o2.to fun x => by simp only [cnt_append, cnt_cons, cnt_nil]; omega) P.op
    generalize hh2 : h1.putBack h0 [b0] = h2 at o3
    obtain ⟨h3, R1, e2, r1, o4⟩ := rput_ok (n := n) (sp := none) (t := o.t) hr (F := (b0, .cells o.cells false 0) :: (Q1 ++ ((p, .cells (pcells D ks) false 0) :: (X ++ F)))) (o3.to fun x => by simp only [cnt_append, cnt_cons, cnt_nil]; omega) hlen'
    have hri1 : Rise (if o.t ≤ (D w).last then (D w).xs else (D w).xs ++ [o.t]) (if o.t ≤ (D w).last then (D w).last else o.t) := by
      by_cases ht : o.t ≤ (D w).last
      · simpa [ht] using hri
      · simpa [ht] using hri.put ht
    have hlen1 : (if o.t ≤ (D w).last then (D w).xs else (D w).xs ++ [o.t]).length ≤ N + 1 := by
      by_cases ht : o.t ≤ (D w).last
      · simp [ht]; omega
      · simp [ht]; omega
    obtain ⟨L', D', f1, f2⟩ := done q1 r1 hri1 hlen1 (o4.to fun x => by simp only [cnt_append, cnt_cons, cnt_nil]; omega)
    refine ⟨h3, L', D', ?_, f1, f2⟩
    simp only [f_wicketlaw11_pair_plays, hoc2, ocell o, cond_true, bnd_eq, hh0, hb0, nwA_eq, fa_mk, Nat.zero_add, Option.bind_some, P.x1, P.hwe, P.iq, P.ir, P.q, P.r, P.x8, hk, P.xt]
    simp [e1, hh2, e2]
  · -- First
    have e1 := first_ok (n := n) (sp := none) hq (F := (p, .cells (pcells D ks) false 0) :: (R ++ (X ++ ((b0, .cells o.cells false 0) :: F)))) (ow.to fun x => by simp only [cnt_append, cnt_cons, cnt_nil]; omega)
    have e2 := rfirst_ok (n := n) (sp := none) hr (F := (p, .cells (pcells D ks) false 0) :: (Q ++ (X ++ ((b0, .cells o.cells false 0) :: F)))) (ow.to fun x => by simp only [cnt_append, cnt_cons, cnt_nil]; omega)
    obtain ⟨s, A, hs, rfl⟩ := hr
    have orr : Own h0 (((D w).r, .cells [s, .int .u64 (D w).last] false 0) :: (Q ++ (A ++ ((p, .cells (pcells D ks) false 0) :: (X ++ ((b0, .cells o.cells false 0) :: F)))))) := ow.to fun x => by simp only [cnt_append, cnt_cons, cnt_nil, List.cons_append]; omega
    have e3 := len_ok (n := n) (sp := none) hq (F := ((D w).r, .cells [s, .int .u64 (D w).last] true 0) :: (A ++ ((p, .cells (pcells D ks) false 0) :: (X ++ ((b0, .cells o.cells false 0) :: F))))) (orr.ro.to fun x => by simp only [cnt_append, cnt_cons, cnt_nil]; omega)
    have o3 := Own.back (h0 := h0) (ro := false) (X := Q ++ (A ++ ((p, .cells (pcells D ks) false 0) :: (X ++ ((b0, .cells o.cells false 0) :: F))))) orr.ro orr.head
    generalize hh2 : (hid h0 [] [(D w).r]).putBack h0 [(D w).r] = h2 at o3
    have ob : Own h2 ((b0, .cells o.cells false 0) :: (Q ++ (((D w).r, .cells [s, .int .u64 (D w).last] false 0) :: (A ++ ((p, .cells (pcells D ks) false 0) :: (X ++ F)))))) := o3.to fun x => by simp only [cnt_append, cnt_cons, cnt_nil]; omega
    have P2 : Pre h2 b0 p D ks o w := ⟨ob.head, ob.get (p, _) (by simp), hw, hwe⟩
    obtain ⟨h4, e4, o4⟩ := place_ok (n := n) (t := o.t) hq (F := (b0, .cells o.cells true 0) :: (((D w).r, .cells [s, .int .u64 (D w).last] false 0) :: (A ++ ((p, .cells (pcells D ks) false 0) :: (X ++ F))))) (ob.ro.to fun x => by simp only [cnt_append, cnt_cons, cnt_nil]; omega) hlen' hn
    have o5 := Own.back (h0 := h2) (ro := false) (X := Q ++ (((D w).r, .cells [s, .int .u64 (D w).last] false 0) :: (A ++ ((p, .cells (pcells D ks) false 0) :: (X ++ F))))) (o4.to fun x => by simp only [cnt_append, cnt_cons, cnt_nil]; omega) ob.head
    generalize hh5 : h4.putBack h2 [b0] = h5 at o5
    have hr' : Qx (D w).r (D w).xs (D w).last (((D w).r, .cells [s, .int .u64 (D w).last] false 0) :: A) := ⟨s, A, hs, rfl⟩
    have e6 := rplace_ok (n := n) (t := o.t) hr' (F := Q ++ ((p, .cells (pcells D ks) false 0) :: (X ++ ((b0, .cells o.cells false 0) :: F)))) (o5.to fun x => by simp only [cnt_append, cnt_cons, cnt_nil, List.cons_append]; omega) hlen' hn
    obtain ⟨L', D', f1, f2⟩ := done hq hr' hri (by omega) (h' := h5) (o5.to fun x => by simp only [cnt_append, cnt_cons, cnt_nil, List.cons_append]; omega)
    refine ⟨h5, L', D', ?_, f1, f2⟩
    simp only [f_wicketlaw11_pair_plays, hoc2, ocell o, cond_true, bnd_eq, hh0, hb0, nwA_eq, fa_mk, Nat.zero_add, Option.bind_some, P.x1, P.hwe, P.iq, P.ir, P.q, P.r, P.x8, hk, e1, e2]
    simp [ldT_of orr.head, (hs.sow h0 (fun x hx => orr.get x (by simp [hx]))).lenB, e3, hh2, P2.xt, e4, hh5, e6]
  · -- Take
    obtain ⟨h1, Q1, e1, q1, o2⟩ := take_ok (n := n) hq (F := (p, .cells (pcells D ks) false 0) :: (R ++ (X ++ ((b0, .cells o.cells false 0) :: F)))) (ow.to fun x => by simp only [cnt_append, cnt_cons, cnt_nil]; omega) hlen'
    obtain ⟨h2, R1, e2, r1, o3⟩ := rtake_ok (n := n) hr (F := Q1 ++ ((p, .cells (pcells D ks) false 0) :: (X ++ ((b0, .cells o.cells false 0) :: F)))) (o2.to fun x => by simp only [cnt_append, cnt_cons, cnt_nil]; omega) hri.nodup hlen' hn
    obtain ⟨L', D', f1, f2⟩ := done q1 r1 hri.tail (by simp; omega) (o3.to fun x => by simp only [cnt_append, cnt_cons, cnt_nil]; omega)
    refine ⟨h2, L', D', ?_, f1, f2⟩
    simp only [f_wicketlaw11_pair_plays, hoc2, ocell o, cond_true, bnd_eq, hh0, hb0, nwA_eq, fa_mk, Nat.zero_add, Option.bind_some, P.x1, P.hwe, P.iq, P.ir, P.q, P.r, P.x8, hk, e1, e2]
    simp
  · -- Drop
    have ob : Own h0 ((b0, .cells o.cells false 0) :: (Q ++ ((p, .cells (pcells D ks) false 0) :: (R ++ (X ++ F))))) := ow.to fun x => by simp only [cnt_append, cnt_cons, cnt_nil]; omega
    obtain ⟨h1, Q1, e1, q1, o2⟩ := drop_ok (n := n) (t := o.t) hq (F := (b0, .cells o.cells true 0) :: ((p, .cells (pcells D ks) false 0) :: (R ++ (X ++ F)))) (ob.ro.to fun x => by simp only [cnt_append, cnt_cons, cnt_nil]; omega) hlen' hn
    have o3 := Own.back (h0 := h0) (ro := false) (X := Q1 ++ ((p, .cells (pcells D ks) false 0) :: (R ++ (X ++ F)))) (o2.to fun x => by simp only [cnt_append, cnt_cons, cnt_nil]; omega) P.op
    generalize hh2 : h1.putBack h0 [b0] = h2 at o3
    obtain ⟨h3, R1, e2, r1, o4⟩ := rdrop_ok (n := n) (t := o.t) hr (F := (b0, .cells o.cells false 0) :: (Q1 ++ ((p, .cells (pcells D ks) false 0) :: (X ++ F)))) (o3.to fun x => by simp only [cnt_append, cnt_cons, cnt_nil]; omega) hri.nodup hlen' hn
    have hel := List.length_erase_le (a := o.t) (l := (D w).xs)
    obtain ⟨L', D', f1, f2⟩ := done q1 r1 hri.erase (by omega) (o4.to fun x => by simp only [cnt_append, cnt_cons, cnt_nil]; omega)
    refine ⟨h3, L', D', ?_, f1, f2⟩
    simp only [f_wicketlaw11_pair_plays, hoc2, ocell o, cond_true, bnd_eq, hh0, hb0, nwA_eq, fa_mk, Nat.zero_add, Option.bind_some, P.x1, P.hwe, P.iq, P.ir, P.q, P.r, P.x8, hk, P.xt]
    simp [e1, hh2, e2]
end
end Go.Proofs.Ytpcmjoghflllfaa
