/- TicketPlays: lists, kept iterators, copies. -/
import Derived.Test.YtpcmjoghflllfaaTp6
namespace Go.Proofs.Ytpcmjoghflllfaa
open Go
set_option linter.unusedVariables false
set_option linter.unusedSimpArgs false

@[simp] theorem cellsOf_fn {g c : Nat} {a : Ptrs c} : cellsOf (Ty.val (.fn g c) a) = [Ty.val (.fn g c) a] := rfl
@[simp] theorem isCell_fn {g c : Nat} {a : Ptrs c} : isCell (Ty.val (.fn g c) a) = true := rfl

section
variable {p N n : Nat} {D : Nat → Sd} {K : List (Nat × Nat)} {L F : Ch} {h : Heap}

theorem Slc.pre {es m i : Nat} {s : Value} {cs : List Value} {A : Ch} {k : IntKind} (hs : Slc es s m cs A) (hes : 1 ≤ es) (hi : i ≤ m) : ∃ s', sliceK h es none (some (.int k (i : Int))) none s = some (s', h) ∧ Sow es s' i (cs.take (i * es)) A := by
  cases hs with
  | nil =>
    obtain rfl : i = 0 := by omega
    exact ⟨.slice none 0 0, rfl, by simpa using Slc.nil.sow⟩
  | @mk b off sp _ c pre _ rest hp hl hr =>
    have hc : i ≤ c := by
      have : m * es ≤ c * es := by omega
      have := Nat.le_of_mul_le_mul_right this (by omega)
      omega
    have hie : i * es ≤ m * es := Nat.mul_le_mul_right es hi
    refine ⟨_, sliceK_h hc, ?_⟩
    have := (Slc.mk (b := b) (sp := sp) (n := i) (c := c) (es := es) (pre := pre) (cs := cs.take (i * es)) (rest := cs.drop (i * es) ++ rest) hp (by simp; omega) (by simp; omega)).sow
    have he : cs.take (i * es) ++ (cs.drop (i * es) ++ rest) = cs ++ rest := by rw [← List.append_assoc, List.take_append_drop]
    rw [he] at this; exact this

theorem mod5 (x : Int) : ∃ j : Nat, j < 5 ∧ Int.tmod (IntKind.i64.wrap (Int.tmod x 5 + 5)) 5 = (j : Int) := by
  have g1 := Int.tmod_lt_of_pos x (b := 5) (by omega)
  have g2 := Int.lt_tmod_of_pos x (b := 5) (by omega)
  rw [wrap_i64 (by omega) (by omega)]
  have g3 := Int.tmod_lt_of_pos (x.tmod 5 + 5) (b := 5) (by omega)
  have g4 := Int.tmod_nonneg (a := x.tmod 5 + 5) 5 (by omega)
  exact ⟨((x.tmod 5 + 5).tmod 5).toNat, by omega, by omega⟩

theorem lst_all {xs : List Int} : lst (-1) xs = xs := rfl
theorem plays5 (hP : PSx p D K N L) (ho : Own h (L ++ F)) (o : OpT) (hk : o.kind = 5) (hN : N ≤ 900) (hn : 2000 ≤ n) :
    ∃ h' L' D', f_wicketlaw11_pair_plays n (some ⟨p, 0, none⟩) (.agg ⟨o.cells⟩) h = some ((true, ()), h') ∧ PSx p D' K (N + 1) L' ∧ Own h' (L' ++ F) := by
  have o1 := ho.new (.cells o.cells false 0)
  generalize hb0 : h.next = b0 at o1
  generalize hh0 : h.new (.cells o.cells false 0) = h0 at o1
  obtain ⟨w, hw, hwe⟩ := side_of o.which
  obtain ⟨ks, Q, R, X, hq, hr, hri, hlen, ow, fin⟩ := hP.side (F := (b0, .cells o.cells false 0) :: F) (h := h0) (o1.to fun x => by simp only [cnt_append, cnt_cons, cnt_nil]; omega) hw
  have P : Pre h0 b0 p D ks o w := ⟨ow.get (b0, _) (by simp), ow.head, hw, hwe⟩
  have hoc2 : cellsOf (.agg ⟨o.cells⟩) = o.cells := rfl
  have hlen' : (D w).xs.length ≤ 1000 := by omega
  obtain ⟨s1, h1, A1, e1, l1, o2⟩ := listed_ok (n := n) (m := -1) hq (F := (p, .cells (pcells D ks) false 0) :: (R ++ (X ++ ((b0, .cells o.cells false 0) :: F)))) (ow.to fun x => by simp only [cnt_append, cnt_cons, cnt_nil]; omega) hlen' hn
  obtain ⟨j, hj, hje⟩ := mod5 o.n
  have gn : h1.get b0 = some (.cells o.cells false 0) := o2.get (b0, _) (by simp)
  have xn : ldT (.int .i64) h1 (some ⟨b0, 3, none⟩) = some o.n := by simp [ldT_of gn, OpT.cells]
  obtain ⟨s2, h2, A2, e2, l2, o3⟩ := listed_ok (n := n) (m := (j : Int)) hq (F := A1 ++ ((p, .cells (pcells D ks) false 0) :: (R ++ (X ++ ((b0, .cells o.cells false 0) :: F))))) (o2.to fun x => by simp only [cnt_append, cnt_cons, cnt_nil]; omega) hlen' hn
  obtain ⟨s, A, hs, rfl⟩ := hr
  have o4 : Own h2 (((D w).r, .cells [s, .int .u64 (D w).last] false 0) :: (A ++ (A1 ++ (A2 ++ (Q ++ ((p, .cells (pcells D ks) false 0) :: (X ++ ((b0, .cells o.cells false 0) :: F)))))))) := o3.to fun x => by simp only [cnt_append, cnt_cons, cnt_nil, List.cons_append]; omega
  have rd1 : Rds h2 1 s1 (D w).xs.length (iz .u64 (D w).xs) := l1.sow h2 fun x hx => o4.get x (by simp [hx])
  have rds : Rds h2 1 s (D w).xs.length (iz .u64 (D w).xs) := hs.sow h2 fun x hx => o4.get x (by simp [hx])
  have e3 := same_ok (n := n) rd1 rds hlen' hn
  have hl : lst (j : Int) (D w).xs = (D w).xs.take j := by unfold lst; rw [if_pos (by omega)]; rfl
  rw [hl] at l2
  have rd2 : Rds h2 1 s2 ((D w).xs.take j).length (iz .u64 ((D w).xs.take j)) := l2.sow h2 fun x hx => o4.get x (by simp [hx])
  have hmin : (if (D w).xs.length < j then ((D w).xs.length : Int) else (j : Int)) = ((min j (D w).xs.length : Nat) : Int) := by
    split <;> omega
  obtain ⟨s', e4, sw⟩ := hs.pre (h := h2) (k := .i64) (i := min j (D w).xs.length) (by decide) (by omega)
  have rdp : Rds h2 1 s' ((D w).xs.take j).length (iz .u64 ((D w).xs.take j)) := by
    have := sw h2 fun x hx => o4.get x (by simp [hx])
    rw [Nat.mul_one] at this
    have e : (iz .u64 (D w).xs).take (min j (D w).xs.length) = iz .u64 ((D w).xs.take j) := by
      conv => rhs; rw [List.take_eq_take_min]
      simp [iz, List.map_take]
    have e' : min j (D w).xs.length = ((D w).xs.take j).length := by simp
    rw [e] at this
    rw [e'] at this; exact this
  have e5 := same_ok (n := n) rd2 rdp (by simp; omega) hn
  obtain ⟨L', f1, f2⟩ := fin h2 Q (((D w).r, .cells [s, .int .u64 (D w).last] false 0) :: A) _ _ hq ⟨s, A, hs, rfl⟩ hri (by omega) (o4.to fun x => by simp only [cnt_append, cnt_cons, cnt_nil, List.cons_append]; omega)
  refine ⟨h2, L', _, ?_, f1, f2.to fun x => by simp only [cnt_append, cnt_cons, cnt_nil]; omega⟩
  simp only [f_wicketlaw11_pair_plays, hoc2, ocell o, cond_true, bnd_eq, hh0, hb0, nwA_eq, fa_mk, Nat.zero_add, Option.bind_some, P.x1, P.hwe, P.iq, P.ir, P.q, P.r, P.x8, hk, e1, xn, hje, e2]
  simp [ldT_of o4.head, e3, rds.lenB, hmin, e4, e5]

theorem PSx.more (hP : PSx p D K N L) : PSx p D K (N + 1) L := by
  obtain ⟨ks, Q0, R0, Q1, R1, A, hs, hL⟩ := hP
  exact ⟨ks, Q0, R0, Q1, R1, A, { hs with len := fun i hi => Nat.le_succ_of_le (hs.len i hi), klen := Nat.le_succ_of_le hs.klen }, hL⟩

theorem plays6 (hP : PSx p D K N L) (ho : Own h (L ++ F)) (o : OpT) (hk : o.kind = 6) (hN : N ≤ 900) (hn : 2000 ≤ n) :
    ∃ h' L' K', f_wicketlaw11_pair_plays n (some ⟨p, 0, none⟩) (.agg ⟨o.cells⟩) h = some ((true, ()), h') ∧ PSx p D K' (N + 1) L' ∧ Own h' (L' ++ F) := by
  have o1 := ho.new (.cells o.cells false 0)
  generalize hb0 : h.next = b0 at o1
  generalize hh0 : h.new (.cells o.cells false 0) = h0 at o1
  obtain ⟨w, hw, hwe⟩ := side_of o.which
  obtain ⟨ks, Q0, R0, Q1, R1, A, hs, rfl⟩ := hP
  have P : Pre h0 b0 p D ks o w := ⟨o1.head, o1.get (p, _) (by simp), hw, hwe⟩
  have hoc2 : cellsOf (.agg ⟨o.cells⟩) = o.cells := rfl
  obtain ⟨e1, o2⟩ := qall_ok (n := n) (q := (D w).q) o1
  generalize hbx : h0.next = bx at e1 o2
  generalize hh1 : h0.new (.cells [.pointer (some ⟨(D w).q, 0, none⟩)] false 0) = h1 at e1 o2
  have o3 : Own h1 (A ++ ((p, .cells (pcells D ks) false 0) :: ((bx, .cells [.pointer (some ⟨(D w).q, 0, none⟩)] false 0) :: (Q0 ++ (R0 ++ (Q1 ++ (R1 ++ (bxc D K ++ F)))))))) := o2.to fun x => by simp only [cnt_append, cnt_cons, cnt_nil, List.cons_append]; omega
  have gp : h1.get p = some (.cells (pcells D ks) false 0) := o3.get (p, _) (by simp)
  obtain ⟨ks', h2, A', e2, l2, o4⟩ := hs.ks.push (new := kc (w, bx)) (bytes := 16) o3 (by decide) rfl (by have := hs.klen; omega)
  have o5 : Own h2 ((p, .cells (pcells D ks) false 0) :: (A' ++ ((bx, .cells [.pointer (some ⟨(D w).q, 0, none⟩)] false 0) :: (Q0 ++ (R0 ++ (Q1 ++ (R1 ++ (bxc D K ++ F)))))))) := o4.to fun x => by simp only [cnt_append, cnt_cons, cnt_nil, List.cons_append]; omega
  have o6 := o5.put (.cells (pcells D ks') false 0)
  refine ⟨_, _, K ++ [(w, bx)], ?_, ⟨ks', Q0, R0, Q1, R1, A', ⟨hs.q0, hs.r0, hs.q1, hs.r1, by simpa [List.flatMap_append] using l2, fun k hkk => ?_, hs.rise, fun i hi => Nat.le_succ_of_le (hs.len i hi), by have := hs.klen; simp; omega⟩, rfl⟩, o6.to fun x => by simp only [bxc, List.map_append, List.map_cons, List.map_nil, cnt_append, cnt_cons, cnt_nil, List.cons_append]; omega⟩
  · have ld : ldT .any h1 (some ⟨p, 4, none⟩) = some ks := by rw [ldT_of gp]; rfl
    have st : stB 1 ks' h2 (some ⟨p, 4, none⟩) = some (h2.put p (.cells (pcells D ks') false 0)) := by
      rw [stB_of o5.head (by rw [l2.cellsOf]; rfl) (by rw [l2.cellsOf]; simp [l2.isCell]) (by simp [pcells]), l2.cellsOf]; rfl
    simp only [f_wicketlaw11_pair_plays, hoc2, ocell o, cond_true, bnd_eq, hh0, hb0, nwA_eq, fa_mk, Nat.zero_add, Option.bind_some, P.x1, P.hwe, P.iq, P.ir, P.q, P.r, P.x8, hk, e1, eqVals_fn, ld]
    simp only [kc] at e2
    simp [writeAt, e2, st]
  · rcases List.mem_append.1 hkk with h1 | h1
    · exact hs.kw k h1
    · simp only [List.mem_singleton] at h1; subst h1; exact hw

theorem plays0 (hP : PSx p D K N L) (ho : Own h (L ++ F)) (o : OpT) (hk : o.kind ≠ 1 ∧ o.kind ≠ 2 ∧ o.kind ≠ 3 ∧ o.kind ≠ 4 ∧ o.kind ≠ 5 ∧ o.kind ≠ 6 ∧ o.kind ≠ 7) :
    ∃ h' L', f_wicketlaw11_pair_plays n (some ⟨p, 0, none⟩) (.agg ⟨o.cells⟩) h = some ((true, ()), h') ∧ PSx p D K (N + 1) L' ∧ Own h' (L' ++ F) := by
  have o1 := ho.new (.cells o.cells false 0)
  generalize hb0 : h.next = b0 at o1
  generalize hh0 : h.new (.cells o.cells false 0) = h0 at o1
  obtain ⟨w, hw, hwe⟩ := side_of o.which
  have hP' := hP.more
  obtain ⟨ks, Q0, R0, Q1, R1, A, hs, rfl⟩ := hP
  have P : Pre h0 b0 p D ks o w := ⟨o1.head, o1.get (p, _) (by simp), hw, hwe⟩
  have hoc2 : cellsOf (.agg ⟨o.cells⟩) = o.cells := rfl
  refine ⟨h0, _, ?_, hP', o1.tail⟩
  simp only [f_wicketlaw11_pair_plays, hoc2, ocell o, cond_true, bnd_eq, hh0, hb0, nwA_eq, fa_mk, Nat.zero_add, Option.bind_some, P.x1, P.hwe, P.iq, P.ir, P.q, P.r, P.x8]
  simp [hk]
end
end Go.Proofs.Ytpcmjoghflllfaa
