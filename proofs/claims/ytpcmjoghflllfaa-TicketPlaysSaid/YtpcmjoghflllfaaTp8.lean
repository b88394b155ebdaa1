/- TicketPlays: the other one becomes a copy. -/
import Derived.Test.YtpcmjoghflllfaaTp7
namespace Go.Proofs.Ytpcmjoghflllfaa
open Go
set_option linter.unusedVariables false
set_option linter.unusedSimpArgs false

section
variable {p N n : Nat} {D : Nat → Sd} {K : List (Nat × Nat)} {L F : Ch} {h : Heap}

theorem kc_len {k : Nat × Nat} : (kc k).length = 2 := rfl

/-- The kept ones of one queue. -/
theorem left_ok {ks : Value} {A X : Ch} {x1 : Int} {w : Nat} (hks : Slc 2 ks K.length (K.flatMap kc) A) (ho : Own h (A ++ X)) (hw : Int.tmod (IntKind.i64.wrap (Int.tmod x1 2 + 2)) 2 = (w : Int)) (hK : K.length ≤ 1000) (hn : 2000 ≤ n) :
    ∃ v h' A', loopT (fun a : (Value × Int × Unit) × Heap => f_wicketlaw11_pair_plays_L80 n x1 ks K.length a.1.1 a.1.2.1 a.2) n ((.slice none 0 0, 0, ()), h) = some ((v, ()), h') ∧ Slc 2 v (K.filter (·.1 = w)).length ((K.filter (·.1 = w)).flatMap kc) A' ∧ Own h' (A' ++ X) := by
  obtain ⟨⟨⟨v, _⟩, h'⟩, e1, A', e2, e3⟩ := loopT_up (f := fun a : (Value × Int × Unit) × Heap => f_wicketlaw11_pair_plays_L80 n x1 ks K.length a.1.1 a.1.2.1 a.2)
    (I := fun j a => a.1.2.1 = (j : Int) ∧ ∃ A', Slc 2 a.1.1 ((K.take j).filter (·.1 = w)).length (((K.take j).filter (·.1 = w)).flatMap kc) A' ∧ Own a.2 (A' ++ (A ++ X)))
    (Q := fun r => ∃ A', Slc 2 r.1.1 (K.filter (·.1 = w)).length ((K.filter (·.1 = w)).flatMap kc) A' ∧ Own r.2 (A' ++ (A ++ X))) (N := K.length) (k := n) (j := 0) (a := ((.slice none 0 0, 0, ()), h)) (by omega) (Nat.zero_le _) ⟨rfl, [], .nil, ho⟩ (by
      rintro j ⟨⟨v, i, _⟩, hh⟩ hj ⟨rfl, A', hv, ow⟩
      simp only at hv ow
      have rd : Rds hh 2 ks K.length (K.flatMap kc) := hks.sow hh fun x hx => ow.get x (by simp [hx])
      obtain ⟨q, a1, a2⟩ := rd.ix j hj
      rw [flat_at (mk := kc) (fun _ => rfl) (List.getElem?_eq_getElem hj)] at a2
      have ld : ldA 2 hh (some q) = some (kc K[j]) := by rw [a2.ldA0 (by rw [kc_len]; exact Nat.le_refl _)]; rfl
      have o1 := ow.new (.cells [.int .i64 0, .nilFunc] false 0)
      generalize hb : hh.next = b at o1
      generalize hh1 : hh.new (.cells [.int .i64 0, .nilFunc] false 0) = h1 at o1
      have st : stB 2 (.agg ⟨kc K[j]⟩) h1 (some ⟨b, 0, none⟩) = some (h1.put b (.cells (kc K[j]) false 0)) := by
        have := stBA_of (vs := kc K[j]) (sz := 2) (o := 0) (sp := none) o1.head rfl rfl (by simp)
        exact this
      have o2 := o1.put (.cells (kc K[j]) false 0)
      generalize hh2 : h1.put b (.cells (kc K[j]) false 0) = h2 at o2
      have ld1 : ldT (.int .i64) h2 (some ⟨b, 0, none⟩) = some (K[j].1 : Int) := by rw [ldT_of o2.head]; simp [kc]
      have ld2 : ldA 2 h2 (some ⟨b, 0, none⟩) = some (kc K[j]) := by rw [ldA_of o2.head (by rw [kc_len]; exact Nat.le_refl _)]; rfl
      left
      by_cases hx : K[j].1 = w
      · have hf := List.length_filter_le (fun k : Nat × Nat => decide (k.1 = w)) (K.take j)
        have htl : (K.take j).length ≤ 1000 := by rw [List.length_take]; omega
        obtain ⟨v2, h3, A2, e1, e2, o3⟩ := hv.push (new := kc K[j]) (F := (b, .cells (kc K[j]) false 0) :: (A ++ X)) (bytes := 16) (o2.to fun x => by simp only [cnt_append, cnt_cons, cnt_nil]; omega) (by decide) rfl (by omega)
        refine ⟨((v2, ((j + 1 : Nat) : Int), ()), h3), ?_, rfl, A2, ?_, o3.to fun x => by simp only [cnt_append, cnt_cons, cnt_nil]; omega⟩
        · have hfl : fillL [.int .i64 0, .nilFunc] [(0, 2, .agg ⟨kc K[j]⟩)] = some (kc K[j]) := rfl
          simp only [f_wicketlaw11_pair_plays_L80, nwA_eq, bnd_eq, a1, Option.bind_some, ld, hh1, hb, st, hh2, fa_mk, Nat.zero_add, ld1, hw, hx, ld2, hfl, e1]
          simp [hj, e1, wrap_succ (j := j) (by omega)]
        · simp only [take_snoc hj, List.filter_append]
          have : [K[j]].filter (fun k => decide (k.1 = w)) = [K[j]] := by simp [hx]
          rw [this, List.length_append, List.flatMap_append]; simpa using e2
      · refine ⟨((v, ((j + 1 : Nat) : Int), ()), h2), ?_, rfl, A', ?_, o2.tail⟩
        · have hx' : ¬ ((K[j].1 : Int) = (w : Int)) := by omega
          simp only [f_wicketlaw11_pair_plays_L80, nwA_eq, bnd_eq, a1, Option.bind_some, ld, hh1, hb, st, hh2, fa_mk, Nat.zero_add, ld1, hw]
          simp [hj, hx', hx, wrap_succ (j := j) (by omega)]
        · simp only [take_snoc hj, List.filter_append]
          have : [K[j]].filter (fun k => decide (k.1 = w)) = [] := by simp [hx]
          rw [this, List.append_nil]; exact hv) (by
      rintro ⟨⟨v, i, _⟩, hh⟩ ⟨rfl, A', hv, ow⟩
      simp only [List.take_length] at hv
      exact ⟨((v, ()), hh), by simp [f_wicketlaw11_pair_plays_L80], A', hv, ow⟩)
  exact ⟨v, h', A', e1, e2, e3.to fun x => by simp only [cnt_append, cnt_cons, cnt_nil]; omega⟩

theorem plays7 (hP : PSx p D K N L) (ho : Own h (L ++ F)) (o : OpT) (hk : o.kind = 7) (hN : N ≤ 900) (hn : 2000 ≤ n) :
    ∃ h' L' D' K', f_wicketlaw11_pair_plays n (some ⟨p, 0, none⟩) (.agg ⟨o.cells⟩) h = some ((true, ()), h') ∧ PSx p D' K' (N + 1) L' ∧ Own h' (L' ++ F) := by
  have o1 := ho.new (.cells o.cells false 0)
  generalize hb0 : h.next = b0 at o1
  generalize hh0 : h.new (.cells o.cells false 0) = h0 at o1
  obtain ⟨w, hw, hwe⟩ := side_of o.which
  obtain ⟨ks, Q0, R0, Q1, R1, A, hs, rfl⟩ := hP
  have P : Pre h0 b0 p D ks o w := ⟨o1.head, o1.get (p, _) (by simp), hw, hwe⟩
  have hoc2 : cellsOf (.agg ⟨o.cells⟩) = o.cells := rfl
  obtain ⟨Q, R, Y, hq, hr, hY⟩ : ∃ Q R Y, Qx (D w).q (D w).xs (D w).last Q ∧ Qx (D w).r (D w).xs (D w).last R ∧ ∀ x, cnt x (Q ++ (R ++ Y)) = cnt x (Q0 ++ (R0 ++ (Q1 ++ R1))) := by
    have : w = 0 ∨ w = 1 := by omega
    rcases this with rfl | rfl
    · exact ⟨Q0, R0, Q1 ++ R1, hs.q0, hs.r0, fun x => by simp only [cnt_append]⟩
    · exact ⟨Q1, R1, Q0 ++ R0, hs.q1, hs.r1, fun x => by simp only [cnt_append]; omega⟩
  have hlen := hs.len w hw
  have o2 : Own h0 (Q ++ (R ++ ((p, .cells (pcells D ks) false 0) :: (A ++ (bxc D K ++ F))))) := o1.to fun x => by have := hY x; simp only [cnt_append, cnt_cons, cnt_nil, List.cons_append] at this ⊢; omega
  obtain ⟨q', h1, Q', e1, q1, o3⟩ := copy_ok (n := n) hq o2 (by omega)
  obtain ⟨r', h2, R', e2, r1, o4⟩ := rcopy_ok (n := n) hr (F := Q' ++ (Q ++ ((p, .cells (pcells D ks) false 0) :: (A ++ (bxc D K ++ F))))) (o3.to fun x => by simp only [cnt_append, cnt_cons, cnt_nil]; omega) (by omega)
  have o5 : Own h2 ((p, .cells (pcells D ks) false 0) :: (Q ++ (R ++ (Q' ++ (R' ++ (A ++ (bxc D K ++ F))))))) := o4.to fun x => by simp only [cnt_append, cnt_cons, cnt_nil]; omega
  -- the pair behind
  let D' : Nat → Sd := fun i => if i = w then D w else ⟨q', r', (D w).xs, (D w).last⟩
  have hw1 : 1 - w < 2 := by omega
  have wr : IntKind.i64.wrap (1 - (w : Int)) = ((1 - w : Nat) : Int) := by rw [wrap_i64 (by omega) (by omega)]; omega
  have s1 : stB 1 (.pointer (some ⟨q', 0, none⟩)) h2 (some ⟨p, 1 - w, none⟩) = some (h2.put p (.cells ((pcells D ks).set (1 - w) (.pointer (some ⟨q', 0, none⟩))) false 0)) := by
    rw [stB1_of o5.head rfl rfl (by simp [pcells]; omega)]
  have o6 := o5.put (.cells ((pcells D ks).set (1 - w) (.pointer (some ⟨q', 0, none⟩))) false 0)
  generalize hh3 : h2.put p (.cells ((pcells D ks).set (1 - w) (.pointer (some ⟨q', 0, none⟩))) false 0) = h3 at o6 s1
  have s2 : stB 1 (.pointer (some ⟨r', 0, none⟩)) h3 (some ⟨p, 2 + (1 - w), none⟩) = some (h3.put p (.cells (pcells D' ks) false 0)) := by
    rw [stB1_of o6.head rfl rfl (by simp [pcells]; omega)]
    have : w = 0 ∨ w = 1 := by omega
    rcases this with rfl | rfl <;> rfl
  have o7 := o6.put (.cells (pcells D' ks) false 0)
  generalize hh4 : h3.put p (.cells (pcells D' ks) false 0) = h4 at o7 s2
  have ld : ldT .any h4 (some ⟨p, 4, none⟩) = some ks := by rw [ldT_of o7.head]; rfl
  have hbx : ∀ x, cnt x (bxc D' (K.filter (·.1 = w))) ≤ cnt x (bxc D K) := by
    intro x
    have e : ∀ (M : List (Nat × Nat)), (∀ k ∈ M, k.1 = w) → bxc D' M = bxc D M := by
      intro M hM
      unfold bxc
      refine List.map_congr_left fun k hk => ?_
      simp only [D', hM k hk, if_true]
    rw [e _ (fun k hk => by simpa using (List.mem_filter.1 hk).2)]
    exact cnt_sublist (List.filter_sublist.map _)
  obtain ⟨v, h5, A', e3, l2, o8⟩ := left_ok (n := n) (x1 := o.which) hs.ks (X := (p, .cells (pcells D' ks) false 0) :: (Q ++ (R ++ (Q' ++ (R' ++ (bxc D K ++ F)))))) (o7.to fun x => by simp only [cnt_append, cnt_cons, cnt_nil]; omega) hwe (by have := hs.klen; omega) hn
  have o9 : Own h5 ((p, .cells (pcells D' ks) false 0) :: (A' ++ (Q ++ (R ++ (Q' ++ (R' ++ (bxc D K ++ F))))))) := o8.to fun x => by simp only [cnt_append, cnt_cons, cnt_nil]; omega
  have st : stB 1 v h5 (some ⟨p, 4, none⟩) = some (h5.put p (.cells (pcells D' v) false 0)) := by
    rw [stB1_of o9.head l2.cellsOf l2.isCell (by simp [pcells])]; rfl
  have o10 := o9.put (.cells (pcells D' v) false 0)
  generalize hh6 : h5.put p (.cells (pcells D' v) false 0) = h6 at o10 st
  have ldq : ldT .ptr h6 (some ⟨p, 1 - w, none⟩) = some (some ⟨q', 0, none⟩) := by
    rw [ldT_of o10.head, pget_q hw1]
    have : ¬ (1 - w = w) := by omega
    simp [D', this]
  have iq : ixA 2 1 (some ⟨p, 0, none⟩) ((1 - w : Nat) : Int) = some ⟨p, 1 - w, none⟩ := by rw [ixA_of hw1]; simp
  have ir : ixA 2 1 (some ⟨p, 2, none⟩) ((1 - w : Nat) : Int) = some ⟨p, 2 + (1 - w), none⟩ := by rw [ixA_of hw1]; simp
  obtain ⟨L', f1, f2⟩ : ∃ L', PSx p D' (K.filter (·.1 = w)) (N + 1) L' ∧ Own h6 (L' ++ F) := by
    have hD : ∀ i, i < 2 → D' i = D w ∨ D' i = ⟨q', r', (D w).xs, (D w).last⟩ := fun i hi => by simp only [D']; split <;> simp
    have hfl := List.length_filter_le (fun k : Nat × Nat => decide (k.1 = w)) K
    have pk : ∀ {A0 B0 A1 B1 : Ch}, Qx (D' 0).q (D' 0).xs (D' 0).last A0 → Qx (D' 0).r (D' 0).xs (D' 0).last B0 → Qx (D' 1).q (D' 1).xs (D' 1).last A1 → Qx (D' 1).r (D' 1).xs (D' 1).last B1 → PS D' (K.filter (·.1 = w)) v A0 B0 A1 B1 A' (N + 1) := by
      intro A0 B0 A1 B1 a b c d
      refine ⟨a, b, c, d, l2, fun k hk => hs.kw k (List.mem_filter.1 hk).1, fun i hi => ?_, fun i hi => ?_, by have := hs.klen; omega⟩
      · rcases hD i hi with e | e <;> rw [e] <;> exact hs.rise w hw
      · rcases hD i hi with e | e <;> rw [e] <;> exact Nat.le_succ_of_le hlen
    have : w = 0 ∨ w = 1 := by omega
    rcases this with rfl | rfl
    · exact ⟨_, ⟨v, Q, R, Q', R', A', pk hq hr q1 r1, rfl⟩, o10.to fun x => by have := hbx x; simp only [cnt_append, cnt_cons, cnt_nil, List.cons_append] at this ⊢; omega⟩
    · exact ⟨_, ⟨v, Q', R', Q, R, A', pk q1 r1 hq hr, rfl⟩, o10.to fun x => by have := hbx x; simp only [cnt_append, cnt_cons, cnt_nil, List.cons_append] at this ⊢; omega⟩
  refine ⟨h6, L', D', K.filter (·.1 = w), ?_, f1, f2⟩
  simp only [f_wicketlaw11_pair_plays, hoc2, ocell o, cond_true, bnd_eq, hh0, hb0, nwA_eq, fa_mk, Nat.zero_add, Option.bind_some, P.x1, P.hwe, P.iq, P.ir, P.q, P.r, P.x8, hk, e1, e2, wr, iq, ir, s1, s2, ld, hs.ks.lenB]
  simp [e3, st, iq, ldq]
end
end Go.Proofs.Ytpcmjoghflllfaa
