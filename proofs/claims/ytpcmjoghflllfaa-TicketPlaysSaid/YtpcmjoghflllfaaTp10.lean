/- TicketPlays: the kept iterators; the law. -/
import Derived.Test.YtpcmjoghflllfaaTp9
namespace Go.Proofs.Ytpcmjoghflllfaa
open Go
set_option linter.unusedVariables false
set_option linter.unusedSimpArgs false

section
variable {p N n : Nat} {D : Nat → Sd} {K : List (Nat × Nat)} {L F G : Ch} {h : Heap}

theorem bxc_at {i : Nat} (hi : i < K.length) : ∃ B, ∀ x, cnt x (bxc D K) = cnt x ((K[i].2, .cells [.pointer (some ⟨(D K[i].1).q, 0, none⟩)] false 0) :: B) := by
  refine ⟨bxc D (K.take i) ++ bxc D (K.drop (i + 1)), fun x => ?_⟩
  have e : K = K.take i ++ K[i] :: K.drop (i + 1) := by rw [List.getElem_cons_drop, List.take_append_drop]
  conv => lhs; rw [e]
  simp only [bxc, List.map_append, List.map_cons, cnt_append, cnt_cons]
  omega

/-- One round over a kept iterator. -/
theorem round_ok {h0 h9 h46 : Heap} {v51 : Bool} {i j kb : Nat} (hi : i < K.length) (hj : j < 2) (hp : h9.next = p) (hkb : h46.next = kb) (hP : PSx p D K N L) (ho : Own h ((kb, .cells (kc K[i]) false 0) :: (L ++ G))) (hN : N ≤ 800) (hn : 2000 ≤ n) :
    ∃ h', f_wicketlaw11_TicketPlays_L72 n h0 h9 h46 v51 (j : Int) h = some (.inl ((v51, ((j + 1 : Nat) : Int), ()), h')) ∧ Own h' ((kb, .cells (kc K[i]) false 0) :: (L ++ G)) := by
  obtain ⟨ks, Q0, R0, Q1, R1, A, hs, rfl⟩ := hP
  have hw : K[i].1 < 2 := hs.kw _ (List.getElem_mem hi)
  generalize hwe : K[i].1 = w at hw
  generalize hbe : K[i].2 = bx
  have hkc : kc K[i] = [.int .i64 (w : Int), Ty.val (.fn k_ticket_Queue_All_1 1) ((some ⟨bx, 0, none⟩, ()) : Ptrs 1)] := by rw [← hwe, ← hbe]; rfl
  rw [hkc] at ho ⊢
  obtain ⟨B, hB⟩ := bxc_at (D := D) hi
  rw [hwe, hbe] at hB
  obtain ⟨Q, R, Y, hq, hr, hY⟩ : ∃ Q R Y, Qx (D w).q (D w).xs (D w).last Q ∧ Qx (D w).r (D w).xs (D w).last R ∧ ∀ x, cnt x (Q ++ (R ++ Y)) = cnt x (Q0 ++ (R0 ++ (Q1 ++ R1))) := by
    have : w = 0 ∨ w = 1 := by omega
    rcases this with rfl | rfl
    · exact ⟨Q0, R0, Q1 ++ R1, hs.q0, hs.r0, fun x => by simp only [cnt_append]⟩
    · exact ⟨Q1, R1, Q0 ++ R0, hs.q1, hs.r1, fun x => by simp only [cnt_append]; omega⟩
  have hlen := hs.len w hw
  generalize hkk : ([.int .i64 (w : Int), Ty.val (.fn k_ticket_Queue_All_1 1) ((some ⟨bx, 0, none⟩, ()) : Ptrs 1)] : List Value) = kcs at ho ⊢
  -- all that there is, in another order
  have o1 := ho.new (.cells [.slice none 0 0] false 0)
  generalize hb : h.next = b at o1
  generalize hh1 : h.new (.cells [.slice none 0 0] false 0) = h1 at o1
  let Z : Ch := (kb, .cells kcs false 0) :: (R ++ ((p, .cells (pcells D ks) false 0) :: (Y ++ (A ++ (B ++ G)))))
  have o2 : Own h1 ((bx, .cells [.pointer (some ⟨(D w).q, 0, none⟩)] false 0) :: (Q ++ ((b, .cells [.slice none 0 0] false 0) :: Z))) := o1.to fun x => by
    have e1 := hY x
    have e2 := hB x
    simp only [Z, cnt_append, cnt_cons, cnt_nil, List.cons_append] at e1 e2 ⊢; omega
  have back : ∀ {h' : Heap} {s' : Value} {A' : Ch}, Own h' ((b, .cells [s'] false 0) :: (bx, .cells [.pointer (some ⟨(D w).q, 0, none⟩)] false 0) :: (A' ++ (Q ++ Z))) → Own h' ((kb, .cells kcs false 0) :: ((p, .cells (pcells D ks) false 0) :: (Q0 ++ (R0 ++ (Q1 ++ (R1 ++ (A ++ bxc D K))))) ++ G)) := by
    intro h' s' A' o
    exact o.to fun x => by
      have e1 := hY x
      have e2 := hB x
      simp only [Z, cnt_append, cnt_cons, cnt_nil, List.cons_append] at e1 e2 ⊢; omega
  obtain ⟨s, ⟨A0, hL⟩, seen0⟩ := hq.seen o2
  have seenW : ∀ {hh : Heap} {X : Ch}, Own hh ((bx, .cells [.pointer (some ⟨(D w).q, 0, none⟩)] false 0) :: (Q ++ X)) → SeenQ hh bx s (D w).xs := by
    intro hh X o
    obtain ⟨s', ⟨A', hL'⟩, hseen⟩ := hq.seen o
    rw [hL] at hL'
    simp only [List.cons.injEq, Prod.mk.injEq, AObj.cells.injEq, true_and, and_true] at hL'
    rw [hL'.1]; exact hseen
  obtain ⟨⟨h5, q⟩, e7, h7⟩ := all1_ok (xs := (D w).xs) (n := n) (bx := bx) (s := s) (hp := fun v : Heap × Nat => v.1) (up := fun v h => (h, v.2)) (y := fun a v => f_wicketlaw11_TicketPlays_B63 n h a.1 v) (w := (h1.hole.hole, 0))
    (J := fun i v => v.2 = 0 ∧ ∃ s' A', Slc 1 s' i (iz .u64 ((D w).xs.take i)) A' ∧ Own v.1 ((b, .cells [s'] false 0) :: (bx, .cells [.pointer (some ⟨(D w).q, 0, none⟩)] false 0) :: (A' ++ (Q ++ Z))))
    (Q := fun v => False) (by omega) (by omega) ⟨rfl, .slice none 0 0, [], .nil, o2.hole.hole.to fun x => by simp only [cnt_append, cnt_cons, cnt_nil, List.nil_append]; omega⟩
    (by
      rintro i v ⟨_, s', A', _, ow⟩
      exact seenW (X := (b, .cells [s'] false 0) :: (A' ++ Z)) (ow.to fun x => by simp only [cnt_append, cnt_cons, cnt_nil]; omega)) (by
      rintro i ⟨hh, q⟩ hi ⟨rfl, s', A', hs', ow⟩
      simp only at ow
      obtain ⟨s2, h2, A2, e1, e2, o3⟩ := hs'.push (new := [.int .u64 (D w).xs[i]]) (F := (b, .cells [s'] false 0) :: (bx, .cells [.pointer (some ⟨(D w).q, 0, none⟩)] false 0) :: (Q ++ Z)) (ow.to fun x => by simp only [cnt_append, cnt_cons, cnt_nil]; omega) (by decide) rfl (bytes := 8) (by omega)
      have o4 : Own h2 ((b, .cells [s'] false 0) :: (bx, .cells [.pointer (some ⟨(D w).q, 0, none⟩)] false 0) :: (A2 ++ (Q ++ Z))) := o3.to fun x => by simp only [cnt_append, cnt_cons, cnt_nil]; omega
      refine ⟨true, (h2.put b (.cells [s2] false 0), 0), ?_, fun _ => ⟨rfl, s2, A2, ?_, o4.put _⟩, (fun h => by cases h)⟩
      · simp only [f_wicketlaw11_TicketPlays_B63, nwA_eq, hb]
        have st := stB1_of (o := 0) (sp := none) o4.head e2.cellsOf e2.isCell (by simp)
        simp [ldT_of ow.head, e1, st, writeAt]
      · rw [take_snoc hi, iz_append]; exact e2)
  have e7' : f_ticket_Queue_All_1 (V := Heap × Nat) (fun v => v.1) (fun v h => (h, v.2)) (fun a v => f_wicketlaw11_TicketPlays_B63 n h a.1 v) n (some ⟨bx, 0, none⟩) (h1.hole.hole, 0) = some (h5, q) := e7
  obtain ⟨hq0, s', A', hs', ow⟩ : q = 0 ∧ ∃ s' A', Slc 1 s' (D w).xs.length (iz .u64 (D w).xs) A' ∧ Own h5 ((b, .cells [s'] false 0) :: (bx, .cells [.pointer (some ⟨(D w).q, 0, none⟩)] false 0) :: (A' ++ (Q ++ Z))) := by
    rcases h7 with ⟨h1, s', A', h2, h3⟩ | h
    · exact ⟨h1, s', A', by simpa using h2, h3⟩
    · exact h.elim
  subst hq0
  obtain ⟨s3, A3, hs3, rfl⟩ := hr
  have gk : h1.get kb = some (.cells kcs false 0) := o2.get (kb, _) (by simp [Z])
  have gk5 : h5.get kb = some (.cells kcs false 0) := ow.get (kb, _) (by simp [Z])
  have gp5 : h5.get p = some (.cells (pcells D ks) false 0) := ow.get (p, _) (by simp [Z])
  have gr5 : h5.get (D w).r = some (.cells [s3, .int .u64 (D w).last] false 0) := ow.get ((D w).r, _) (by simp [Z])
  have ldf : ldT (.fn k_ticket_Queue_All_1 1) h1 (some ⟨kb, 1, none⟩) = some ((some ⟨bx, 0, none⟩, ()) : Ptrs 1) := by
    rw [ldT_of gk, ← hkk]; rfl
  have ldw : ldT (.int .i64) h5 (some ⟨kb, 0, none⟩) = some (w : Int) := by rw [ldT_of gk5, ← hkk]; simp
  have ldr : ldT .ptr h5 (some ⟨p, 2 + w, none⟩) = some (some ⟨(D w).r, 0, none⟩) := by rw [ldT_of gp5, pget_r hw]; rfl
  have ir : ixA 2 1 (some ⟨p, 2, none⟩) (w : Int) = some ⟨p, 2 + w, none⟩ := by rw [ixA_of hw]; simp
  have rd1 : Rds h5 1 s' (D w).xs.length (iz .u64 (D w).xs) := hs'.sow h5 fun x hx => ow.get x (by simp [hx])
  have rd3 : Rds h5 1 s3 (D w).xs.length (iz .u64 (D w).xs) := hs3.sow h5 fun x hx => ow.get x (by simp [Z, hx])
  have e8 := same_ok (n := n) rd1 rd3 (by omega) hn
  refine ⟨h5, ?_, back ow⟩
  have hj2 : (j : Int) < 2 := by omega
  simp only [f_wicketlaw11_TicketPlays_L72, hj2, decide_true, cond_true, bnd_eq, hh1, hb, nwA_eq, hkb, hp, fa_mk, Nat.zero_add, ldf, Option.bind_some, e7']
  simp [ldT_of ow.head, ldw, ir, ldr, ldT_of gr5, e8, wrap_succ (j := j) (by omega)]

/-- All kept iterators. -/
theorem kept_ok {h0 h9 : Heap} {ks : Value} {v0 : Bool} (hp : h9.next = p) (hP : PSx p D K N L) (hks : ∃ A, Slc 2 ks K.length (K.flatMap kc) A ∧ ∀ x ∈ A, x ∈ L) (ho : Own h (L ++ G)) (hN : N ≤ 800) (hn : 2000 ≤ n) :
    ∃ h', loopT (fun a : (Bool × Int × Unit) × Heap => f_wicketlaw11_TicketPlays_L75 n h0 h9 ks K.length a.1.1 a.1.2.1 a.2) n ((v0, 0, ()), h) = some ((true, ()), h') := by
  obtain ⟨A, hks, hA⟩ := hks
  have hKl : K.length ≤ N := by obtain ⟨_, _, _, _, _, _, hs, _⟩ := hP; exact hs.klen
  obtain ⟨⟨⟨r, _⟩, h'⟩, e1, e2⟩ := loopT_up (f := fun a : (Bool × Int × Unit) × Heap => f_wicketlaw11_TicketPlays_L75 n h0 h9 ks K.length a.1.1 a.1.2.1 a.2)
    (I := fun j a => a.1.2.1 = (j : Int) ∧ Own a.2 (L ++ G)) (Q := fun r => r.1.1 = true) (N := K.length) (k := n) (j := 0) (a := ((v0, 0, ()), h)) (by omega) (Nat.zero_le _) ⟨rfl, ho⟩ (by
      rintro i ⟨⟨b, z, _⟩, hh⟩ hi ⟨rfl, ow⟩
      simp only at ow
      have rd : Rds hh 2 ks K.length (K.flatMap kc) := hks.sow hh fun x hx => ow.get x (List.mem_append_left _ (hA x hx))
      obtain ⟨q, a1, a2⟩ := rd.ix i hi
      rw [flat_at (mk := kc) (fun _ => rfl) (List.getElem?_eq_getElem hi)] at a2
      have ld : ldA 2 hh (some q) = some (kc K[i]) := by rw [a2.ldA0 (by rw [kc_len]; exact Nat.le_refl _)]; rfl
      have o1 := ow.new (.cells [.int .i64 0, .nilFunc] false 0)
      generalize hb : hh.next = kb at o1
      generalize hh1 : hh.new (.cells [.int .i64 0, .nilFunc] false 0) = h1 at o1
      have st : stB 2 (.agg ⟨kc K[i]⟩) h1 (some ⟨kb, 0, none⟩) = some (h1.put kb (.cells (kc K[i]) false 0)) := by
        have := stBA_of (vs := kc K[i]) (sz := 2) (o := 0) (sp := none) o1.head rfl rfl (by simp)
        exact this
      have o2 := o1.put (.cells (kc K[i]) false 0)
      generalize hh2 : h1.put kb (.cells (kc K[i]) false 0) = h2 at o2
      obtain ⟨r, e1, h3, rfl, o3⟩ := loopT_up (f := fun a : (Bool × Int × Unit) × Heap => f_wicketlaw11_TicketPlays_L72 n h0 h9 hh a.1.1 a.1.2.1 a.2) (I := fun j a => a.1.1 = b ∧ a.1.2.1 = (j : Int) ∧ Own a.2 ((kb, .cells (kc K[i]) false 0) :: (L ++ G))) (Q := fun r => ∃ h3, r = .inl ((b, ()), h3) ∧ Own h3 ((kb, .cells (kc K[i]) false 0) :: (L ++ G))) (N := 2) (k := n) (j := 0) (a := ((b, 0, ()), h2)) (by omega) (Nat.zero_le _) ⟨rfl, rfl, o2⟩ (by
          rintro j ⟨⟨b, z, _⟩, hh'⟩ hj ⟨rfl, rfl, ow⟩
          obtain ⟨h', e, o⟩ := round_ok (h0 := h0) (v51 := b) hi hj hp hb hP ow hN hn
          exact .inl ⟨((b, ((j + 1 : Nat) : Int), ()), h'), e, rfl, rfl, o⟩) (by
          rintro ⟨⟨b, z, _⟩, hh'⟩ ⟨rfl, rfl, ow⟩
          exact ⟨.inl ((b, ()), hh'), by simp [f_wicketlaw11_TicketPlays_L72], hh', rfl, ow⟩)
      refine .inl ⟨((b, ((i + 1 : Nat) : Int), ()), h3), ?_, rfl, o3.tail⟩
      have e1' : loopT (fun a : (Bool × Int × Unit) × Heap => f_wicketlaw11_TicketPlays_L72 n h0 h9 hh a.1.1 a.1.2.1 a.2) n ((b, 0, ()), h2) = some (.inl ((b, ()), h3)) := e1
      simp only [f_wicketlaw11_TicketPlays_L75, f_wicketlaw11_TicketPlays_C73, bnd_eq, a1, Option.bind_some, ld, hh1, hb, nwA_eq, st, hh2, e1', thenB_inl]
      simp [hi, wrap_succ (j := i) (by omega)]) (by
      rintro ⟨⟨b, z, _⟩, hh⟩ ⟨rfl, ow⟩
      exact ⟨((true, ()), hh), by simp [f_wicketlaw11_TicketPlays_L75], rfl⟩)
  have e2 : r = true := e2
  subst e2
  exact ⟨h', e1⟩

theorem ticketPlays_ok {u : Value} {k : Nat} {cs : List Value} (hu : Sow 4 u k cs G) (hops : ∀ i, i < k → ∃ o : OpT, (cs.drop (i * 4)).take 4 = o.cells) (ho : Own h G) (hn : 2000 ≤ n) :
    ∃ h', f_wicketlaw11_TicketPlays n u h = some ((true, ()), h') := by
  have o1 := ho.new (.cells [.slice none 0 0, .int .u64 0] false 0)
  generalize hb1 : h.next = b1 at o1
  generalize hh1 : h.new (.cells [.slice none 0 0, .int .u64 0] false 0) = h1 at o1
  have o2 := o1.new (.cells [.slice none 0 0, .int .u64 0] false 0)
  generalize hb2 : h1.next = b2 at o2
  generalize hh2 : h1.new (.cells [.slice none 0 0, .int .u64 0] false 0) = h2 at o2
  have o3 := o2.new (.cells [.slice none 0 0, .int .u64 0] false 0)
  generalize hb3 : h2.next = b3 at o3
  generalize hh3 : h2.new (.cells [.slice none 0 0, .int .u64 0] false 0) = h3 at o3
  have o4 := o3.new (.cells [.slice none 0 0, .int .u64 0] false 0)
  generalize hb4 : h3.next = b4 at o4
  generalize hh4 : h3.new (.cells [.slice none 0 0, .int .u64 0] false 0) = h4 at o4
  let D : Nat → Sd := fun i => if i = 0 then ⟨b1, b3, [], 0⟩ else ⟨b2, b4, [], 0⟩
  have o5 := o4.new (.cells (pcells D (.slice none 0 0)) false 0)
  generalize hb5 : h4.next = p at o5
  generalize hh5 : h4.new (.cells (pcells D (.slice none 0 0)) false 0) = h5 at o5
  have qx : ∀ b, Qx b [] 0 [(b, .cells [.slice none 0 0, .int .u64 0] false 0)] := fun b => ⟨.slice none 0 0, [], .nil, rfl⟩
  have hD : ∀ i, (D i).xs = [] := fun i => by simp only [D]; split <;> rfl
  have hP : PSx p D [] 0 ((p, .cells (pcells D (.slice none 0 0)) false 0) :: ([(b1, .cells [.slice none 0 0, .int .u64 0] false 0)] ++ ([(b3, .cells [.slice none 0 0, .int .u64 0] false 0)] ++ ([(b2, .cells [.slice none 0 0, .int .u64 0] false 0)] ++ ([(b4, .cells [.slice none 0 0, .int .u64 0] false 0)] ++ ([] ++ bxc D [])))))) :=
    ⟨.slice none 0 0, _, _, _, _, [], ⟨qx _, qx _, qx _, qx _, .nil, fun k hk => absurd hk List.not_mem_nil, fun i _ => by rw [hD]; exact ⟨.nil, fun x hx => absurd hx List.not_mem_nil⟩, fun i _ => by rw [hD]; exact Nat.le_refl _, Nat.le_refl _⟩, rfl⟩
  obtain ⟨h6, L6, D6, K6, e6, hP6, o6⟩ := script_ok (n := n) hu hops hb5 hP (h := h5) (o5.to fun x => by simp only [bxc, List.map_nil, cnt_append, cnt_cons, cnt_nil, List.cons_append, List.nil_append]; omega) hn
  obtain ⟨h7, L7, e7, hP7, o7⟩ := both_ok (n := n) (a24 := ((false, ()), h6)) rfl hb5 hP6 o6 (by omega) hn
  have hP7' := hP7
  obtain ⟨ks, Q0, R0, Q1, R1, A, hs, rfl⟩ := hP7'
  have gp : h7.get p = some (.cells (pcells D6 ks) false 0) := o7.get (p, _) (by simp)
  have ld : ldT .any h7 (some ⟨p, 4, none⟩) = some ks := by rw [ldT_of gp]; rfl
  obtain ⟨h8, e8⟩ := kept_ok (n := n) (h0 := h) (v0 := false) hb5 hP7 ⟨A, hs.ks, fun x hx => by simp [hx]⟩ o7 (by omega) hn
  refine ⟨h8, ?_⟩
  have aw : f_wicketlaw11_awake n h = some ((true, ()), h) := rfl
  have f5 : fillL [.pointer none, .pointer none, .pointer none, .pointer none, .slice none 0 0] [(0, 2, .agg ⟨[.pointer (some ⟨b1, 0, none⟩), .pointer (some ⟨b2, 0, none⟩)]⟩), (2, 2, .agg ⟨[.pointer (some ⟨b3, 0, none⟩), .pointer (some ⟨b4, 0, none⟩)]⟩)] = some (pcells D (.slice none 0 0)) := rfl
  have f2 : ∀ a b : Nat, fillL [.pointer none, .pointer none] [(0, 1, .pointer (some ⟨a, 0, none⟩)), (1, 1, .pointer (some ⟨b, 0, none⟩))] = some [.pointer (some ⟨a, 0, none⟩), .pointer (some ⟨b, 0, none⟩)] := fun a b => rfl
  have c1 : ([.slice none 0 0, .int .u64 0] : List Value).all isCell = true := rfl
  have c2 : (pcells D (.slice none 0 0)).all isCell = true := rfl
  simp only [f_wicketlaw11_TicketPlays, aw, Option.bind_some, Bool.not_true, cond_false, fillL_nil, c1, cond_true, bnd_eq, hh1, hh2, hh3, hh4, nwA_eq, hb1, hb2, hb3, hb4, f2, f5, c2, hh5, hb5, e6, thenB_inl, e7, fa_mk, Nat.zero_add, ld, hs.ks.lenB, e8]
end
end Go.Proofs.Ytpcmjoghflllfaa
