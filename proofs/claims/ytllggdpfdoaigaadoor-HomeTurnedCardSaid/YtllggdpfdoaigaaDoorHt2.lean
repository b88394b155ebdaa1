/- HomeTurned. -/
import Derived.Test.YtllggdpfdoaigaaDoorHt1
namespace Go.Proofs.YtllggdpfdoaigaaDoor
open Go
set_option linter.unusedVariables false
set_option linter.unusedSimpArgs false

theorem idx61 (y : Int) : ∃ p : Nat, p < 61 ∧ Int.tmod (IntKind.i64.wrap (Int.tmod y 61 + 61)) 61 = (p : Int) := by
  have g1 := Int.tmod_lt_of_pos y (b := 61) (by omega)
  have g2 := Int.lt_tmod_of_pos y (b := 61) (by omega)
  rw [wrap_i64 (by omega) (by omega)]
  have g3 := Int.tmod_lt_of_pos (y.tmod 61 + 61) (b := 61) (by omega)
  have g4 := Int.tmod_nonneg (a := y.tmod 61 + 61) 61 (by omega)
  exact ⟨((y.tmod 61 + 61).tmod 61).toNat, by omega, by omega⟩

theorem xor8_b {a b : Nat} (ha : a < 256) (hb : b < 256) : bitB .xor .u8 (a : Int) .u8 (b : Int) = some ((a ^^^ b : Nat) : Int) := by
  have h1 : a ^^^ b < 2 ^ 8 := Nat.xor_lt_two_pow (n := 8) ha hb
  have e1 : ((a : Int) % 2 ^ 8).toNat = a := by omega
  have e2 : ((b : Int) % 2 ^ 8).toNat = b := by omega
  have e : bitB .xor .u8 (a : Int) .u8 (b : Int) = some (IntKind.u8.wrap (((((a : Int) % 2 ^ 8).toNat ^^^ ((b : Int) % 2 ^ 8).toNat : Nat)) : Int)) := rfl
  rw [e, e1, e2, wrap_u8]
  congr 1; omega

section
variable {n : Nat} {h : Heap} {F G : Ch} {s : Value} {L V B P S : List Int} {k : Int}

theorem own_ok (hs : Sow 1 s L.length (iz .u8 L) G) (ho : Own h (G ++ F)) (hlen : L.length ≤ 1000) : ∃ s' h' A, f_wicketlaw01_Own n s h = some ((s', ()), h') ∧ Slc 1 s' L.length (iz .u8 L) A ∧ Own h' (A ++ (G ++ F)) := by
  have ob := ho.new (.cells [] false 1)
  obtain ⟨s2, h2, A2, e3, l3, oc⟩ := hs.app (h := h.new (.cells [] false 1)) (F := F) (s := .slice (some ⟨h.next, 0, some 0⟩) 0 0) (cs := []) (n := 0) (A := [(h.next, .cells ([] ++ ([] ++ [])) false 1)]) (bytes := 1) (.mk rfl rfl rfl) ob (by decide) (by omega)
  rw [Nat.zero_add, List.nil_append] at l3
  have f1 : fillL [] [] = some [] := rfl
  exact ⟨s2, h2, A2, by simp only [f_wicketlaw01_Own, f1, Option.bind_some, bnd_eq, e3, l3.notT, Bool.not_false, cond_true], l3, oc⟩

/-- One byte turned. -/
theorem turn_ok {h0 : Heap} {b1 p i a d : Nat} {p7 : (Value × Unit) × Heap} {x : Int} {Y : List Int} {A : Ch} {M : List Value} (hp7 : p7.1.1 = s) (hb1 : h0.next = b1) (hl : Slc 1 s 64 (iz .u8 Y) A) (hY : Y.length = 64) (hpi : p + i < 64) (hi : i < 4) (hx : Int.tmod (IntKind.i64.wrap (Int.tmod x 61 + 61)) 61 = (p : Int))
    (ha : Y[p + i]? = some (a : Int)) (hd : M[i]? = some (.int .u8 (d : Int))) (ha2 : a < 256) (hd2 : d < 256) (ho : Own h (A ++ ((b1, .cells M false 0) :: F))) :
    ∃ h' A', f_wicketlaw08_HomeTurned_L17 n x h0 p7 (i : Int) h = some (.inl ((((i + 1 : Nat) : Int), ()), h')) ∧ Slc 1 s 64 (iz .u8 (Y.set (p + i) ((a ^^^ d : Nat) : Int))) A' ∧ Own h' (A' ++ ((b1, .cells M false 0) :: F)) := by
  have rs : Rds h 1 s Y.length (iz .u8 Y) := by rw [hY]; exact hl.rds ho
  have hpi' : p + i < Y.length := by omega
  obtain ⟨q, e1, e2⟩ := rs.int (L := Y) hpi'
  have hya : Y[p + i] = (a : Int) := by rw [List.getElem?_eq_getElem hpi'] at ha; exact Option.some.inj ha
  rw [hya] at e2
  obtain ⟨q', h', A', f1, f2, f3, f4⟩ := slc_set1 hl ho hpi (v := .int .u8 ((a ^^^ d : Nat) : Int)) rfl rfl
  obtain rfl : q = q' := Option.some.inj (e1.symm.trans f1)
  have hset : (iz .u8 Y).set (p + i) (.int .u8 ((a ^^^ d : Nat) : Int)) = iz .u8 (Y.set (p + i) ((a ^^^ d : Nat) : Int)) := by simp [iz, List.map_set]
  rw [hset] at f3
  refine ⟨h', A', ?_, f3, f4⟩
  have gb : h.get b1 = some (.cells M false 0) := ho.get (b1, _) (by simp)
  have hix : ixA 4 1 (some ⟨b1, 0, none⟩) (i : Int) = some ⟨b1, i, none⟩ := by
    show (bif Nat.blt i 4 then _ else none) = _
    rw [show Nat.blt i 4 = true from Nat.ble_eq_true_of_le hi]; simp
  have ldd : ldT (.int .u8) h (some ⟨b1, i, none⟩) = some (d : Int) := by rw [ldT_of gb, hd]; rfl
  have hw : IntKind.i64.wrap ((p : Int) + (i : Int)) = ((p + i : Nat) : Int) := by rw [wrap_i64 (by omega) (by omega)]; omega
  have hlt : (i : Int) < 4 := by omega
  simp only [f_wicketlaw08_HomeTurned_L17, hlt, decide_true, cond_true, hp7, hx, hw, e1, e2, Option.bind_some, nwA_eq, hb1, hix, ldd, xor8_b ha2 hd2, f2, wrap_succ (j := i) (by omega)]

theorem set_mid {M : List Int} {i : Nat} {z : Int} : (P ++ M).set (P.length + i) z = P ++ M.set i z := by
  rw [List.set_append_right _ _ (by omega)]; congr 2; omega
theorem nat_of {z : Int} (h : 0 ≤ z ∧ z < 256) : ∃ a : Nat, z = (a : Int) ∧ a < 256 := ⟨z.toNat, by omega, by omega⟩

theorem xor_id {a d : Nat} : a ^^^ d = a ↔ d = 0 := by
  constructor
  · intro h
    have : d ^^^ a = 0 ^^^ a := by rw [Nat.xor_comm, h, Nat.zero_xor]
    exact xor_cancel this
  · rintro rfl; rw [Nat.xor_zero]

theorem homeTurned_ok {x0 x2 : Int} {D : List Int} (hV : V.length = 32) (hb : Byt V) (hD : D.length = 4) (hDb : Byt D) (hm0 : tabO ∈ G) (hm1 : tabP ∈ G) (ho : Own h G) (hn : 2000 ≤ n) :
    ∃ h', f_wicketlaw08_HomeTurned n x0 (.agg ⟨iz .u8 V⟩) x2 (.agg ⟨iz .u8 D⟩) h = some ((true, ()), h') := by
  obtain ⟨k, k1, hk⟩ := idx64 x0
  obtain ⟨p, p1, hp⟩ := idx61 x2
  have kk1 : (0 : Int) ≤ (k : Int) := by omega
  have kk2 : (k : Int) < 64 := by omega
  obtain ⟨D0, D1, D2, D3, rfl⟩ : ∃ a b c d, D = [a, b, c, d] := by
    match D, hD with
    | [a, b, c, d], _ => exact ⟨a, b, c, d, rfl⟩
  obtain ⟨d0, rfl, u0⟩ := nat_of (hDb D0 (by simp))
  obtain ⟨d1, rfl, u1⟩ := nat_of (hDb D1 (by simp))
  obtain ⟨d2, rfl, u2⟩ := nat_of (hDb D2 (by simp))
  obtain ⟨d3, rfl, u3⟩ := nat_of (hDb D3 (by simp))
  have el := enc_len (k := (k : Int)) hV
  have eb := enc_byt (k := (k : Int)) kk1 kk2 hb
  -- the text in three parts
  obtain ⟨P, S, X0, X1, X2, X3, hX, hPl⟩ : ∃ P S X0 X1 X2 X3, enc (k : Int) V = P ++ ([X0, X1, X2, X3] ++ S) ∧ P.length = p := by
    have hl4 : (((enc (k : Int) V).drop p).take 4).length = 4 := by rw [List.length_take, List.length_drop, el]; omega
    match hm : ((enc (k : Int) V).drop p).take 4, hl4 with
    | [a, b, c, d], _ =>
      refine ⟨(enc (k : Int) V).take p, ((enc (k : Int) V).drop p).drop 4, a, b, c, d, ?_, by rw [List.length_take, el]; omega⟩
      rw [← hm, List.take_append_drop, List.take_append_drop]
  have hPb : Byt P := fun z hz => eb z (by rw [hX]; simp [hz])
  have hSb : Byt S := fun z hz => eb z (by rw [hX]; simp [hz])
  obtain ⟨a0, rfl, v0⟩ := nat_of (eb X0 (by rw [hX]; simp))
  obtain ⟨a1, rfl, v1⟩ := nat_of (eb X1 (by rw [hX]; simp))
  obtain ⟨a2, rfl, v2⟩ := nat_of (eb X2 (by rw [hX]; simp))
  obtain ⟨a3, rfl, v3⟩ := nat_of (eb X3 (by rw [hX]; simp))
  have o1 := ho.new (.cells (iz .u8 V) false 0)
  generalize hb0 : h.next = b0 at o1
  generalize hh0 : h.new (.cells (iz .u8 V) false 0) = h0 at o1
  have o2 := o1.new (.cells (iz .u8 [(d0 : Int), (d1 : Int), (d2 : Int), (d3 : Int)]) false 0)
  generalize hb1 : h0.next = b1 at o2
  generalize hh1 : h0.new (.cells (iz .u8 [(d0 : Int), (d1 : Int), (d2 : Int), (d3 : Int)]) false 0) = h1 at o2
  have ldV := arr_ld (o2.get (b0, .cells (iz .u8 V) false 0) (by simp)) hV
  obtain ⟨s3, h2, A3, e3, l3, o3⟩ := encode_ok (n := n) (k := (k : Int)) (V := V) kk1 kk2 hV hb (h := h1) (F := (b1, .cells (iz .u8 [(d0 : Int), (d1 : Int), (d2 : Int), (d3 : Int)]) false 0) :: (b0, .cells (iz .u8 V) false 0) :: G) (List.mem_cons_of_mem _ (List.mem_cons_of_mem _ hm0)) o2 hn
  have aw := awake_ok (n := n) (o3.get tabO (by simp only [List.mem_cons, List.mem_append]; exact .inr (.inr (.inr hm0)))) (o3.get tabP (by simp only [List.mem_cons, List.mem_append]; exact .inr (.inr (.inr hm1))))
  obtain ⟨s7, h3, A7, e7, l7, o4⟩ := own_ok (n := n) (L := enc (k : Int) V) (s := s3) (G := A3) (by rw [el]; exact l3.sow) o3 (by omega)
  rw [el] at l7
  have o5 : Own h3 (A7 ++ ((b1, .cells (iz .u8 [(d0 : Int), (d1 : Int), (d2 : Int), (d3 : Int)]) false 0) :: ((b0, .cells (iz .u8 V) false 0) :: G))) := o4.to fun x => by simp only [cnt_append, cnt_cons, cnt_nil]; omega
  have hl64 : ∀ M : List Int, M.length = 4 → (P ++ (M ++ S)).length = 64 := fun M hM => by rw [hX] at el; simp only [List.length_append, List.length_cons, List.length_nil] at el ⊢; omega
  rw [hX] at l7
  have gt : ∀ (M : List Int) (i : Nat), i < M.length → (P ++ (M ++ S))[p + i]? = M[i]? := fun M i hi => by
    rw [List.getElem?_append_right (by omega), hPl, Nat.add_sub_cancel_left, List.getElem?_append_left hi]
  have st : ∀ (M : List Int) (i : Nat) (z : Int), i < M.length → (P ++ (M ++ S)).set (p + i) z = P ++ (M.set i z ++ S) := fun M i z hi => by
    rw [← hPl, set_mid, List.set_append_left _ _ hi]
  obtain ⟨h4, A8, t0, l8, o6⟩ := turn_ok (n := n) (h0 := h0) (p7 := ((s7, ()), h3)) (i := 0) (d := d0) (a := a0) (x := x2) rfl hb1 l7 (hl64 _ rfl) (by omega) (by decide) hp (gt _ 0 (by simp)) rfl v0 u0 o5
  rw [st _ _ _ (by simp)] at l8
  obtain ⟨h5, A9, t1, l9, o7⟩ := turn_ok (n := n) (h0 := h0) (p7 := ((s7, ()), h3)) (i := 1) (d := d1) (a := a1) (x := x2) rfl hb1 l8 (hl64 _ rfl) (by omega) (by decide) hp (gt _ 1 (by simp)) rfl v1 u1 o6
  rw [st _ _ _ (by simp)] at l9
  obtain ⟨h6, A10, t2, l10, o8⟩ := turn_ok (n := n) (h0 := h0) (p7 := ((s7, ()), h3)) (i := 2) (d := d2) (a := a2) (x := x2) rfl hb1 l9 (hl64 _ rfl) (by omega) (by decide) hp (gt _ 2 (by simp)) rfl v2 u2 o7
  rw [st _ _ _ (by simp)] at l10
  obtain ⟨h7, A11, t3, l11, o9⟩ := turn_ok (n := n) (h0 := h0) (p7 := ((s7, ()), h3)) (i := 3) (d := d3) (a := a3) (x := x2) rfl hb1 l10 (hl64 _ rfl) (by omega) (by decide) hp (gt _ 3 (by simp)) rfl v3 u3 o8
  rw [st _ _ _ (by simp)] at l11
  have hY : (((([(a0 : Int), (a1 : Int), (a2 : Int), (a3 : Int)].set 0 ((a0 ^^^ d0 : Nat) : Int)).set 1 ((a1 ^^^ d1 : Nat) : Int)).set 2 ((a2 ^^^ d2 : Nat) : Int)).set 3 ((a3 ^^^ d3 : Nat) : Int)) = [((a0 ^^^ d0 : Nat) : Int), ((a1 ^^^ d1 : Nat) : Int), ((a2 ^^^ d2 : Nat) : Int), ((a3 ^^^ d3 : Nat) : Int)] := rfl
  rw [hY] at l11
  have x8 : ∀ {a d : Nat}, a < 256 → d < 256 → a ^^^ d < 256 := fun ha hd => Nat.xor_lt_two_pow (n := 8) ha hd
  generalize hYY : P ++ ([((a0 ^^^ d0 : Nat) : Int), ((a1 ^^^ d1 : Nat) : Int), ((a2 ^^^ d2 : Nat) : Int), ((a3 ^^^ d3 : Nat) : Int)] ++ S) = Y at l11
  have hYl : Y.length = 64 := by rw [← hYY]; exact hl64 _ rfl
  have hYb : Byt Y := by
    intro z hz
    rw [← hYY] at hz
    rcases List.mem_append.1 hz with hz | hz
    · exact hPb z hz
    · rcases List.mem_append.1 hz with hz | hz
      · have := x8 v0 u0; have := x8 v1 u1; have := x8 v2 u2; have := x8 v3 u3
        simp only [List.mem_cons, List.not_mem_nil, or_false] at hz
        rcases hz with rfl | rfl | rfl | rfl <;> omega
      · exact hSb z hz
  obtain ⟨h8, e8, o10⟩ := decode_ok (n := n) (k := (k : Int)) (B := Y) (s := s7) (G := A11) kk1 kk2 hYb (by rw [hYl]; exact l11.sow) (by rw [hYl]; exact l11.cap) (h := h7) (F := (b1, .cells (iz .u8 [(d0 : Int), (d1 : Int), (d2 : Int), (d3 : Int)]) false 0) :: ((b0, .cells (iz .u8 V) false 0) :: G)) (List.mem_append_right _ (List.mem_cons_of_mem _ (List.mem_cons_of_mem _ hm0))) o9 hn
  obtain ⟨h9, e9, o11⟩ := arr_tmp (L := decV (k : Int) Y) o10 decV_len
  generalize hb8 : h8.next = b8 at e9 o11
  generalize hh8 : h8.new (.cells z32' false 0) = h10 at e9
  have ld8 := arr_ld o11.head decV_len
  have gb1 : h9.get b1 = some (.cells (iz .u8 [(d0 : Int), (d1 : Int), (d2 : Int), (d3 : Int)]) false 0) := o11.get (b1, _) (by simp)
  have gb0 : h9.get b0 = some (.cells (iz .u8 V) false 0) := o11.get (b0, _) (by simp)
  have ldD : ldA 4 h9 (some ⟨b1, 0, none⟩) = some (iz .u8 [(d0 : Int), (d1 : Int), (d2 : Int), (d3 : Int)]) := by rw [ldA_of gb1 (by simp [iz])]; rfl
  have ld0 := arr_ld gb0 hV
  have fz4 : fillL (List.replicate 4 (.int .u8 0)) [] = some (iz .u8 [0, 0, 0, 0]) := rfl
  have eq4 : eqVals h9 (.agg [false, false, false, false]) (.agg ⟨iz .u8 [(d0 : Int), (d1 : Int), (d2 : Int), (d3 : Int)]⟩) (.agg ⟨iz .u8 [0, 0, 0, 0]⟩) = some (decide ([(d0 : Int), (d1 : Int), (d2 : Int), (d3 : Int)] = [0, 0, 0, 0])) := eq_ok (h := h9) (m := 4) rfl rfl
  have fz : fillL z32' [] = some z32' := rfl
  refine ⟨h9, ?_⟩
  -- the loop
  obtain ⟨m, hm⟩ : ∃ m, n = m + 5 := ⟨n - 5, by omega⟩
  have t4 : f_wicketlaw08_HomeTurned_L17 n x2 h0 ((s7, ()), h3) ((4 : Nat) : Int) h7 = some (.inr ((), h7)) := by simp [f_wicketlaw08_HomeTurned_L17]
  have lp : loopT (fun a : (Int × Unit) × Heap => f_wicketlaw08_HomeTurned_L17 n x2 h0 ((s7, ()), h3) a.1.1 a.2) n ((0, ()), h3) = some ((), h7) := by
    have t0 : f_wicketlaw08_HomeTurned_L17 n x2 h0 ((s7, ()), h3) 0 h3 = some (.inl ((((0 + 1 : Nat) : Int), ()), h4)) := t0
    generalize hf : (fun a : (Int × Unit) × Heap => f_wicketlaw08_HomeTurned_L17 n x2 h0 ((s7, ()), h3) a.1.1 a.2) = f
    have f0 : f ((0, ()), h3) = some (.inl ((((0 + 1 : Nat) : Int), ()), h4)) := by rw [← hf]; exact t0
    have f1 : f ((((0 + 1 : Nat) : Int), ()), h4) = some (.inl ((((1 + 1 : Nat) : Int), ()), h5)) := by rw [← hf]; exact t1
    have f2 : f ((((1 + 1 : Nat) : Int), ()), h5) = some (.inl ((((2 + 1 : Nat) : Int), ()), h6)) := by rw [← hf]; exact t2
    have f3 : f ((((2 + 1 : Nat) : Int), ()), h6) = some (.inl ((((3 + 1 : Nat) : Int), ()), h7)) := by rw [← hf]; exact t3
    have f4 : f ((((3 + 1 : Nat) : Int), ()), h7) = some (.inr ((), h7)) := by rw [← hf]; exact t4
    rw [hm]
    simp only [loopT, f0, f1, f2, f3, f4]
  have c1 : (cellsOf (.agg ⟨iz .u8 V⟩)).all isCell = true := iz_cell
  have c2 : cellsOf (.agg ⟨iz .u8 V⟩) = iz .u8 V := rfl
  have c3 : cellsOf (.agg ⟨iz .u8 [(d0 : Int), (d1 : Int), (d2 : Int), (d3 : Int)]⟩) = iz .u8 [(d0 : Int), (d1 : Int), (d2 : Int), (d3 : Int)] := rfl
  have hl3 : lenB s3 = some 64 := l3.lenB
  by_cases hz : [(d0 : Int), (d1 : Int), (d2 : Int), (d3 : Int)] = [0, 0, 0, 0]
  · -- nothing turned
    simp only [List.cons.injEq, and_true] at hz
    have z0 : d0 = 0 := by omega
    have z1 : d1 = 0 := by omega
    have z2 : d2 = 0 := by omega
    have z3 : d3 = 0 := by omega
    have hYX : Y = enc (k : Int) V := by rw [← hYY, hX, z0, z1, z2, z3]; simp only [Nat.xor_zero]
    obtain ⟨q1, q2⟩ := dec_self (k := (k : Int)) hV
    have hE : decE (k : Int) Y = 0 := by rw [hYX]; exact q1
    have hVd : decV (k : Int) Y = V := by rw [hYX]; exact q2
    rw [hE, hVd] at e8
    rw [hVd] at e9 ld8
    have eqd : decide ([(d0 : Int), (d1 : Int), (d2 : Int), (d3 : Int)] = [0, 0, 0, 0]) = true := by rw [z0, z1, z2, z3]; rfl
    rw [eqd] at eq4
    have eqv := eq_ok (h := h9) hV hV
    rw [decide_eq_true rfl] at eqv
    simp only [f_wicketlaw08_HomeTurned, c1, iz_cell, cond_true, c2, bnd_eq, hh0, c3, hh1, nwA_eq, hb0, ldV, Option.bind_some, hk, e3, aw, Bool.not_true, cond_false, decide_true, hl3, show ((64 : Nat) : Int) = 64 from rfl, e7, lp, e8, hh8, hb8, e9, hb1, ldD, fz4, eq4, ld8, ld0, eqv]
  · -- something turned
    have hE : decE (k : Int) Y = 80 := by
      unfold decE
      rw [if_pos hYl, if_neg]
      intro hv
      have r1 := home_sum (k := (k : Int)) (V := V) kk1 kk2 hb
      have r2 := home_sum (k := (k : Int)) (V := midV Y) kk1 kk2 (midV_byt hYb)
      rw [hv] at r2
      rw [hX] at r1
      rw [← r1, ← hYY] at r2
      obtain ⟨w0, w1, w2, w3⟩ := same_four hPb hSb (by decide) (x8 v0 u0) (x8 v1 u1) (x8 v2 u2) (x8 v3 u3) v0 v1 v2 v3 r2
      rw [xor_id] at w0 w1 w2 w3
      exact hz (by rw [w0, w1, w2, w3]; rfl)
    have hVd : decV (k : Int) Y = List.replicate 32 0 := by unfold decV; rw [hE]; rfl
    rw [hE] at e8
    have hld : ldA 32 h9 (some ⟨b8, 0, none⟩) = some z32' := by rw [ld8, hVd]; rfl
    have eqz : eqVals h9 (.agg (List.replicate 32 false)) (.agg ⟨z32'⟩) (.agg ⟨z32'⟩) = some true := by
      have := eq_ok (h := h9) (A := List.replicate 32 0) (B := List.replicate 32 0) (m := 32) (by simp) (by simp)
      rw [decide_eq_true rfl] at this
      exact this
    rw [decide_eq_false hz] at eq4
    simp only [f_wicketlaw08_HomeTurned, c1, iz_cell, cond_true, c2, bnd_eq, hh0, c3, hh1, nwA_eq, hb0, ldV, Option.bind_some, hk, e3, aw, Bool.not_true, cond_false, decide_true, hl3, show ((64 : Nat) : Int) = 64 from rfl, e7, lp, e8, hh8, hb8, e9, hb1, ldD, fz4, eq4, hld, fz, eqz]
end
end Go.Proofs.YtllggdpfdoaigaaDoor
