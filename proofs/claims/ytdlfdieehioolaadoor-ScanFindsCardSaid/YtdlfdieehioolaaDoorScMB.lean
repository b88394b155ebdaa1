import Derived.Test.YtdlfdieehioolaaDoorScMA
/- A log that is written. -/
namespace Go.Proofs.YtdlfdieehioolaaDoor
open Go
set_option linter.unusedVariables false
set_option linter.unusedSimpArgs false
def lg (p : Nat) (c : Cf) (lf T E M : Nat) (im la : Int) : List Value := .pointer (some ⟨p, 0, none⟩) :: (c.cells ++ [.int .u64 (lf : Int), .int .u64 (T : Int), .int .u64 (E : Int), .int .u64 (M : Int), .int .i64 im, .int .i64 la])
structure Lld (h : Heap) (q p : Nat) (c : Cf) (lf T E M : Nat) (im la : Int) : Prop where
  d : ldT .ptr h (some ⟨q, 0, none⟩) = some (some ⟨p, 0, none⟩)
  b : ldT (.int .i64) h (some ⟨q, 1, none⟩) = some c.b
  l : ldT (.int .i64) h (some ⟨q, 2, none⟩) = some c.l
  r : ldT (.int .i64) h (some ⟨q, 3, none⟩) = some c.r
  T : ldT (.int .u64) h (some ⟨q, 7, none⟩) = some (T : Int)
  E : ldT (.int .u64) h (some ⟨q, 8, none⟩) = some (E : Int)
  M : ldT (.int .u64) h (some ⟨q, 9, none⟩) = some (M : Int)
  im : ldT (.int .i64) h (some ⟨q, 10, none⟩) = some im
  la : ldT (.int .i64) h (some ⟨q, 11, none⟩) = some la
section
variable {n m q p lf T E M : Nat} {s u : Value} {L X V B : List Int} {h h9 : Heap} {F G A D R Lx : Ch} {c : Cf} {z im la blk : Int} {cs xs : List Value} {r : Rc} {l1 l2 : List Nat} {b es : Nat} {ro : Bool} {ds : List (List Int)} {ws : List (Int × List Int)}
theorem lg_ld (ho : Own h ((q, .cells (lg p c lf T E M im la) ro 0) :: F)) : Lld h q p c lf T E M im la := by
  have hg := ho.head
  exact ⟨by rw [ldT_of hg]; rfl, by rw [ldT_of hg]; rfl, by rw [ldT_of hg]; rfl, by rw [ldT_of hg]; rfl, by rw [ldT_of hg]; rfl, by rw [ldT_of hg]; rfl, by rw [ldT_of hg]; rfl, by rw [ldT_of hg]; rfl, by rw [ldT_of hg]; rfl⟩
theorem lg_all : (lg p c lf T E M im la).all isCell = true := rfl
theorem tail_ok (ho : Own h ((q, .cells (lg p c lf T E M im la) ro 0) :: F)) : f_wal_Log_Tail n (some ⟨q, 0, none⟩) h = some (((T : Int), ()), h) := by
  simp only [f_wal_Log_Tail, Option.isNone_some, cond_false, Option.bind_some, fa_mk, Nat.zero_add, (lg_ld ho).T]
theorem end_ok (ho : Own h ((q, .cells (lg p c lf T E M im la) ro 0) :: F)) : f_wal_Log_End n (some ⟨q, 0, none⟩) h = some (((E : Int), ()), h) := by
  simp only [f_wal_Log_End, Option.isNone_some, cond_false, Option.bind_some, fa_mk, Nat.zero_add, (lg_ld ho).E]
theorem used_ok (hT : T ≤ E) (hE : E ≤ 4611686018427387904) (ho : Own h ((q, .cells (lg p c lf T E M im la) ro 0) :: F)) : f_wal_Log_Used n (some ⟨q, 0, none⟩) h = some ((((E - T : Nat) : Int), ()), h) := by
  have w1 : IntKind.u64.wrap ((E : Int) - (T : Int)) = ((E - T : Nat) : Int) := by rw [wrap_u64z (by omega) (by omega)]; omega
  have w2 : IntKind.i64.wrap ((E - T : Nat) : Int) = ((E - T : Nat) : Int) := wrap_i64n (by omega)
  simp only [f_wal_Log_Used, end_ok ho, tail_ok ho, Option.bind_some, w1, w2]
theorem none_ok (ho : Own h ((q, .cells (lg p c lf T E M im la) ro 0) :: F)) : f_wal_Log_none n (some ⟨q, 0, none⟩) h = some ((false, ()), h) := by
  simp only [f_wal_Log_none, Option.isNone_some, cond_false, Option.bind_some, fa_mk, Nat.zero_add, (lg_ld ho).d]
theorem room_ok (hT : T ≤ E) (hE : E < 4611686018427387904) (hU : ((E - T : Nat) : Int) ≠ c.l) (ho : Own h ((q, .cells (lg p c lf T E M im la) false 0) :: F)) : ∃ h', f_wal_Log_room n (some ⟨q, 0, none⟩) h = some ((0, ()), h') ∧ Own h' ((q, .cells (lg p c lf T E M im la) false 0) :: F) := by
  have ld := lg_ld ho
  have h1 : ¬ (E : Int) = 4611686018427387904 := by omega
  have o1 := ho.ro
  have e5 := used_ok (n := n) hT (by omega) o1
  have o2 := Own.back (h0 := h) o1 ho.head
  refine ⟨_, ?_, o2⟩
  simp only [f_wal_Log_room, none_ok ho, Option.bind_some, cond_false, fa_mk, Nat.zero_add, ld.E, h1, decide_false, ld.l, e5, bnd_eq, hU, List.nil_append]
theorem sectorOf_ok (h1 : 2 ≤ c.l) (h2 : c.l ≤ 64) (h3 : 1 ≤ c.b) (h4 : c.b ≤ 64) {P : Nat} (hP : P ≤ 4611686018427387968) (ho : Own h ((q, .cells (lg p c lf T E M im la) ro 0) :: F)) : f_wal_Log_sectorOf n (some ⟨q, 0, none⟩) (P : Int) h = some (((1 + c.b + ((P % c.l.toNat : Nat) : Int)), (0, ())), h) := by
  have ld := lg_ld ho
  have hc : c.l = ((c.l.toNat : Nat) : Int) := by omega
  have e2 := slot_ok (n := n) (h := h) hP (c := c.l.toNat) (by omega) (by omega)
  rw [← hc] at e2
  have hm : P % c.l.toNat < c.l.toNat := Nat.mod_lt _ (by omega)
  have w1 : IntKind.i64.wrap (1 + c.b) = 1 + c.b := wrap_i64 (by omega) (by omega)
  have w2 : IntKind.i64.wrap (1 + c.b + ((P % c.l.toNat : Nat) : Int)) = 1 + c.b + ((P % c.l.toNat : Nat) : Int) := wrap_i64 (by omega) (by omega)
  simp only [f_wal_Log_sectorOf, Option.bind_some, fa_mk, Nat.zero_add, ld.l, e2, ld.b, w1, w2]
theorem open_ok (hd : Dk p ds ws Lx) (hk : c.ok = true) (hl : -9223372036854775808 ≤ c.l ∧ c.l ≤ 9223372036854775807) (hN : (ds.length : Int) = 1 + c.b + c.l) (hT : T ≤ 4611686018427387904) (hlf : lf ≤ 4611686018427387904) (hl0 : lf ≠ 0) (ho : Own h (Lx ++ F)) :
    ∃ q h', f_wal_Open n (some ⟨p, 0, none⟩) (.agg ⟨c.cells⟩) (T : Int) (lf : Int) h = some ((some ⟨q, 0, none⟩, (0, ())), h') ∧ Own h' ((q, .cells (lg p c lf T T T 0 0) false 0) :: (Lx ++ F)) := by
  obtain ⟨⟨b1, b2⟩, ⟨b3, b4⟩, _⟩ := Cf.bounds hk hl
  have hco : cellsOf (.agg ⟨c.cells⟩) = c.cells := rfl
  have o1 := ho.new (.cells c.cells false 0)
  generalize ht : h.next = t at o1
  generalize hh0 : h.new (.cells c.cells false 0) = h0 at o1
  obtain ⟨_, _, _, _, _, l1⟩ := Cf.ld' (c := c) o1.head
  have e2 := config_ok (n := n) (c := c) o1
  have he : c.e = 0 := by rw [Cf.e, hk]; rfl
  rw [he] at e2
  have o2 := o1.new (.cells c.cells false 0)
  generalize hh2 : h0.new (.cells c.cells false 0) = h2 at o2 e2
  obtain ⟨l3, l4, _, _, _, _⟩ := Cf.ld' (c := c) o2.tail.head
  have o2' : Own h2 ((t, .cells c.cells false 0) :: (Lx ++ F)) := o2.tail
  have hls : ∀ x, x ∈ [t, t] ↔ ∃ y ∈ [(t, AObj.cells c.cells false 0)], y.1 = x := fun x => by simp [eq_comm]
  have ohd := Own.roL (A := [(t, .cells c.cells false 0)]) (l := [t, t]) (F := Lx ++ F) o2' hls (fun x hx => by rw [List.mem_singleton.1 hx]; exact ⟨_, _, _, rfl⟩)
  have e5 := len_ok (n := n) (sp := none) hd (h := hid h2 [] [t, t]) (F := [(t, AObj.cells c.cells false 0)].map roA ++ F) (ohd.to fun x => by simp only [cnt_append]; omega)
  have o6 := Own.backL (A := [(t, AObj.cells c.cells false 0)]) (h := hid h2 [] [t, t]) (h0 := h2) (l := [t, t]) (X := Lx ++ F) ohd hls (fun x hx => by rw [List.mem_singleton.1 hx]; exact o2'.head)
  generalize hh6 : (hid h2 [] [t, t]).putBack h2 [t, t] = h6 at o6
  have o6 : Own h6 ((t, .cells c.cells false 0) :: (Lx ++ F)) := o6
  have w1 : IntKind.i64.wrap (1 + c.b) = 1 + c.b := wrap_i64 (by omega) (by omega)
  have w2 : IntKind.i64.wrap (1 + c.b + c.l) = 1 + c.b + c.l := wrap_i64 (by omega) (by omega)
  have a1 : ¬ (4611686018427387904 : Int) < (T : Int) := by omega
  have a2 : ¬ (4611686018427387904 : Int) < (lf : Int) := by omega
  have a3 : ¬ (lf : Int) = 0 := by omega
  obtain ⟨_, _, _, _, _, l8⟩ := Cf.ld' (c := c) o6.head
  have f9 : fillL [.pointer none, .int .i64 0, .int .i64 0, .int .i64 0, .int .i64 0, .int .i64 0, .int .u64 0, .int .u64 0, .int .u64 0, .int .u64 0, .int .i64 0, .int .i64 0] [(0, 1, .pointer (some ⟨p, 0, none⟩)), (1, 5, .agg ⟨c.cells⟩), (6, 1, .int .u64 (lf : Int)), (7, 1, .int .u64 (T : Int)), (8, 1, .int .u64 (T : Int)), (9, 1, .int .u64 (T : Int))] = some (lg p c lf T T T 0 0) := rfl
  have o10 := o6.new (.cells (lg p c lf T T T 0 0) false 0)
  refine ⟨h6.next, _, ?_, o10.to fun x => by simp only [cnt_append, cnt_cons]; omega⟩
  simp only [f_wal_Open, hco, cf_cell, cond_true, bnd_eq, hh0, Option.isNone_some, cond_false, nwA_eq, ht, l1, Option.bind_some, e2, decide_true, Bool.not_true, fa_mk, Nat.zero_add, l3, l4, e5, List.nil_append, hh6, hN, w1, w2, a1, a2, a3, decide_false, l8, f9, lg_all]
theorem lg_setE {E' : Nat} : (lg p c lf T E M im la).set 8 (.int .u64 (E' : Int)) = lg p c lf T E' M im la := rfl
theorem lg_setI {im' : Int} : (lg p c lf T E M im la).set 10 (.int .i64 im') = lg p c lf T E M im' la := rfl
theorem lg_setL {la' : Int} : (lg p c lf T E M im la).set 11 (.int .i64 la') = lg p c lf T E M im la' := rfl
theorem lg_len : (lg p c lf T E M im la).length = 12 := rfl
theorem lg_st {v : Value} {i : Nat} (hv : cellsOf v = [v]) (hi : isCell v = true) (hl : i < 12) (ho : Own h ((q, .cells (lg p c lf T E M im la) false 0) :: F)) : ∃ h', stB 1 v h (some ⟨q, i, none⟩) = some h' ∧ Own h' ((q, .cells ((lg p c lf T E M im la).set i v) false 0) :: F) :=
  ⟨_, stB1_of ho.head hv hi (by rw [lg_len]; exact hl), ho.put _⟩
theorem rc_setP {k b im : Int} {P P' : Nat} : (⟨k, P, b, V, im⟩ : Rc).cells.set 1 (.int .u64 (P' : Int)) = (⟨k, P', b, V, im⟩ : Rc).cells := rfl
def at_ (c : Cf) (P : Nat) : Int := 1 + c.b + ((P % c.l.toNat : Nat) : Int)
theorem at_lt (h1 : 2 ≤ c.l) {P : Nat} (hN : (ds.length : Int) = 1 + c.b + c.l) (hb : 1 ≤ c.b) : 0 ≤ at_ c P ∧ at_ c P < ds.length := by
  have hm : P % c.l.toNat < c.l.toNat := Nat.mod_lt _ (by omega)
  unfold at_; omega
theorem wwrite_ok (hd : Dk p ds ws Lx) (hb : c.ok = true) (hl : -9223372036854775808 ≤ c.l ∧ c.l ≤ 9223372036854775807) (hN : (ds.length : Int) = 1 + c.b + c.l) {k bb ii : Int} {P : Nat} (hV : V.length = 32) (hVb : Byt V) (hck : (⟨k, E, bb, V, ii⟩ : Rc).ck = true) (hE : E < 4611686018427387904) (hW : ws.length ≤ 1000) (hm : tabO ∈ F)
    (ho : Own h ((q, .cells (lg p c lf T E M im la) false 0) :: (Lx ++ F))) (hn : 2000 ≤ n) :
    ∃ h' L', f_wal_Log_write n (some ⟨q, 0, none⟩) (.agg ⟨(⟨k, P, bb, V, ii⟩ : Rc).cells⟩) h = some (((E : Int), (0, ())), h') ∧ Dk p ds (ws ++ [(at_ c E, recB ⟨k, E, bb, V, ii⟩)]) L' ∧ Own h' ((q, .cells (lg p c lf T (E + 1) M im la) false 0) :: (L' ++ F)) := by
  obtain ⟨⟨b1, b2⟩, ⟨b3, b4⟩, _⟩ := Cf.bounds hb hl
  have hco : cellsOf (.agg ⟨(⟨k, P, bb, V, ii⟩ : Rc).cells⟩) = (⟨k, P, bb, V, ii⟩ : Rc).cells := rfl
  have o1 := ho.new (.cells (⟨k, P, bb, V, ii⟩ : Rc).cells false 0)
  generalize ht : h.next = t at o1
  generalize hh0 : h.new (.cells (⟨k, P, bb, V, ii⟩ : Rc).cells false 0) = h0 at o1
  have ld0 := lg_ld (h := h0) (q := q) (p := p) (c := c) (lf := lf) (T := T) (E := E) (M := M) (im := im) (la := la) (ro := false) o1.tail
  have s3 := stB1_of (sp := none) (o := 1) (v := .int .u64 (E : Int)) o1.head rfl rfl (by rw [rc_len hV]; decide)
  rw [rc_setP] at s3
  have o3 := o1.put (.cells (⟨k, E, bb, V, ii⟩ : Rc).cells false 0)
  generalize hh3 : h0.put t (.cells (⟨k, E, bb, V, ii⟩ : Rc).cells false 0) = h3 at s3 o3
  have ld3 := rc_ld (r := ⟨k, E, bb, V, ii⟩) hV o3
  obtain ⟨s5, h5, A5, e5, y5, o5⟩ := rencode_ok (n := n) (r := ⟨k, E, bb, V, ii⟩) hV hVb hck (by simp [hm]) o3 hn
  have o5 : Own h5 ((q, .cells (lg p c lf T E M im la) false 0) :: (A5 ++ (Lx ++ ((t, .cells (⟨k, E, bb, V, ii⟩ : Rc).cells false 0) :: F)))) := o5.to fun x => by simp only [cnt_append, cnt_cons]; omega
  have ld5 := lg_ld o5
  have e8 := sectorOf_ok (n := n) (P := E) b3 b4 b1 b2 (by omega) o5
  have hwf := Rc.ck_wf hck hV hVb
  have y5' : Slc 1 s5 (recB ⟨k, E, bb, V, ii⟩).length (iz .u8 (recB ⟨k, E, bb, V, ii⟩)) A5 := by rw [recB_len hwf]; exact y5
  obtain ⟨h11, L', e11, d11, o11⟩ := write_z (n := n) (z := at_ c E) hd y5'.sow (h := h5) (F := (q, .cells (lg p c lf T E M im la) false 0) :: ((t, .cells (⟨k, E, bb, V, ii⟩ : Rc).cells false 0) :: F)) (o5.to fun x => by simp only [cnt_append, cnt_cons]; omega) hW
  obtain ⟨z1, z2⟩ := at_lt (P := E) b3 hN b1
  rw [show ewz ds (recB ⟨k, E, bb, V, ii⟩) (at_ c E) = 0 by rw [ewz, if_pos ⟨z1, z2⟩, if_pos (recB_len hwf)]] at e11
  rw [show wrz ds ws (recB ⟨k, E, bb, V, ii⟩) (at_ c E) = ws ++ [(at_ c E, recB ⟨k, E, bb, V, ii⟩)] by rw [wrz, if_pos ⟨z1, z2, recB_len hwf⟩]] at d11
  have o11 : Own h11 ((q, .cells (lg p c lf T E M im la) false 0) :: (L' ++ (A5 ++ ((t, .cells (⟨k, E, bb, V, ii⟩ : Rc).cells false 0) :: F)))) := o11.to fun x => by simp only [cnt_append, cnt_cons]; omega
  have ld11 := lg_ld o11
  have w1 : IntKind.u64.wrap ((E : Int) + 1) = ((E + 1 : Nat) : Int) := by rw [wrap_u64z (by omega) (by omega)]; omega
  obtain ⟨h15, s15, o15⟩ := lg_st (v := .int .u64 ((E + 1 : Nat) : Int)) (i := 8) rfl rfl (by decide) o11
  rw [lg_setE] at o15
  have ld15 := rc_ld (h := h15) (q := t) (r := ⟨k, E, bb, V, ii⟩) (ro := false) (F := (q, .cells (lg p c lf T (E + 1) M im la) false 0) :: (L' ++ (A5 ++ F))) hV (o15.to fun x => by simp only [cnt_append, cnt_cons]; omega)
  have hat : at_ c E = 1 + c.b + ((E % c.l.toNat : Nat) : Int) := rfl
  rw [hat] at e11
  refine ⟨h15, L', ?_, d11, o15.to fun x => by simp only [cnt_append, cnt_cons]; omega⟩
  simp only [f_wal_Log_write, hco, rc_cell, cond_true, bnd_eq, hh0, Option.bind_some, fa_mk, Nat.zero_add, nwA_eq, ht, ld0.E, s3, ld3.all, e5, decide_true, Bool.not_true, cond_false, ld5.E, e8, ld5.d, e11, ld11.E, w1, s15, ld15.p]
theorem fill_img (hV : V.length = 32) : fillL rz.cells [(0, 1, .int .i64 1), (2, 1, .int .i64 blk), (3, 32, .agg ⟨iz .u8 V⟩)] = some (⟨1, 0, blk, V, 0⟩ : Rc).cells := by
  have h1 : fillL rz.cells [(0, 1, .int .i64 1), (2, 1, .int .i64 blk), (3, 32, .agg ⟨iz .u8 V⟩)] = fillL (⟨1, 0, blk, zV, 0⟩ : Rc).cells [(3, 32, .agg ⟨iz .u8 V⟩)] := rfl
  rw [h1]
  have hc : cellsOf (.agg ⟨iz .u8 V⟩) = iz .u8 V := rfl
  have hb1 : Nat.beq (iz .u8 V).length 32 = true := by rw [iz_length, hV]; rfl
  have hb2 : Nat.ble (3 + 32) (⟨1, 0, blk, zV, 0⟩ : Rc).cells.length = true := rfl
  simp only [fillL, hc, hb1, hb2, iz_cell, Bool.and_self, cond_true]
  rw [rc_setV (by rw [hV]; rfl)]
theorem image_ok (hd : Dk p ds ws Lx) (hb : c.ok = true) (hl : -9223372036854775808 ≤ c.l ∧ c.l ≤ 9223372036854775807) (hN : (ds.length : Int) = 1 + c.b + c.l) (hV : V.length = 32) (hVb : Byt V) (hE : E < 4611686018427387904) (hT : T ≤ E) (hU : ((E - T : Nat) : Int) ≠ c.l) (hW : ws.length ≤ 1000) (hm : tabO ∈ F)
    (hb0 : 0 ≤ blk) (hb1 : blk < c.b) (h2 : 0 < im → la < blk) (h3 : im ≠ c.r) (h4 : 0 ≤ im ∧ im ≤ 100)
    (ho : Own h ((q, .cells (lg p c lf T E M im la) false 0) :: (Lx ++ F))) (hn : 2000 ≤ n) :
    ∃ h' L', f_wal_Log_Image n (some ⟨q, 0, none⟩) blk (.agg ⟨iz .u8 V⟩) h = some (((E : Int), (0, ())), h') ∧ Dk p ds (ws ++ [(at_ c E, recB ⟨1, E, blk, V, 0⟩)]) L' ∧ Own h' ((q, .cells (lg p c lf T (E + 1) M (im + 1) blk) false 0) :: (L' ++ F)) := by
  obtain ⟨⟨b1, b2⟩, ⟨b3, b4⟩, _⟩ := Cf.bounds hb hl
  have hco : cellsOf (.agg ⟨iz .u8 V⟩) = iz .u8 V := rfl
  have o1 := ho.new (.cells (iz .u8 V) false 0)
  generalize ht : h.next = t at o1
  generalize hh0 : h.new (.cells (iz .u8 V) false 0) = g0 at o1
  obtain ⟨h1', e1, o1'⟩ := room_ok (n := n) (q := q) (p := p) (c := c) (lf := lf) (M := M) (im := im) (la := la) hT hE hU (h := g0) (F := (t, .cells (iz .u8 V) false 0) :: (Lx ++ F)) (o1.to fun x => by simp only [cnt_append, cnt_cons]; omega)
  have ld := lg_ld o1'
  have a1 : ¬ blk < 0 := by omega
  have a2 : ¬ c.b ≤ blk := by omega
  have l17 : ldA 32 h1' (some ⟨t, 0, none⟩) = some (iz .u8 V) := by
    rw [ldA_of (o1'.get (t, .cells (iz .u8 V) false 0) (by simp)) (by rw [iz_length, hV]; decide), List.drop_zero, List.take_of_length_le (by rw [iz_length, hV]; exact Nat.le_refl _)]
  have hck : (⟨1, E, blk, V, 0⟩ : Rc).ck = true := by
    simp only [Rc.ck]
    have c1 : (E : Int) ≤ 4611686018427387904 := by omega
    have c2 : blk < 64 := by omega
    simp [c1, hb0, c2]
  obtain ⟨h19, L', e19, d19, o19⟩ := wwrite_ok (n := n) (q := q) (c := c) (lf := lf) (T := T) (M := M) (im := im) (la := la) (k := 1) (bb := blk) (ii := 0) (P := 0) hd hb hl hN hV hVb hck hE hW (h := h1') (F := (t, .cells (iz .u8 V) false 0) :: F) (by simp [hm]) (o1'.to fun x => by simp only [cnt_append, cnt_cons]; omega) hn
  have ld19 := lg_ld o19
  have w1 : IntKind.i64.wrap (im + 1) = im + 1 := wrap_i64 (by omega) (by omega)
  obtain ⟨h23, s23, o23⟩ := lg_st (v := .int .i64 (im + 1)) (i := 10) rfl rfl (by decide) o19
  rw [lg_setI] at o23
  obtain ⟨h25, s25, o25⟩ := lg_st (v := .int .i64 blk) (i := 11) rfl rfl (by decide) o23
  rw [lg_setL] at o25
  have f18 := fill_img (blk := blk) hV
  refine ⟨h25, L', ?_, d19, o25.to fun x => by simp only [cnt_append, cnt_cons]; omega⟩
  unfold f_wal_Log_Image
  simp only [show ([.int .i64 0, .int .u64 0, .int .i64 0, .int .u8 0, .int .u8 0, .int .u8 0, .int .u8 0, .int .u8 0, .int .u8 0, .int .u8 0, .int .u8 0, .int .u8 0, .int .u8 0, .int .u8 0, .int .u8 0, .int .u8 0, .int .u8 0, .int .u8 0, .int .u8 0, .int .u8 0, .int .u8 0, .int .u8 0, .int .u8 0, .int .u8 0, .int .u8 0, .int .u8 0, .int .u8 0, .int .u8 0, .int .u8 0, .int .u8 0, .int .u8 0, .int .u8 0, .int .u8 0, .int .u8 0, .int .u8 0, .int .i64 0] : List Value) = rz.cells from rfl]
  by_cases hi : 0 < im
  · have a4 : ¬ blk ≤ la := by have := h2 hi; omega
    simp only [hco, iz_cell, cond_true, bnd_eq, hh0, e1, Option.bind_some, decide_true, Bool.not_true, cond_false, a1, decide_false, fa_mk, Nat.zero_add, ld.b, a2, ld.im, hi, ld.la, a4, ld.r, h3, nwA_eq, ht, l17, f18, e19, ld19.im, w1, s23, s25]
  · simp only [hco, iz_cell, cond_true, bnd_eq, hh0, e1, Option.bind_some, decide_true, Bool.not_true, cond_false, a1, decide_false, fa_mk, Nat.zero_add, ld.b, a2, ld.im, hi, ld.r, h3, nwA_eq, ht, l17, f18, e19, ld19.im, w1, s23, s25]
theorem commit_ok (hd : Dk p ds ws Lx) (hb : c.ok = true) (hl : -9223372036854775808 ≤ c.l ∧ c.l ≤ 9223372036854775807) (hN : (ds.length : Int) = 1 + c.b + c.l) (hE : E < 4611686018427387904) (hT : T ≤ E) (hU : ((E - T : Nat) : Int) ≠ c.l) (hW : ws.length ≤ 1000) (hm : tabO ∈ F)
    (h4 : 0 ≤ im ∧ im ≤ 16)
    (ho : Own h ((q, .cells (lg p c lf T E M im la) false 0) :: (Lx ++ F))) (hn : 2000 ≤ n) :
    ∃ h' L', f_wal_Log_Commit n (some ⟨q, 0, none⟩) h = some (((E : Int), (0, ())), h') ∧ Dk p ds (ws ++ [(at_ c E, recB ⟨2, E, 0, zV, im⟩)]) L' ∧ Own h' ((q, .cells (lg p c lf T (E + 1) M 0 la) false 0) :: (L' ++ F)) := by
  obtain ⟨h1', e1, o1'⟩ := room_ok (n := n) hT hE hU ho
  have ld := lg_ld o1'
  have f3 : fillL rz.cells [(0, 1, .int .i64 2), (35, 1, .int .i64 im)] = some (⟨2, 0, 0, zV, im⟩ : Rc).cells := rfl
  have hck : (⟨2, E, 0, zV, im⟩ : Rc).ck = true := by
    simp only [Rc.ck]
    have c1 : (E : Int) ≤ 4611686018427387904 := by omega
    simp [c1, h4.1, h4.2]
  obtain ⟨h4', L', e4, d4, o4⟩ := wwrite_ok (n := n) (k := 2) (bb := 0) (ii := im) (P := 0) (V := zV) hd hb hl hN rfl byt_zeros hck hE hW (h := h1') (F := F) hm o1' hn
  obtain ⟨h6, s6, o6⟩ := lg_st (v := .int .i64 0) (i := 10) rfl rfl (by decide) o4
  rw [lg_setI] at o6
  refine ⟨h6, L', ?_, d4, o6⟩
  unfold f_wal_Log_Commit
  simp only [show ([.int .i64 0, .int .u64 0, .int .i64 0, .int .u8 0, .int .u8 0, .int .u8 0, .int .u8 0, .int .u8 0, .int .u8 0, .int .u8 0, .int .u8 0, .int .u8 0, .int .u8 0, .int .u8 0, .int .u8 0, .int .u8 0, .int .u8 0, .int .u8 0, .int .u8 0, .int .u8 0, .int .u8 0, .int .u8 0, .int .u8 0, .int .u8 0, .int .u8 0, .int .u8 0, .int .u8 0, .int .u8 0, .int .u8 0, .int .u8 0, .int .u8 0, .int .u8 0, .int .u8 0, .int .u8 0, .int .u8 0, .int .i64 0] : List Value) = rz.cells from rfl]
  simp only [e1, Option.bind_some, decide_true, Bool.not_true, cond_false, fa_mk, Nat.zero_add, ld.im, f3, e4, cond_true, s6]
theorem wflush_ok (hd : Dk p ds ws Lx) (hW : ws.length ≤ 1000) (ho : Own h ((q, .cells (lg p c lf T E M im la) false 0) :: (Lx ++ F))) (hn : 2000 ≤ n) :
    ∃ h' L', f_wal_Log_Flush n (some ⟨q, 0, none⟩) h = some (((ws.length : Int), (0, ())), h') ∧ Dk p (ak (fun _ => true) ws ws.length ds) [] L' ∧ Own h' ((q, .cells (lg p c lf T E M im la) false 0) :: (L' ++ F)) := by
  have ld := lg_ld ho
  obtain ⟨h', L', e, d, o⟩ := flush_ok (n := n) (sp := none) hd (h := h) (F := (q, .cells (lg p c lf T E M im la) false 0) :: F) (ho.to fun x => by simp only [cnt_append, cnt_cons]; omega) hW hn
  refine ⟨h', L', ?_, d, o.to fun x => by simp only [cnt_append, cnt_cons]; omega⟩
  simp only [f_wal_Log_Flush, none_ok ho, Option.bind_some, cond_false, fa_mk, Nat.zero_add, ld.d, e]
end
end Go.Proofs.YtdlfdieehioolaaDoor
/- A configuration made small. -/
namespace Go.Proofs.YtdlfdieehioolaaDoor
open Go
set_option linter.unusedVariables false
set_option linter.unusedSimpArgs false
def inz (x m : Int) : Int := 1 + x % m
def cn (c : Cf) : Cf :=
  let b := inz c.b 6
  let l := 1 + inz c.l 12
  ⟨b, l, inz c.r (if l - 1 < b then l - 1 else b), inz c.g l, inz c.c 8⟩
theorem inz_b {x m : Int} (h1 : 1 ≤ m) : 1 ≤ inz x m ∧ inz x m ≤ m := by
  have a := Int.emod_nonneg x (b := m) (by omega)
  have b := Int.emod_lt_of_pos x (b := m) (by omega)
  unfold inz; omega
theorem cn_b {c : Cf} : (1 ≤ (cn c).b ∧ (cn c).b ≤ 6) ∧ (2 ≤ (cn c).l ∧ (cn c).l ≤ 13) ∧ (1 ≤ (cn c).r ∧ (cn c).r ≤ (cn c).b ∧ (cn c).r ≤ (cn c).l - 1) ∧ (1 ≤ (cn c).g ∧ (cn c).g ≤ (cn c).l) ∧ (1 ≤ (cn c).c ∧ (cn c).c ≤ 8) := by
  have h1 := inz_b (x := c.b) (m := 6) (by omega)
  have h2 := inz_b (x := c.l) (m := 12) (by omega)
  have h3 := inz_b (x := c.c) (m := 8) (by omega)
  have h4 := inz_b (x := c.g) (m := 1 + inz c.l 12) (by omega)
  have h5 := inz_b (x := c.r) (m := if 1 + inz c.l 12 - 1 < inz c.b 6 then 1 + inz c.l 12 - 1 else inz c.b 6) (by split <;> omega)
  refine ⟨h1, ⟨?_, ?_⟩, ⟨h5.1, ?_, ?_⟩, h4, h3⟩
  · show 2 ≤ 1 + inz c.l 12; omega
  · show 1 + inz c.l 12 ≤ 13; omega
  · refine Int.le_trans h5.2 ?_
    show (if 1 + inz c.l 12 - 1 < inz c.b 6 then 1 + inz c.l 12 - 1 else inz c.b 6) ≤ inz c.b 6
    split <;> omega
  · refine Int.le_trans h5.2 ?_
    show (if 1 + inz c.l 12 - 1 < inz c.b 6 then 1 + inz c.l 12 - 1 else inz c.b 6) ≤ 1 + inz c.l 12 - 1
    split <;> omega
theorem cn_l {c : Cf} : -9223372036854775808 ≤ (cn c).l ∧ (cn c).l ≤ 9223372036854775807 := by
  have := cn_b (c := c); omega
theorem cn_ok {c : Cf} : (cn c).ok = true := by
  obtain ⟨h1, h2, h3, h4, h5⟩ := cn_b (c := c)
  exact (ok_iff cn_l).2 ⟨by omega, by omega, by omega, h4, h5⟩
section
variable {n q : Nat} {h : Heap} {F : Ch} {c : Cf}
theorem tm_in {x m : Int} (h1 : 1 ≤ m) (h2 : m ≤ 1000) : IntKind.i64.wrap (1 + (IntKind.i64.wrap (x.tmod m + m)).tmod m) = inz x m := by
  have a := Int.lt_tmod_of_pos x (b := m) (by omega)
  have b := Int.tmod_lt_of_pos x (b := m) (by omega)
  rw [wrap_i64 (z := x.tmod m + m) (by omega) (by omega)]
  rw [Int.tmod_eq_emod_of_nonneg (by omega)]
  have e : (x.tmod m + m) % m = x % m := by
    rw [Int.add_emod_right]
    have := Int.mul_tdiv_add_tmod x m
    conv => rhs; rw [← this]
    rw [Int.add_comm, Int.add_mul_emod_self_left]
  rw [e]
  have i := inz_b (x := x) h1
  unfold inz at *
  rw [wrap_i64 (by omega) (by omega)]
theorem in_ok {x m : Int} (h1 : 1 ≤ m) (h2 : m ≤ 1000) : f_w10_config_1 n x m h = some ((inz x m, ()), h) := by
  have h0 : ¬ m = 0 := by omega
  simp only [f_w10_config_1, h0, decide_false, cond_false, tm_in h1 h2]
theorem cf_set0 {b : Int} : c.cells.set 0 (.int .i64 b) = (⟨b, c.l, c.r, c.g, c.c⟩ : Cf).cells := rfl
theorem cf_set1 {b : Int} : c.cells.set 1 (.int .i64 b) = (⟨c.b, b, c.r, c.g, c.c⟩ : Cf).cells := rfl
theorem cf_set2 {b : Int} : c.cells.set 2 (.int .i64 b) = (⟨c.b, c.l, b, c.g, c.c⟩ : Cf).cells := rfl
theorem cf_set3 {b : Int} : c.cells.set 3 (.int .i64 b) = (⟨c.b, c.l, c.r, b, c.c⟩ : Cf).cells := rfl
theorem cf_set4 {b : Int} : c.cells.set 4 (.int .i64 b) = (⟨c.b, c.l, c.r, c.g, b⟩ : Cf).cells := rfl
theorem cf_st {v : Value} {i : Nat} (hv : cellsOf v = [v]) (hi : isCell v = true) (hl : i < 5) (ho : Own h ((q, .cells c.cells false 0) :: F)) : ∃ h', stB 1 v h (some ⟨q, i, none⟩) = some h' ∧ Own h' ((q, .cells (c.cells.set i v) false 0) :: F) :=
  ⟨_, stB1_of ho.head hv hi (by exact hl), ho.put _⟩
theorem cf_tmp {t : Nat} {d : Cf} (ho : Own h ((t, .cells d.cells false 0) :: F)) : ∃ h', stB 5 (.agg ⟨c.cells⟩) h (some ⟨t, 0, none⟩) = some h' ∧ Own h' ((t, .cells c.cells false 0) :: F) := by
  refine ⟨_, stBA_of ho.head rfl cf_cell (by exact Nat.le_refl 5), ?_⟩
  exact ho.put _
theorem cf_all {t : Nat} (ho : Own h ((t, .cells c.cells false 0) :: F)) : ldA 5 h (some ⟨t, 0, none⟩) = some c.cells := (Cf.ld' ho.head).2.2.2.2.2
theorem conf_ok (ho : Own h F) : ∃ h', f_w10_config n (.agg ⟨c.cells⟩) h = some ((.agg ⟨(cn c).cells⟩, ()), h') ∧ Own h' F := by
  obtain ⟨⟨b1, b2⟩, ⟨b3, b4⟩, ⟨b5, b6, b7⟩, ⟨b8, b9⟩, b10, b11⟩ := cn_b (c := c)
  have hco : cellsOf (.agg ⟨c.cells⟩) = c.cells := rfl
  have o0 := ho.new (.cells c.cells false 0)
  generalize hq0 : h.next = q0 at o0
  generalize hh0 : h.new (.cells c.cells false 0) = h0 at o0
  have o1 := o0.new (.cells (List.replicate 5 (.int .i64 0)) false 0)
  generalize hq1 : h0.next = q1 at o1
  generalize hh1 : h0.new (.cells (List.replicate 5 (.int .i64 0)) false 0) = h1 at o1
  have o1 : Own h1 ((q1, .cells (⟨0, 0, 0, 0, 0⟩ : Cf).cells false 0) :: (q0, .cells c.cells false 0) :: F) := o1
  have o1 : Own h1 ((q0, .cells c.cells false 0) :: (q1, .cells (⟨0, 0, 0, 0, 0⟩ : Cf).cells false 0) :: F) := o1.to fun x => by simp only [cnt_append, cnt_cons]; omega
  have l1 := (Cf.ld' o1.head).1
  have e3 := in_ok (n := n) (h := h1) (x := c.b) (m := 6) (by omega) (by omega)
  obtain ⟨h4, s4, o4⟩ := cf_st (v := .int .i64 (inz c.b 6)) (i := 0) rfl rfl (by decide) o1
  rw [cf_set0] at o4
  have l5 := (Cf.ld' o4.head).2.1
  have e6 := in_ok (n := n) (h := h4) (x := c.l) (m := 12) (by omega) (by omega)
  have w6 : IntKind.i64.wrap (1 + inz c.l 12) = (cn c).l := wrap_i64 (z := (cn c).l) (by omega) (by omega)
  obtain ⟨h7, s7, o7⟩ := cf_st (v := .int .i64 (cn c).l) (i := 1) rfl rfl (by decide) o4
  rw [cf_set1] at o7
  obtain ⟨l9, l10, l8, _, _, _⟩ := Cf.ld' o7.head
  have w10 : IntKind.i64.wrap ((cn c).l - 1) = (cn c).l - 1 := wrap_i64 (by omega) (by omega)
  have e11 := in_ok (n := n) (h := h7) (x := c.r) (m := if (cn c).l - 1 < inz c.b 6 then (cn c).l - 1 else inz c.b 6) (by have : inz c.b 6 = (cn c).b := rfl; split <;> omega) (by have : inz c.b 6 = (cn c).b := rfl; split <;> omega)
  have hr : inz c.r (if (cn c).l - 1 < inz c.b 6 then (cn c).l - 1 else inz c.b 6) = (cn c).r := rfl
  rw [hr] at e11
  obtain ⟨h12, s12, o12⟩ := cf_st (v := .int .i64 (cn c).r) (i := 2) rfl rfl (by decide) o7
  rw [cf_set2] at o12
  obtain ⟨_, l14, _, l13, _, _⟩ := Cf.ld' o12.head
  have e15 := in_ok (n := n) (h := h12) (x := c.g) (m := (cn c).l) (by omega) (by omega)
  have hg : inz c.g (cn c).l = (cn c).g := rfl
  rw [hg] at e15
  obtain ⟨h16, s16, o16⟩ := cf_st (v := .int .i64 (cn c).g) (i := 3) rfl rfl (by decide) o12
  rw [cf_set3] at o16
  have l17 := (Cf.ld' o16.head).2.2.2.2.1
  have e18 := in_ok (n := n) (h := h16) (x := c.c) (m := 8) (by omega) (by omega)
  obtain ⟨h19, s19, o19⟩ := cf_st (v := .int .i64 (inz c.c 8)) (i := 4) rfl rfl (by decide) o16
  rw [cf_set4] at o19
  have o19 : Own h19 ((q0, .cells (cn c).cells false 0) :: (q1, .cells (⟨0, 0, 0, 0, 0⟩ : Cf).cells false 0) :: F) := o19
  have l20 := cf_all o19
  obtain ⟨h21, s21, o21⟩ := cf_tmp (c := cn c) (t := q1) (h := h19) (d := ⟨0, 0, 0, 0, 0⟩) (F := (q0, .cells (cn c).cells false 0) :: F) (o19.to fun x => by simp only [cnt_append, cnt_cons]; omega)
  have l22 := cf_all o21
  refine ⟨h21, ?_, o21.to fun x => by simp only [cnt_append, cnt_cons]; omega⟩
  simp only [f_w10_config, hco, cf_cell, cond_true, bnd_eq, hh0, hh1, nwA_eq, hq0, hq1, fa_mk, Nat.zero_add, l1, Option.bind_some, e3, s4, l5, e6, w6, s7, l8, l9, l10, w10, e11, s12, l13, l14, e15, s16, l17, e18, s19, l20, s21, l22]
end
end Go.Proofs.YtdlfdieehioolaaDoor
/- What a scan finds, in plain Lean. -/
namespace Go.Proofs.YtdlfdieehioolaaDoor
open Go
set_option linter.unusedVariables false
set_option linter.unusedSimpArgs false
abbrev Img : Type := Int × List Int
structure Sn where
  came : List Img
  txs : List (Nat × List Img)
  nd : Nat
def Im (x : Img) : Prop := x.2.length = 32 ∧ Byt x.2
def risen (came : List Img) (b : Int) : Bool := match came.getLast? with | none => true | some x => decide (x.1 < b)
def stepS (c : Cf) (s : Sn) (r : Rc) : Option Sn :=
  if r.k = 2 then (if r.im = (s.came.length : Int) then some ⟨[], s.txs ++ [(r.p, s.came)], r.p + 1⟩ else none)
  else if (s.came.length : Int) = c.r ∨ risen s.came r.b = false then none else some ⟨s.came ++ [(r.b, r.V)], s.txs, s.nd⟩
def runS (c : Cf) : Sn → List Rc → Option Sn
  | s, [] => some s
  | s, r :: rs => (stepS c s r).bind fun s => runS c s rs
theorem runS_snoc {c : Cf} {s : Sn} {rs : List Rc} {r : Rc} : runS c s (rs ++ [r]) = (runS c s rs).bind fun s => stepS c s r := by
  induction rs generalizing s with
  | nil => simp only [List.nil_append, runS, Option.bind_some]; cases stepS c s r <;> rfl
  | cons x xs ih =>
    simp only [List.cons_append, runS]
    cases stepS c s x with
    | none => rfl
    | some s' => exact ih
def stR (c : Cf) (B : List Int) (k : Nat) : Option Rc := if (rdE B && decide ((rdec B).p = k) && (!decide ((rdec B).k = 1) || decide ((rdec B).b < c.b))) = true then some (rdec B) else none
def scanF (c : Cf) (B : Nat → List Int) : Nat → Nat → Sn → Sn
  | 0, _, s => s
  | m + 1, k, s => match (stR c (B k) k).bind (stepS c s) with
    | none => s
    | some s' => scanF c B m (k + 1) s'
theorem scanF_run {c : Cf} {B : Nat → List Int} : ∀ {recs : List Rc} {m k : Nat} {s s' : Sn}, runS c s recs = some s' → (∀ i (hi : i < recs.length), stR c (B (k + i)) (k + i) = some recs[i]) → recs.length ≤ m → (recs.length < m → (stR c (B (k + recs.length)) (k + recs.length)).bind (stepS c s') = none) → scanF c B m k s = s' := by
  intro recs
  induction recs with
  | nil =>
    intro m k s s' h1 h2 h3 h4
    obtain rfl : s = s' := Option.some.inj h1
    cases m with
    | zero => rfl
    | succ m =>
      have := h4 (by simp)
      simp only [List.length_nil, Nat.add_zero] at this
      simp only [scanF, this]
  | cons r rs ih =>
    intro m k s s' h1 h2 h3 h4
    cases m with
    | zero => simp at h3
    | succ m =>
      simp only [runS] at h1
      have e0 := h2 0 (by simp)
      simp only [Nat.add_zero, List.getElem_cons_zero] at e0
      cases hs : stepS c s r with
      | none => rw [hs] at h1; cases h1
      | some s1 =>
        rw [hs] at h1
        simp only [scanF, e0, Option.bind_some, hs]
        refine ih h1 (fun i hi => ?_) (by simpa using h3) (fun hl => ?_)
        · have := h2 (i + 1) (by simpa using hi)
          simpa only [List.getElem_cons_succ, Nat.add_assoc, Nat.add_comm 1 i] using this
        · have := h4 (by simpa using hl)
          simpa only [List.length_cons, Nat.add_assoc, Nat.add_comm 1] using this
theorem stR_zero {c : Cf} {k : Nat} : stR c (List.replicate 64 0) k = none := by
  have : rdE (List.replicate 64 0) = false := by
    have : (rdec (List.replicate 64 0)).ck = false := by decide
    rw [rdE, this, Bool.false_and]
  simp only [stR, this, Bool.false_and, if_false, Bool.false_eq_true]
structure Tale (c : Cf) (recs : List Rc) (s : Sn) : Prop where
  run : runS c ⟨[], [], 0⟩ recs = some s
  ok : ∀ j (hj : j < recs.length), recs[j].p = j ∧ recs[j].ck = true ∧ recs[j].V.length = 32 ∧ Byt recs[j].V ∧ (recs[j].k = 1 → recs[j].b < c.b)
  len : (recs.length : Int) ≤ c.l
  came : ∀ x ∈ s.came, Im x
  imgs : ∀ t ∈ s.txs, ∀ x ∈ t.2, Im x
  clen : (s.came.length : Int) ≤ c.r
  tlen : s.txs.length + s.came.length ≤ recs.length
  nd : s.nd ≤ recs.length
  pos : ∀ t ∈ s.txs, t.1 < recs.length
  inc : s.txs.Pairwise (fun a b => a.1 < b.1)
  il : ∀ t ∈ s.txs, (t.2.length : Int) ≤ c.r
theorem Tale.nil {c : Cf} (h : 0 ≤ c.l) (h2 : 0 ≤ c.r) : Tale c [] ⟨[], [], 0⟩ := ⟨rfl, fun j hj => absurd hj (by simp), h, fun x hx => absurd hx List.not_mem_nil, fun x hx => absurd hx List.not_mem_nil, h2, Nat.le_refl _, Nat.le_refl _, fun x hx => absurd hx List.not_mem_nil, .nil, fun x hx => absurd hx List.not_mem_nil⟩
theorem Tale.image {c : Cf} {recs : List Rc} {s : Sn} {b : Int} {V : List Int} (h : Tale c recs s) (hl : (recs.length : Int) < c.l) (hl2 : c.l ≤ 64) (h0 : 0 ≤ b) (h1 : b < c.b) (h2 : c.b ≤ 64) (hV : V.length = 32) (hb : Byt V) (hr : (s.came.length : Int) < c.r) (hs : risen s.came b = true) :
    Tale c (recs ++ [⟨1, recs.length, b, V, 0⟩]) ⟨s.came ++ [(b, V)], s.txs, s.nd⟩ := by
  refine ⟨?_, fun j hj => ?_, by rw [List.length_append]; simp; omega, fun x hx => ?_, h.imgs, by simp; omega, by have := h.tlen; simp; omega, by have := h.nd; simp; omega, fun t ht => by have := h.pos t ht; simp; omega, h.inc, h.il⟩
  · rw [runS_snoc, h.run, Option.bind_some, stepS, if_neg (show ¬ (1 : Int) = 2 by decide), if_neg]
    rw [not_or]
    exact ⟨by omega, by rw [hs]; decide⟩
  · rw [List.getElem_append]
    split
    · rename_i hj'; exact h.ok j hj'
    · have : j = recs.length := by simp at hj; omega
      subst this
      simp only [Nat.sub_self, List.getElem_cons_zero]
      refine ⟨trivial, ?_, hV, hb, fun _ => h1⟩
      have c1 : ((recs.length : Nat) : Int) ≤ 4611686018427387904 := by omega
      have c2 : b < 64 := by omega
      simp [Rc.ck, c1, h0, c2]
  · rcases List.mem_append.1 hx with hx | hx
    · exact h.came x hx
    · rw [List.mem_singleton.1 hx]; exact ⟨hV, hb⟩
theorem Tale.commit {c : Cf} {recs : List Rc} {s : Sn} (h : Tale c recs s) (hl : (recs.length : Int) < c.l) (hl2 : c.l ≤ 64) (hr : c.r ≤ 16) :
    Tale c (recs ++ [⟨2, recs.length, 0, zV, (s.came.length : Int)⟩]) ⟨[], s.txs ++ [(recs.length, s.came)], recs.length + 1⟩ := by
  have hcl := h.clen
  refine ⟨?_, fun j hj => ?_, by rw [List.length_append]; simp; omega, fun x hx => absurd hx List.not_mem_nil, fun t ht => ?_, by have := h.clen; simp only [List.length_nil]; omega, by have := h.tlen; simp; omega, by simp, fun t ht => ?_, List.pairwise_append.2 ⟨h.inc, List.pairwise_singleton .., fun a ha b hb => by rw [List.mem_singleton.1 hb]; exact h.pos a ha⟩, fun t ht => ?_⟩
  · rw [runS_snoc, h.run, Option.bind_some, stepS, if_pos rfl, if_pos rfl]
  · rw [List.getElem_append]
    split
    · rename_i hj'; exact h.ok j hj'
    · have : j = recs.length := by simp at hj; omega
      subst this
      simp only [Nat.sub_self, List.getElem_cons_zero]
      refine ⟨trivial, ?_, rfl, byt_zeros, fun h => absurd h (by decide)⟩
      have c1 : ((recs.length : Nat) : Int) ≤ 4611686018427387904 := by omega
      have c2 : (s.came.length : Int) ≤ 16 := by omega
      simp [Rc.ck, c1, c2]
  · rcases List.mem_append.1 ht with ht | ht
    · exact h.imgs t ht
    · rw [List.mem_singleton.1 ht]; exact h.came
  · rcases List.mem_append.1 ht with ht | ht
    · have := h.pos t ht; simp; omega
    · rw [List.mem_singleton.1 ht]; simp
  · rcases List.mem_append.1 ht with ht | ht
    · exact h.il t ht
    · rw [List.mem_singleton.1 ht]; exact h.clen
theorem stR_rec {c : Cf} {recs : List Rc} {s : Sn} (h : Tale c recs s) {j : Nat} (hj : j < recs.length) : stR c (recB recs[j]) j = some recs[j] := by
  obtain ⟨h1, h2, h3, h4, h5⟩ := h.ok j hj
  have hb : (!decide (recs[j].k = 1) || decide (recs[j].b < c.b)) = true := by
    by_cases hk : recs[j].k = 1
    · simp [h5 hk]
    · simp [hk]
  simp only [stR, rdec_rec h2 h3 h4, rdE_rec h2 h3 h4, h1, hb, decide_true, Bool.and_self, if_true]
theorem Tale.scan {c : Cf} {recs : List Rc} {s : Sn} {B : Nat → List Int} (h : Tale c recs s) {m : Nat} (hm : recs.length ≤ m) (hB : ∀ j (hj : j < recs.length), B j = recB recs[j]) (hz : recs.length < m → B recs.length = List.replicate 64 0) : scanF c B m 0 ⟨[], [], 0⟩ = s := by
  refine scanF_run h.run (fun i hi => ?_) hm (fun hl => ?_)
  · rw [Nat.zero_add, hB i hi]; exact stR_rec h hi
  · rw [Nat.zero_add, hz hl, stR_zero]; rfl
def wsO (c : Cf) (recs : List Rc) : List (Int × List Int) := recs.map fun r => (at_ c r.p, recB r)
structure Shows (c : Cf) (ds : List (List Int)) (ws : List (Int × List Int)) (recs : List Rc) : Prop where
  len : (ds.length : Int) = 1 + c.b + c.l
  sup : rdz ds ws 0 = supB c
  rd : ∀ j (hj : j < recs.length), rdz ds ws (at_ c j) = recB recs[j]
  past : ∀ j : Nat, recs.length ≤ j → (j : Int) < c.l → rdz ds ws (at_ c j) = List.replicate 64 0
theorem at_eq {c : Cf} {j : Nat} (hj : (j : Int) < c.l) : at_ c j = 1 + c.b + (j : Int) := by
  rw [at_, Nat.mod_eq_of_lt (by omega)]
theorem rdv_not {ws : List (Int × List Int)} {i : Int} {d : List Int} (h : ∀ w ∈ ws, w.1 ≠ i) : rdv ws i d = d := by
  induction ws generalizing d with
  | nil => rfl
  | cons w ws ih =>
    show rdv ws i (if w.1 = i then w.2 else d) = d
    rw [if_neg (h w (List.mem_cons_self ..))]
    exact ih fun w' hw => h w' (List.mem_cons_of_mem _ hw)
theorem rdv_once {ws : List (Int × List Int)} {w : Int × List Int} {d : List Int} (hw : w ∈ ws) (h : ∀ w' ∈ ws, w'.1 = w.1 → w' = w) : rdv ws w.1 d = w.2 := by
  induction ws generalizing d with
  | nil => cases hw
  | cons x xs ih =>
    show rdv xs w.1 (if x.1 = w.1 then x.2 else d) = w.2
    by_cases hx : w ∈ xs
    · exact ih hx fun w' hw' => h w' (List.mem_cons_of_mem _ hw')
    · obtain rfl : w = x := (List.mem_cons.1 hw).elim id fun h => absurd h hx
      rw [if_pos rfl]
      refine rdv_not fun w' hw' he => hx ?_
      rw [← h w' (List.mem_cons_of_mem _ hw') he]; exact hw'
section
variable {c : Cf} {recs : List Rc} {s : Sn} {ds : List (List Int)} {ws : List (Int × List Int)}
theorem mem_wsO (h : Tale c recs s) {w : Int × List Int} (hw : w ∈ wsO c recs) : ∃ j, ∃ hj : j < recs.length, w = (at_ c j, recB recs[j]) := by
  obtain ⟨r, hr, rfl⟩ := List.mem_map.1 hw
  obtain ⟨j, hj, rfl⟩ := List.getElem_of_mem hr
  exact ⟨j, hj, by rw [(h.ok j hj).1]⟩
theorem shows_told (h : Tale c recs s) (hk : c.ok = true) (hl : -9223372036854775808 ≤ c.l ∧ c.l ≤ 9223372036854775807) : Shows c (dsN c) (wsO c recs) recs := by
  obtain ⟨⟨b1, b2⟩, ⟨b3, b4⟩, _⟩ := Cf.bounds hk hl
  have hN := dsN_len hk hl
  have hlen := h.len
  refine ⟨hN, ?_, fun j hj => ?_, fun j hj hjl => ?_⟩
  · rw [rdz, if_pos ⟨by omega, by omega⟩, rdv_not fun w hw => ?_]
    · rfl
    · obtain ⟨j, hj, rfl⟩ := mem_wsO h hw
      show at_ c j ≠ 0
      rw [at_eq (by omega)]; omega
  · rw [rdz, if_pos ⟨by rw [at_eq (by omega)]; omega, by rw [at_eq (by omega)]; omega⟩]
    refine rdv_once (w := (at_ c j, recB recs[j])) ?_ fun w' hw' he => ?_
    · refine List.mem_map.2 ⟨recs[j], List.getElem_mem hj, ?_⟩
      rw [(h.ok j hj).1]
    · obtain ⟨i, hi, rfl⟩ := mem_wsO h hw'
      have he : at_ c i = at_ c j := he
      rw [at_eq (by omega), at_eq (by omega)] at he
      obtain rfl : i = j := by omega
      rfl
  · rw [rdz, if_pos ⟨by rw [at_eq (by omega)]; omega, by rw [at_eq (by omega)]; omega⟩, rdv_not fun w hw => ?_]
    · rw [at_eq hjl, dsN, List.getD_eq_getElem?_getD, List.getElem?_append_right (by simp [secs]; omega), List.getElem?_replicate, if_pos (by simp [secs]; omega)]; rfl
    · obtain ⟨i, hi, rfl⟩ := mem_wsO h hw
      show at_ c i ≠ at_ c j
      rw [at_eq (by omega), at_eq hjl]; omega
theorem ak_rdv {i : Nat} (hw : ∀ w ∈ ws, 0 ≤ w.1 ∧ w.1 < ds.length) (hi : i < ds.length) : ∀ {j : Nat}, j ≤ ws.length → (ak (fun _ => true) ws j ds).getD i [] = rdv (ws.take j) i (ds.getD i []) := by
  intro j
  induction j with
  | zero => intro _; rfl
  | succ j ih =>
    intro hj
    have ih := ih (by omega)
    rw [ak_succ (by omega), if_pos rfl, ← List.take_append_getElem (by omega), rdv_snoc, ← ih]
    have hwj := hw _ (List.getElem_mem (by omega : j < ws.length))
    rw [List.getD_eq_getElem?_getD, List.getElem?_set]
    by_cases he : ws[j].1 = (i : Int)
    · rw [if_pos he, if_pos (by omega), if_pos (by rw [ak_len]; omega)]; rfl
    · rw [if_neg he, if_neg (by omega), List.getD_eq_getElem?_getD]
theorem rdz_flush (ho : Okd ds ws) {z : Int} : rdz (ak (fun _ => true) ws ws.length ds) [] z = rdz ds ws z := by
  rw [rdz, rdz, ak_len]
  split
  · rename_i hz
    rw [show rdv [] z ((ak (fun _ => true) ws ws.length ds).getD z.toNat []) = (ak (fun _ => true) ws ws.length ds).getD z.toNat [] from rfl, ak_rdv ho.r (by omega) (Nat.le_refl _), List.take_length]
    rw [show ((z.toNat : Nat) : Int) = z by omega]
  · rfl
theorem Shows.flush (h : Shows c ds ws recs) (ho : Okd ds ws) : Shows c (ak (fun _ => true) ws ws.length ds) [] recs :=
  ⟨by rw [ak_len]; exact h.len, by rw [rdz_flush ho]; exact h.sup, fun j hj => by rw [rdz_flush ho]; exact h.rd j hj, fun j h1 h2 => by rw [rdz_flush ho]; exact h.past j h1 h2⟩
end
end Go.Proofs.YtdlfdieehioolaaDoor
/- Lists of images and of transactions; the images of a set. -/
namespace Go.Proofs.YtdlfdieehioolaaDoor
open Go
set_option linter.unusedVariables false
set_option linter.unusedSimpArgs false
abbrev Z33 : List Value := [(.int .i64 0), (.int .u8 0), (.int .u8 0), (.int .u8 0), (.int .u8 0), (.int .u8 0), (.int .u8 0), (.int .u8 0), (.int .u8 0), (.int .u8 0), (.int .u8 0), (.int .u8 0), (.int .u8 0), (.int .u8 0), (.int .u8 0), (.int .u8 0), (.int .u8 0), (.int .u8 0), (.int .u8 0), (.int .u8 0), (.int .u8 0), (.int .u8 0), (.int .u8 0), (.int .u8 0), (.int .u8 0), (.int .u8 0), (.int .u8 0), (.int .u8 0), (.int .u8 0), (.int .u8 0), (.int .u8 0), (.int .u8 0), (.int .u8 0)]
theorem wc_len {x : Img} (h : x.2.length = 32) : (wc x).length = 33 := by simp [wc, h]
theorem wc_cell {x : Img} : (wc x).all isCell = true := by simp only [wc, List.all_cons, iz_cell]; rfl
structure Tx1 where
  p : Nat
  v : Value
  X : List Img
  A : Ch
def Tx1.cells (e : Tx1) : List Value := [.int .u64 (e.p : Int), e.v]
def Tx1.key (e : Tx1) : Nat × List Img := (e.p, e.X)
def Tl (s : Value) (K : List (Nat × List Img)) (L : Ch) : Prop := ∃ (ts : List Tx1) (B : Ch), ts.map Tx1.key = K ∧ Slc 2 s ts.length (ts.flatMap Tx1.cells) B ∧ (∀ e ∈ ts, Slc 33 e.v e.X.length (e.X.flatMap wc) e.A) ∧ L = B ++ ts.flatMap Tx1.A
theorem Tl.nil : Tl (.slice none 0 0) [] [] := ⟨[], [], rfl, .nil, fun e he => absurd he List.not_mem_nil, rfl⟩
theorem tx_cnt {es : List Tx1} {j : Nat} (hj : j < es.length) (x : Nat × AObj) : cnt x (es.flatMap Tx1.A) = cnt x es[j].A + cnt x ((es.eraseIdx j).flatMap Tx1.A) := by
  induction es generalizing j with
  | nil => simp at hj
  | cons e es ih =>
    cases j with
    | zero => simp only [List.flatMap_cons, cnt_append, List.getElem_cons_zero, List.eraseIdx_cons_zero]
    | succ j =>
      simp only [List.flatMap_cons, cnt_append, List.getElem_cons_succ, List.eraseIdx_cons_succ]
      have := ih (j := j) (by simpa using hj)
      omega
section
variable {n m a t : Nat} {s u v sets lat : Value} {h hA : Heap} {F G A L : Ch} {c c0 : Cf} {K : List (Nat × List Img)} {X : List Img} {S : List Int} {seed : Int} {op : Bool} {p3 : ((Value × Unit) × Heap)}
theorem Tl.len (ht : Tl s K L) : lenB s = some K.length := by
  obtain ⟨ts, B, rfl, h1, _⟩ := ht
  rw [List.length_map]; exact h1.lenB
theorem Tl.form (ht : Tl s K L) : ∃ x c, s = .slice x K.length c := by
  obtain ⟨ts, B, rfl, h1, _⟩ := ht
  rw [List.length_map]; exact h1.form
theorem Tl.cells (ht : Tl s K L) : cellsOf s = [s] := by obtain ⟨x, c, rfl⟩ := ht.form; rfl
theorem Tl.isC (ht : Tl s K L) : isCell s = true := by obtain ⟨x, c, rfl⟩ := ht.form; rfl
theorem Tl.notT (ht : Tl s K L) : isTuple s = false := by obtain ⟨x, c, rfl⟩ := ht.form; rfl
theorem Tl.push {p : Nat} (ht : Tl s K L) (hv : Slc 33 v X.length (X.flatMap wc) A) (ho : Own h (L ++ (A ++ F))) (hK : K.length ≤ 1000) :
    ∃ s' h' L', appendK (h.new (.cells [.int .u64 (p : Int), v] false 2)) 32 2 s (.slice (some ⟨h.next, 0, some 0⟩) 1 1) = some (s', h') ∧ Tl s' (K ++ [(p, X)]) L' ∧ Own h' (L' ++ F) := by
  obtain ⟨ts, B, rfl, h1, h2, rfl⟩ := ht
  rw [List.length_map] at hK
  obtain ⟨s', h', B', e, y, o⟩ := h1.push (new := [.int .u64 (p : Int), v]) (bytes := 32) (F := ts.flatMap Tx1.A ++ (A ++ F)) (by simpa only [List.append_assoc] using ho) (by decide) rfl (by omega)
  refine ⟨s', h', B' ++ (ts ++ [(⟨p, v, X, A⟩ : Tx1)]).flatMap Tx1.A, e, ⟨ts ++ [(⟨p, v, X, A⟩ : Tx1)], B', by simp [Tx1.key], ?_, fun e he => ?_, rfl⟩, o.to fun x => by simp only [cnt_append, List.flatMap_append, List.flatMap_cons, List.flatMap_nil, cnt_nil]; omega⟩
  · rw [List.length_append, List.flatMap_append]; exact y
  · rcases List.mem_append.1 he with he | he
    · exact h2 e he
    · rw [List.mem_singleton.1 he]; exact hv
theorem Tl.at (ht : Tl s K L) {j : Nat} (hj : j < K.length) (ho : Own h (L ++ F)) : ∃ q w A1 A2, ixB 2 s (j : Int) = some q ∧ ldT (.int .u64) h (some (fa q 0)) = some (K[j].1 : Int) ∧ ldT .any h (some (fa q 1)) = some w ∧ ldA 2 h (some q) = some [.int .u64 (K[j].1 : Int), w] ∧ Slc 33 w K[j].2.length (K[j].2.flatMap wc) A1 ∧ (∀ x, cnt x L = cnt x A1 + cnt x A2) := by
  obtain ⟨ts, B, rfl, h1, h2, rfl⟩ := ht
  have hj' : j < ts.length := by simpa using hj
  obtain ⟨q, e1, e2⟩ := (h1.rds (F := ts.flatMap Tx1.A ++ F) (by simpa only [List.append_assoc] using ho)).ix j hj'
  rw [flat_get (f := Tx1.cells) (fun e _ => rfl) hj'] at e2
  have hk : (ts.map Tx1.key)[j] = ts[j].key := List.getElem_map ..
  refine ⟨q, ts[j].v, ts[j].A, B ++ (ts.eraseIdx j).flatMap Tx1.A, e1, ?_, ?_, ?_, ?_, fun x => by have := tx_cnt hj' x; simp only [cnt_append]; omega⟩
  · rw [e2.ldT (v := .int .u64 (ts[j].p : Int)) rfl, hk]; simp [Tx1.key]
  · rw [e2.ldT (v := ts[j].v) rfl]; rfl
  · rw [e2.ldA0 (k := 2) (Nat.le_refl _), hk]; rfl
  · rw [hk]; exact h2 _ (List.getElem_mem hj')
theorem img_at (hX : ∀ x ∈ X, Im x) (hr : Rds h 33 v X.length (X.flatMap wc)) {j : Nat} (hj : j < X.length) : ∃ q, ixB 33 v (j : Int) = some q ∧ ldA 33 h (some q) = some (wc X[j]) ∧ ldT (.int .i64) h (some (fa q 0)) = some X[j].1 := by
  obtain ⟨q, e1, e2⟩ := hr.ix j hj
  have hl : ∀ x ∈ X, (wc x).length = 33 := fun x hx => wc_len (hX x hx).1
  rw [flat_get hl hj] at e2
  have hlj := hl _ (List.getElem_mem hj)
  refine ⟨q, e1, ?_, ?_⟩
  · have := e2.ldA0 (k := 33) (by rw [hlj]; exact Nat.le_refl _)
    rw [List.take_of_length_le (by omega)] at this; exact this
  · rw [e2.ldT (v := .int .i64 X[j].1) rfl]; simp
theorem img_tmp {x : Img} (hx : Im x) (ho : Own h F) : ∃ h', stB 33 (.agg ⟨wc x⟩) (h.new (.cells Z33 false 0)) (some ⟨h.next, 0, none⟩) = some h' ∧ Own h' ((h.next, .cells (wc x) false 0) :: F) ∧ ldT (.int .i64) h' (some ⟨h.next, 0, none⟩) = some x.1 ∧ ldA 32 h' (some ⟨h.next, 1, none⟩) = some (iz .u8 x.2) := by
  have o1 := ho.new (.cells Z33 false 0)
  have hl := wc_len hx.1
  have o2 := o1.put (.cells (wc x) false 0)
  refine ⟨_, by rw [stBA_of o1.head hl wc_cell (by exact Nat.le_refl 33), writeAt_all (by rw [hl]; rfl)], o2, ?_, ?_⟩
  · rw [ldT_of o2.head]; simp [wc]
  · rw [ldA_of o2.head (by rw [hl]; exact Nat.le_refl _)]
    simp only [wc, List.drop_succ_cons, List.drop_zero]
    rw [List.take_of_length_le (by rw [iz_length, hx.1]; exact Nat.le_refl _)]
structure Pk (c : Cf) (X : List Img) : Prop where
  len : (X.length : Int) ≤ c.r
  im : ∀ x ∈ X, Im x
  bk : ∀ x ∈ X, 0 ≤ x.1 ∧ x.1 < c.b
  rise : ∀ j (hj : j < X.length), risen (X.take j) X[j].1 = true
theorem u8_in {z : Int} : 0 ≤ IntKind.u8.wrap z ∧ IntKind.u8.wrap z < 256 := by
  have e : IntKind.u8.wrap z = z % 256 := rfl
  rw [e]; omega
def stV (seed : Int) (i j : Int) : List Int := IntKind.u8.wrap (seed + IntKind.u8.wrap i) :: IntKind.u8.wrap j :: 3 :: List.replicate 29 0
theorem stV_im {i j b : Int} : Im (b, stV seed i j) := by
  refine ⟨rfl, fun z hz => ?_⟩
  simp only [stV, List.mem_cons, List.mem_replicate] at hz
  rcases hz with rfl | rfl | rfl | ⟨_, rfl⟩
  · exact u8_in
  · exact u8_in
  · decide
  · decide
theorem stV_fill {i j : Int} : fillL (List.replicate 32 (.int .u8 0)) [(0, 1, .int .u8 (IntKind.u8.wrap (seed + (IntKind.u8.wrap i)))), (1, 1, .int .u8 (IntKind.u8.wrap j)), (2, 1, .int .u8 3)] = some (iz .u8 (stV seed i j)) := rfl
theorem im_fill {i j b : Int} : fillL Z33 [(0, 1, .int .i64 b), (1, 32, .agg ⟨iz .u8 (stV seed i j)⟩)] = some (wc (b, stV seed i j)) := rfl
theorem im_fill2 {i j b : Int} : fillL Z33 [(0, 33, .agg ⟨wc (b, stV seed i j)⟩)] = some (wc (b, stV seed i j)) := rfl
theorem bit_ex {x : Int} {j : Nat} (hj : j < 6) : ∃ y z, bitB .shr .u16 x .i64 (j : Int) = some y ∧ bitB .and .u16 y .u16 1 = some z := by
  have h6 : j = 0 ∨ j = 1 ∨ j = 2 ∨ j = 3 ∨ j = 4 ∨ j = 5 := by omega
  rcases h6 with rfl | rfl | rfl | rfl | rfl | rfl <;> exact ⟨_, _, rfl, rfl⟩
def sto (c0 : Cf) (sets : Value) (seed : Int) (op : Bool) (lat : Value) : List Value := c0.cells ++ [sets, .int .u8 seed, .bool op, lat]
theorem pick_ok (ha : hA.next = a) (ht : p3.2.next = t) {i : Nat} (hi : i < S.length) (hs : Sow 1 sets S.length (iz .u16 S) G) (hb : 1 ≤ c.b ∧ c.b ≤ 6) (hr : 1 ≤ c.r ∧ c.r ≤ 16) (hn : 100 ≤ n)
    (ho : Own h ((a, .cells (sto c0 sets seed op lat) false 0) :: (t, .cells c.cells false 0) :: (G ++ F))) :
    ∃ v h' X A, loopT (fun a => f_w10_told_L48 n hA p3 (i : Int) a.1.1 a.1.2.1 a.2) n ((.slice none 0 0, (0, ())), h) = some ((v, ()), h') ∧ Slc 33 v X.length (X.flatMap wc) A ∧ Pk c X ∧ Own h' (A ++ ((a, .cells (sto c0 sets seed op lat) false 0) :: (t, .cells c.cells false 0) :: (G ++ F))) := by
  obtain ⟨bf, hbf⟩ : ∃ g : Int → Int → Value → Bool, g = fun _ _ _ => true := ⟨_, rfl⟩
  obtain ⟨⟨⟨v, _⟩, h'⟩, e, X, A, q1, q2, q3⟩ := loopT_up (f := fun a => f_w10_told_L48 n hA p3 (i : Int) a.1.1 a.1.2.1 a.2)
    (fun j (q : (Value × Int × Unit) × Heap) => q.1.2.1 = (j : Int) ∧ ∃ X A, Slc 33 q.1.1 X.length (X.flatMap wc) A ∧ Pk c X ∧ (∀ x ∈ X, x.1 < (j : Int)) ∧ Own q.2 (A ++ ((a, .cells (sto c0 sets seed op lat) false 0) :: (t, .cells c.cells false 0) :: (G ++ F))))
    (fun q => ∃ X A, Slc 33 q.1.1 X.length (X.flatMap wc) A ∧ Pk c X ∧ Own q.2 (A ++ ((a, .cells (sto c0 sets seed op lat) false 0) :: (t, .cells c.cells false 0) :: (G ++ F)))) (N := c.b.toNat) (k := n) (j := 0) (a := ((.slice none 0 0, (0, ())), h)) (by omega) (by omega)
    ⟨rfl, [], [], .nil, ⟨by simp only [List.length_nil]; omega, fun x hx => absurd hx List.not_mem_nil, fun x hx => absurd hx List.not_mem_nil, fun j hj => absurd hj (by simp)⟩, fun x hx => absurd hx List.not_mem_nil, ho⟩
    (fun j q hj hq => by
      obtain ⟨⟨v, z, _⟩, h3⟩ := q
      obtain ⟨rfl, X, A, y3, pk, hlt, o3⟩ := hq
      have o3 : Own h3 (A ++ ((a, .cells (sto c0 sets seed op lat) false 0) :: (t, .cells c.cells false 0) :: (G ++ F))) := o3
      have oa : Own h3 ((a, .cells (sto c0 sets seed op lat) false 0) :: (A ++ ((t, .cells c.cells false 0) :: (G ++ F)))) := o3.to fun x => by simp only [cnt_append, cnt_cons]; omega
      have ot : Own h3 ((t, .cells c.cells false 0) :: (A ++ ((a, .cells (sto c0 sets seed op lat) false 0) :: (G ++ F)))) := o3.to fun x => by simp only [cnt_append, cnt_cons]; omega
      obtain ⟨l0, _, l2, _⟩ := Cf.ld' ot.head
      have hjb : ((j : Nat) : Int) < c.b := by omega
      have y3 : Slc 33 v X.length (X.flatMap wc) A := y3
      by_cases hlen : (X.length : Int) < c.r
      · have l5 : ldT .any h3 (some ⟨a, 5, none⟩) = some sets := by rw [ldT_of oa.head]; rfl
        have l6 : ldT (.int .u8) h3 (some ⟨a, 6, none⟩) = some seed := by rw [ldT_of oa.head]; rfl
        obtain ⟨q7, e7, e8⟩ := (hs.rds (h := h3) (F := A ++ ((a, .cells (sto c0 sets seed op lat) false 0) :: (t, .cells c.cells false 0) :: F)) (o3.to fun x => by simp only [cnt_append, cnt_cons]; omega)).intn rfl hi
        obtain ⟨y, z, e9, e10⟩ := bit_ex (x := S[i]) (j := j) (by omega)
        by_cases hz : z = 1
        · obtain ⟨v', h', A', e11, y11, o11⟩ := y3.push (new := wc ((j : Int), stV seed (i : Int) (j : Int))) (bytes := 40) o3 (by decide) (wc_len stV_im.1) (by have := pk.len; omega)
          refine .inl ⟨((v', (((j + 1 : Nat) : Int), ())), h'), ?_, rfl, X ++ [((j : Int), stV seed (i : Int) (j : Int))], A', ?_, ⟨by rw [List.length_append]; simp; omega, fun x hx => ?_, fun x hx => ?_, fun k hk => ?_⟩, fun x hx => ?_, o11⟩
          · simp only [f_w10_told_L48, nwA_eq, ha, ht, fa_mk, Nat.zero_add, l0, l2, Option.bind_some, hjb, decide_true, cond_true, y3.lenB, hlen, l5, e7, e8, e9, e10, hz, l6, stV_fill, im_fill, im_fill2, bnd_eq, e11, wrap_succ (show j < 4611686018427387904 by omega)]
          · simpa using y11
          · rcases List.mem_append.1 hx with hx | hx
            · exact pk.im x hx
            · rw [List.mem_singleton.1 hx]; exact stV_im
          · rcases List.mem_append.1 hx with hx | hx
            · exact pk.bk x hx
            · rw [List.mem_singleton.1 hx]; exact ⟨by show (0 : Int) ≤ (j : Int); omega, hjb⟩
          · rw [List.getElem_append]
            split
            · rename_i hk'
              rw [List.take_append_of_le_length (by omega)]; exact pk.rise k hk'
            · have hkk : k = X.length := by simp at hk; omega
              subst hkk
              rw [List.take_left']
              · simp only [Nat.sub_self, List.getElem_cons_zero, risen]
                cases hg : X.getLast? with
                | none => rfl
                | some x => simpa using hlt x (List.mem_of_getLast? hg)
              · rfl
          · rcases List.mem_append.1 hx with hx | hx
            · have := hlt x hx; omega
            · rw [List.mem_singleton.1 hx]; show (j : Int) < ((j + 1 : Nat) : Int); omega
        · refine .inl ⟨((v, (((j + 1 : Nat) : Int), ())), h3), ?_, rfl, X, A, y3, pk, fun x hx => by have := hlt x hx; omega, o3⟩
          simp only [f_w10_told_L48, nwA_eq, ha, ht, fa_mk, Nat.zero_add, l0, l2, Option.bind_some, hjb, decide_true, cond_true, y3.lenB, hlen, l5, e7, e8, e9, e10, hz, decide_false, cond_false, wrap_succ (show j < 4611686018427387904 by omega)]
      · refine .inr ⟨((v, ()), h3), ?_, X, A, y3, pk, o3⟩
        simp only [f_w10_told_L48, nwA_eq, ha, ht, fa_mk, Nat.zero_add, l0, l2, Option.bind_some, hjb, decide_true, cond_true, y3.lenB, hlen, decide_false, cond_false])
    (fun q hq => by
      obtain ⟨⟨v, z, _⟩, h3⟩ := q
      obtain ⟨rfl, X, A, y3, pk, hlt, o3⟩ := hq
      have o3 : Own h3 (A ++ ((a, .cells (sto c0 sets seed op lat) false 0) :: (t, .cells c.cells false 0) :: (G ++ F))) := o3
      have ot : Own h3 ((t, .cells c.cells false 0) :: (A ++ ((a, .cells (sto c0 sets seed op lat) false 0) :: (G ++ F)))) := o3.to fun x => by simp only [cnt_append, cnt_cons]; omega
      obtain ⟨l0, _, l2, _⟩ := Cf.ld' ot.head
      have hjb : ¬ ((c.b.toNat : Nat) : Int) < c.b := by omega
      refine ⟨((v, ()), h3), ?_, X, A, y3, pk, o3⟩
      simp only [f_w10_told_L48, nwA_eq, ha, ht, fa_mk, Nat.zero_add, l0, Option.bind_some, hjb, decide_false, cond_false])
  exact ⟨v, h', X, A, e, q1, q2, q3⟩
end
end Go.Proofs.YtdlfdieehioolaaDoor
/- A story told. -/
namespace Go.Proofs.YtdlfdieehioolaaDoor
open Go
set_option linter.unusedVariables false
set_option linter.unusedSimpArgs false
def Lg (c : Cf) (p q : Nat) (recs : List Rc) (s : Sn) (L : Ch) : Prop := ∃ Lx im la, Dk p (dsN c) (wsO c recs) Lx ∧ Tale c recs s ∧ im = (s.came.length : Int) ∧ (∀ x, s.came.getLast? = some x → x.1 = la) ∧ L = (q, .cells (lg p c 1 0 recs.length 0 im la) false 0) :: Lx
section
variable {n m a t p q w : Nat} {v sets lat sT : Value} {h hA h0 h5 : Heap} {F G A L LT : Ch} {c c0 : Cf} {K : List (Nat × List Img)} {X : List Img} {S : List Int} {seed : Int} {op : Bool} {p3 : ((Value × Unit) × Heap)} {recs : List Rc} {s : Sn} {p17 : ((Option Addr × Int × Unit) × Heap)} {a49 : ((Value × Unit) × Heap)} {txs : List (Nat × List Img)} {nd : Nat}
theorem wsO_snoc {r : Rc} : wsO c (recs ++ [r]) = wsO c recs ++ [(at_ c r.p, recB r)] := by simp [wsO]
theorem lg_image {blk : Int} {V : List Int} (hl : Lg c p q recs s L) (hk : c.ok = true) (hll : -9223372036854775808 ≤ c.l ∧ c.l ≤ 9223372036854775807) (hroom : (recs.length : Int) < c.l) (h0 : 0 ≤ blk) (h1 : blk < c.b) (hV : Im (blk, V)) (hr : (s.came.length : Int) < c.r) (hs : risen s.came blk = true) (hm : tabO ∈ F) (ho : Own h (L ++ F)) (hn : 2000 ≤ n) :
    ∃ h' L', f_wal_Log_Image n (some ⟨q, 0, none⟩) blk (.agg ⟨iz .u8 V⟩) h = some (((recs.length : Int), (0, ())), h') ∧ Lg c p q (recs ++ [⟨1, recs.length, blk, V, 0⟩]) ⟨s.came ++ [(blk, V)], s.txs, s.nd⟩ L' ∧ Own h' (L' ++ F) := by
  obtain ⟨⟨b1, b2⟩, ⟨b3, b4⟩, _, ⟨b7, b8⟩, _⟩ := Cf.bounds hk hll
  obtain ⟨Lx, im, la, d, ta, rfl, hla, rfl⟩ := hl
  have hrl := ta.len
  obtain ⟨h', L', e, d', o'⟩ := image_ok (n := n) (V := V) (blk := blk) d hk hll (dsN_len hk hll) hV.1 hV.2 (by omega) (Nat.zero_le _) (by omega) (by rw [wsO, List.length_map]; omega) hm h0 h1 (fun hp => by
    cases hg : s.came.getLast? with
    | none => rw [List.getLast?_eq_none_iff.1 hg] at hp; simp at hp
    | some x =>
      rw [risen, hg] at hs
      have := hla x hg
      have : x.1 < blk := by simpa using hs
      omega) (by omega) (by omega) ho hn
  refine ⟨h', _, e, ⟨L', _, blk, ?_, ta.image hroom b4 h0 h1 b2 hV.1 hV.2 hr hs, rfl, fun x hx => ?_, rfl⟩, ?_⟩
  · rw [wsO_snoc]; exact d'
  · rw [List.getLast?_concat] at hx; rw [← Option.some.inj hx]
  · simp only [List.length_append, List.length_cons, List.length_nil]
    exact o'
theorem lg_commit (hl : Lg c p q recs s L) (hk : c.ok = true) (hll : -9223372036854775808 ≤ c.l ∧ c.l ≤ 9223372036854775807) (hroom : (recs.length : Int) < c.l) (hm : tabO ∈ F) (ho : Own h (L ++ F)) (hn : 2000 ≤ n) :
    ∃ h' L', f_wal_Log_Commit n (some ⟨q, 0, none⟩) h = some (((recs.length : Int), (0, ())), h') ∧ Lg c p q (recs ++ [⟨2, recs.length, 0, zV, (s.came.length : Int)⟩]) ⟨[], s.txs ++ [(recs.length, s.came)], recs.length + 1⟩ L' ∧ Own h' (L' ++ F) := by
  obtain ⟨⟨b1, b2⟩, ⟨b3, b4⟩, _, ⟨b7, b8⟩, _⟩ := Cf.bounds hk hll
  obtain ⟨Lx, im, la, d, ta, rfl, hla, rfl⟩ := hl
  have hrl := ta.len
  have hcl := ta.clen
  obtain ⟨h', L', e, d', o'⟩ := commit_ok (n := n) d hk hll (dsN_len hk hll) (by omega) (Nat.zero_le _) (by omega) (by rw [wsO, List.length_map]; omega) hm (by omega) ho hn
  refine ⟨h', _, e, ⟨L', _, la, ?_, ta.commit hroom b4 b8, rfl, fun x hx => ?_, rfl⟩, ?_⟩
  · rw [wsO_snoc]; exact d'
  · cases hx
  · simp only [List.length_append, List.length_cons, List.length_nil]
    exact o'
theorem lg_used (hl : Lg c p q recs s L) (hk : c.ok = true) (hll : -9223372036854775808 ≤ c.l ∧ c.l ≤ 9223372036854775807) (ho : Own h (L ++ F)) : f_wal_Log_Used n (some ⟨q, 0, none⟩) h = some (((recs.length : Int), ()), h) := by
  obtain ⟨⟨b1, b2⟩, ⟨b3, b4⟩, _, ⟨b7, b8⟩, _⟩ := Cf.bounds hk hll
  obtain ⟨Lx, im, la, d, ta, rfl, hla, rfl⟩ := hl
  have hrl := ta.len
  have := used_ok (n := n) (q := q) (p := p) (c := c) (lf := 1) (T := 0) (E := recs.length) (M := 0) (im := (s.came.length : Int)) (la := la) (F := Lx ++ F) (Nat.zero_le _) (by omega) ho
  simpa using this
theorem lg_lenL (hl : Lg c p q recs s L) : (recs.length : Int) ≤ c.l := by
  obtain ⟨Lx, im, la, d, ta, rfl, hla, rfl⟩ := hl
  exact ta.len
theorem lg_tale (hl : Lg c p q recs s L) : Tale c recs s := by
  obtain ⟨Lx, im, la, d, ta, rfl, hla, rfl⟩ := hl
  exact ta
theorem images_ok (hp : p17.1.1 = some ⟨q, 0, none⟩) (hv : a49.1.1 = v) (hX : Slc 33 v X.length (X.flatMap wc) A) (pk : Pk c X) (hl : Lg c p q recs ⟨[], txs, nd⟩ L) (hk : c.ok = true) (hll : -9223372036854775808 ≤ c.l ∧ c.l ≤ 9223372036854775807) (hroom : (recs.length : Int) + X.length < c.l) (hm : tabO ∈ F) (ho : Own h (L ++ (A ++ F))) (hn : 2000 ≤ n) :
    ∃ h' recs' L', f_w10_told_C70 n h0 h5 p17 a49 h = some (.inl ((), h')) ∧ recs'.length = recs.length + X.length ∧ Lg c p q recs' ⟨X, txs, nd⟩ L' ∧ Own h' (L' ++ (A ++ F)) := by
  have hpl := pk.len
  obtain ⟨⟨b1, b2⟩, ⟨b3, b4⟩, _, ⟨b7, b8⟩, _⟩ := Cf.bounds hk hll
  have hlen : X.length < n := by omega
  obtain ⟨r, e, h', rfl, recs', L', q1, q2, q3⟩ := loopT_up (f := fun a => f_w10_told_L69 n h0 h5 p17 a49 X.length a.1.1 a.2)
    (fun j (b : (Int × Unit) × Heap) => b.1.1 = (j : Int) ∧ ∃ recs' L', recs'.length = recs.length + j ∧ Lg c p q recs' ⟨X.take j, txs, nd⟩ L' ∧ Own b.2 (L' ++ (A ++ F)))
    (fun r => ∃ h', r = .inl ((), h') ∧ ∃ recs' L', recs'.length = recs.length + X.length ∧ Lg c p q recs' ⟨X, txs, nd⟩ L' ∧ Own h' (L' ++ (A ++ F))) (N := X.length) (k := n) (j := 0) (a := ((0, ()), h)) (by omega) (by omega)
    ⟨rfl, recs, L, by omega, hl, ho⟩
    (fun j b hj hb => by
      obtain ⟨⟨z, _⟩, h3⟩ := b
      obtain ⟨rfl, recs', L', hlr, hl3, o3⟩ := hb
      have o3 : Own h3 (L' ++ (A ++ F)) := o3
      have hjl : ((j : Nat) : Int) < (X.length : Int) := by omega
      obtain ⟨q58, e58, e59, _⟩ := img_at pk.im (hX.rds (h := h3) (F := L' ++ F) (o3.to fun x => by simp only [cnt_append]; omega)) hj
      have hxm := List.getElem_mem hj
      obtain ⟨h61, s61, o61, x62, x63⟩ := img_tmp (pk.im _ hxm) o3
      generalize hq : h3.next = q61 at s61 o61 x62 x63
      generalize hh60 : h3.new (.cells Z33 false 0) = h60 at s61
      have hbk := pk.bk _ hxm
      obtain ⟨h64, L64, e64, l64, o64⟩ := lg_image (n := n) (blk := X[j].1) (V := X[j].2) (h := h61) (F := (q61, .cells (wc X[j]) false 0) :: (A ++ F)) hl3 hk hll (by omega) hbk.1 hbk.2 (pk.im _ hxm) (by show ((X.take j).length : Int) < c.r; rw [List.length_take]; omega) (pk.rise j hj) (by simp [hm]) (o61.to fun x => by simp only [cnt_append, cnt_cons]; omega) hn
      refine .inl ⟨((((j + 1 : Nat) : Int), ()), h64), ?_, rfl, recs' ++ [⟨1, recs'.length, X[j].1, X[j].2, 0⟩], L64, by simp; omega, ?_, ?_⟩
      · simp only [f_w10_told_L69, hjl, decide_true, cond_true, hv, e58, Option.bind_some, e59, bnd_eq, hh60, nwA_eq, hq, s61, fa_mk, Nat.zero_add, x62, x63, hp, e64, f_w10_num, Bool.not_true, cond_false, wrap_succ (show j < 4611686018427387904 by omega)]
      · have : X.take (j + 1) = X.take j ++ [(X[j].1, X[j].2)] := by rw [List.take_append_getElem]
        rw [this]; exact l64
      · have o65 : Own h64 ((q61, .cells (wc X[j]) false 0) :: (L64 ++ (A ++ F))) := o64.to fun x => by simp only [cnt_append, cnt_cons]; omega
        exact o65.tail)
    (fun b hb => by
      obtain ⟨⟨z, _⟩, h3⟩ := b
      obtain ⟨rfl, recs', L', hlr, hl3, o3⟩ := hb
      have hjl : ¬ ((X.length : Nat) : Int) < (X.length : Int) := by omega
      rw [List.take_length] at hl3
      refine ⟨.inl ((), h3), ?_, h3, rfl, recs', L', hlr, hl3, o3⟩
      simp only [f_w10_told_L69, hjl, decide_false, cond_false])
  refine ⟨h', recs', L', ?_, q1, q2, q3⟩
  simp only [f_w10_told_C70, hv, hX.lenB, Option.bind_some, e]
end
end Go.Proofs.YtdlfdieehioolaaDoor
/- A story told: the loop over its sets. -/
namespace Go.Proofs.YtdlfdieehioolaaDoor
open Go
set_option linter.unusedVariables false
set_option linter.unusedSimpArgs false
def lgW (T l nd : Nat) (sT : Value) : List Value := [.int .u64 (T : Int), .int .u64 (l : Int), .int .u64 (nd : Int), sT]
def Ti (c : Cf) (p q w : Nat) (h : Heap) (s : Sn) (R : Ch) : Prop := ∃ recs sT L LT, Lg c p q recs s L ∧ Tl sT s.txs LT ∧ Own h (L ++ (LT ++ ((w, .cells (lgW 0 1 s.nd sT) false 0) :: R)))
section
variable {n m a t p q w : Nat} {v sets lat sT : Value} {h hA h0 h5 : Heap} {F G A L LT R : Ch} {c c0 : Cf} {K : List (Nat × List Img)} {X : List Img} {S : List Int} {seed : Int} {op : Bool} {p3 : ((Value × Unit) × Heap)} {recs : List Rc} {s : Sn} {p17 : ((Option Addr × Int × Unit) × Heap)} {a49 : ((Value × Unit) × Heap)} {txs : List (Nat × List Img)} {nd : Nat}
theorem lgW_st {v : Value} {i : Nat} (hv : cellsOf v = [v]) (hi : isCell v = true) (hl : i < 4) (ho : Own h ((w, .cells (lgW m t nd sT) false 0) :: F)) : ∃ h', stB 1 v h (some ⟨w, i, none⟩) = some h' ∧ Own h' ((w, .cells ((lgW m t nd sT).set i v) false 0) :: F) :=
  ⟨_, stB1_of ho.head hv hi (by exact hl), ho.put _⟩
theorem step_ok (ha : hA.next = a) (ht : p3.2.next = t) (hw : h5.next = w) (hp : p17.1.1 = some ⟨q, 0, none⟩) {i : Nat} (hi : i < S.length) (hS : S.length ≤ 4611686018427387904) (hs : Sow 1 sets S.length (iz .u16 S) G) (hk : c.ok = true) (hb : c.b ≤ 6) (hll : -9223372036854775808 ≤ c.l ∧ c.l ≤ 9223372036854775807) (hm : tabO ∈ G ++ F) (hn : 2000 ≤ n)
    (hT : Ti c p q w h ⟨[], txs, nd⟩ ((a, .cells (sto c0 sets seed op lat) false 0) :: (t, .cells c.cells false 0) :: (G ++ F))) :
    (∃ h' txs' nd', f_w10_told_C88 n hA h0 p3 h5 p17 (i : Int) h = some (.inl ((), h')) ∧ Ti c p q w h' ⟨[], txs', nd'⟩ ((a, .cells (sto c0 sets seed op lat) false 0) :: (t, .cells c.cells false 0) :: (G ++ F))) ∨
    (∃ h' s', f_w10_told_C88 n hA h0 p3 h5 p17 (i : Int) h = some (.inr (.inr (.inl ((), h')))) ∧ Ti c p q w h' s' ((a, .cells (sto c0 sets seed op lat) false 0) :: (t, .cells c.cells false 0) :: (G ++ F))) := by
  obtain ⟨recs, sT, L, LT, hl, hT, ho⟩ := hT
  have hT : Tl sT txs LT := hT
  have ho : Own h (L ++ (LT ++ ((w, .cells (lgW 0 1 nd sT) false 0) :: (a, .cells (sto c0 sets seed op lat) false 0) :: (t, .cells c.cells false 0) :: (G ++ F)))) := ho
  obtain ⟨⟨b1, b2⟩, ⟨b3, b4⟩, _, ⟨b7, b8⟩, _⟩ := Cf.bounds hk hll
  obtain ⟨v, h49, X, A, e49, y49, pk, o49⟩ := pick_ok (n := n) ha ht hi hs ⟨b1, hb⟩ ⟨b7, b8⟩ (by omega) (h := h) (c0 := c0) (seed := seed) (op := op) (lat := lat) (F := L ++ (LT ++ ((w, .cells (lgW 0 1 nd sT) false 0) :: F))) (ho.to fun x => by simp only [cnt_append, cnt_cons]; omega)
  have ot : Own h49 ((t, .cells c.cells false 0) :: (L ++ (A ++ (LT ++ ((w, .cells (lgW 0 1 nd sT) false 0) :: (a, .cells (sto c0 sets seed op lat) false 0) :: (G ++ F)))))) := o49.to fun x => by simp only [cnt_append, cnt_cons]; omega
  obtain ⟨_, l51, _⟩ := Cf.ld' ot.head
  have o52 := ot.ro
  have e52 := lg_used (n := n) hl hk hll (h := hid h49 [] [t]) (F := (t, .cells c.cells true 0) :: (A ++ (LT ++ ((w, .cells (lgW 0 1 nd sT) false 0) :: (a, .cells (sto c0 sets seed op lat) false 0) :: (G ++ F))))) (o52.to fun x => by simp only [cnt_append, cnt_cons]; omega)
  have o53 := Own.back (h0 := h49) o52 ot.head
  generalize hh53 : (hid h49 [] [t]).putBack h49 [t] = h53 at o53
  have hrl := lg_lenL hl
  have hpl := pk.len
  have w1 : IntKind.i64.wrap ((recs.length : Int) + (X.length : Int)) = (recs.length : Int) + X.length := wrap_i64 (by omega) (by omega)
  have w2 : IntKind.i64.wrap ((recs.length : Int) + (X.length : Int) + 1) = (recs.length : Int) + X.length + 1 := wrap_i64 (by omega) (by omega)
  by_cases hroom : c.l < (recs.length : Int) + X.length + 1
  · refine .inr ⟨h53, ⟨[], txs, nd⟩, ?_, recs, sT, L, LT, hl, hT, ?_⟩
    · simp only [f_w10_told_C88, e49, Option.bind_some, y49.lenB, nwA_eq, ht, fa_mk, Nat.zero_add, l51, hp, e52, bnd_eq, List.nil_append, hh53, w1, w2, hroom, decide_true, cond_true]
    · have : Own h53 (A ++ (L ++ (LT ++ ((w, .cells (lgW 0 1 nd sT) false 0) :: (a, .cells (sto c0 sets seed op lat) false 0) :: (t, .cells c.cells false 0) :: (G ++ F))))) := o53.to fun x => by simp only [cnt_append, cnt_cons]; omega
      exact this.right
  · obtain ⟨h71, recs', L', e71, hrl', hl', o71⟩ := images_ok (n := n) (h0 := h0) (h5 := h5) (a49 := ((v, ()), h49)) hp rfl y49 pk hl hk hll (by omega) (h := h53) (F := LT ++ ((w, .cells (lgW 0 1 nd sT) false 0) :: (a, .cells (sto c0 sets seed op lat) false 0) :: (t, .cells c.cells false 0) :: (G ++ F))) (by rcases List.mem_append.1 hm with e | e <;> simp [e]) (o53.to fun x => by simp only [cnt_append, cnt_cons]; omega) hn
    have oa : Own h71 ((a, .cells (sto c0 sets seed op lat) false 0) :: (L' ++ (A ++ (LT ++ ((w, .cells (lgW 0 1 nd sT) false 0) :: (t, .cells c.cells false 0) :: (G ++ F)))))) := o71.to fun x => by simp only [cnt_append, cnt_cons]; omega
    have l72 : ldT .bool h71 (some ⟨a, 7, none⟩) = some op := by rw [ldT_of oa.head]; rfl
    have l73 : ldT .any h71 (some ⟨a, 5, none⟩) = some sets := by rw [ldT_of oa.head]; rfl
    have n74 := (hs.rds (h := h71) (F := (a, .cells (sto c0 sets seed op lat) false 0) :: (L' ++ (A ++ (LT ++ ((w, .cells (lgW 0 1 nd sT) false 0) :: (t, .cells c.cells false 0) :: F))))) (oa.to fun x => by simp only [cnt_append, cnt_cons]; omega)).lenB
    have w3 : IntKind.i64.wrap ((S.length : Int) - 1) = (S.length : Int) - 1 := wrap_i64 (by omega) (by omega)
    have pre : ∀ (hA' : Heap), f_w10_told_C88 n hA h0 p3 h5 p17 (i : Int) h = f_w10_told_C88 n hA h0 p3 h5 p17 (i : Int) h := fun _ => rfl
    by_cases hstop : (op && decide ((i : Int) = (S.length : Int) - 1)) = true
    · simp only [Bool.and_eq_true, decide_eq_true_eq] at hstop
      obtain ⟨rfl, hst⟩ := hstop
      have hst := decide_eq_true hst
      refine .inr ⟨h71, ⟨X, txs, nd⟩, ?_, recs', sT, L', LT, hl', hT, ?_⟩
      · simp only [f_w10_told_C88, e49, Option.bind_some, y49.lenB, nwA_eq, ht, ha, fa_mk, Nat.zero_add, l51, hp, e52, bnd_eq, List.nil_append, hh53, w1, w2, hroom, decide_false, cond_false, e71, thenB_inl, l72, l73, n74, w3, hst, decide_true, cond_true]
      · have : Own h71 (A ++ (L' ++ (LT ++ ((w, .cells (lgW 0 1 nd sT) false 0) :: (a, .cells (sto c0 sets seed true lat) false 0) :: (t, .cells c.cells false 0) :: (G ++ F))))) := o71.to fun x => by simp only [cnt_append, cnt_cons]; omega
        exact this.right
    · obtain ⟨h76, L76, e76, l76, o76⟩ := lg_commit (n := n) (h := h71) (F := A ++ (LT ++ ((w, .cells (lgW 0 1 nd sT) false 0) :: (a, .cells (sto c0 sets seed op lat) false 0) :: (t, .cells c.cells false 0) :: (G ++ F)))) hl' hk hll (by omega) (by rcases List.mem_append.1 hm with e | e <;> simp [e]) o71 hn
      have hl76 := lg_tale l76
      have l76 : Lg c p q (recs' ++ [⟨2, recs'.length, 0, zV, (X.length : Int)⟩]) ⟨[], txs ++ [(recs'.length, X)], recs'.length + 1⟩ L76 := l76
      have ow : Own h76 ((w, .cells (lgW 0 1 nd sT) false 0) :: (L76 ++ (A ++ (LT ++ ((a, .cells (sto c0 sets seed op lat) false 0) :: (t, .cells c.cells false 0) :: (G ++ F)))))) := o76.to fun x => by simp only [cnt_append, cnt_cons]; omega
      have l81 : ldT .any h76 (some ⟨w, 3, none⟩) = some sT := by rw [ldT_of ow.head]; rfl
      have f82 : fillL [.int .u64 0, .slice none 0 0] [(0, 1, .int .u64 (recs'.length : Int)), (1, 1, v)] = some [.int .u64 (recs'.length : Int), v] := by obtain ⟨x, k, rfl⟩ := y49.form; rfl
      have f83 : fillL [.int .u64 0, .slice none 0 0] [(0, 2, .agg ⟨[.int .u64 (recs'.length : Int), v]⟩)] = some [.int .u64 (recs'.length : Int), v] := by obtain ⟨x, k, rfl⟩ := y49.form; rfl
      have htl := (lg_tale hl').tlen
      have htl : txs.length + X.length ≤ recs'.length := htl
      have hrl2 := lg_lenL hl'
      obtain ⟨s85, h85, L85, e85, t85, o85⟩ := hT.push (p := recs'.length) y49 (h := h76) (F := (w, .cells (lgW 0 1 nd sT) false 0) :: (L76 ++ ((a, .cells (sto c0 sets seed op lat) false 0) :: (t, .cells c.cells false 0) :: (G ++ F)))) (o76.to fun x => by simp only [cnt_append, cnt_cons]; omega) (by omega)
      obtain ⟨h86, s86, o86⟩ := lgW_st (v := s85) (i := 3) t85.cells t85.isC (by decide) (h := h85) (w := w) (m := 0) (t := 1) (nd := nd) (sT := sT) (F := L85 ++ (L76 ++ ((a, .cells (sto c0 sets seed op lat) false 0) :: (t, .cells c.cells false 0) :: (G ++ F)))) (o85.to fun x => by simp only [cnt_append, cnt_cons]; omega)
      have o86 : Own h86 ((w, .cells (lgW 0 1 nd s85) false 0) :: (L85 ++ (L76 ++ ((a, .cells (sto c0 sets seed op lat) false 0) :: (t, .cells c.cells false 0) :: (G ++ F))))) := o86
      have w4 : IntKind.u64.wrap ((recs'.length : Int) + 1) = ((recs'.length + 1 : Nat) : Int) := by rw [wrap_u64z (by omega) (by omega)]; omega
      obtain ⟨h87, s87, o87⟩ := lgW_st (v := .int .u64 ((recs'.length + 1 : Nat) : Int)) (i := 2) rfl rfl (by decide) o86
      have o87 : Own h87 ((w, .cells (lgW 0 1 (recs'.length + 1) s85) false 0) :: (L85 ++ (L76 ++ ((a, .cells (sto c0 sets seed op lat) false 0) :: (t, .cells c.cells false 0) :: (G ++ F))))) := o87
      refine .inl ⟨h87, txs ++ [(recs'.length, X)], recs'.length + 1, ?_, _, s85, L76, L85, l76, t85, o87.to fun x => by simp only [cnt_append, cnt_cons]; omega⟩
      cases op with
      | false => simp only [f_w10_told_C88, e49, Option.bind_some, y49.lenB, nwA_eq, ht, ha, hw, fa_mk, Nat.zero_add, l51, hp, e52, bnd_eq, List.nil_append, hh53, w1, w2, hroom, decide_false, cond_false, e71, thenB_inl, l72, e76, f_w10_num, decide_true, Bool.not_true, l81, f82, f83, e85, s86, w4, s87]
      | true =>
        have hst : ¬ (i : Int) = (S.length : Int) - 1 := by simpa using hstop
        simp only [f_w10_told_C88, e49, Option.bind_some, y49.lenB, nwA_eq, ht, ha, hw, fa_mk, Nat.zero_add, l51, hp, e52, bnd_eq, List.nil_append, hh53, w1, w2, hroom, decide_false, cond_false, e71, thenB_inl, l72, cond_true, l73, n74, w3, hst, e76, f_w10_num, decide_true, Bool.not_true, l81, f82, f83, e85, s86, w4, s87]
theorem sets_ok (ha : hA.next = a) (ht : p3.2.next = t) (hw : h5.next = w) (hp : p17.1.1 = some ⟨q, 0, none⟩) (hS : S.length + 2 < n) (hS2 : S.length ≤ 4611686018427387903) (hs : Sow 1 sets S.length (iz .u16 S) G) (hk : c.ok = true) (hb : c.b ≤ 6) (hll : -9223372036854775808 ≤ c.l ∧ c.l ≤ 9223372036854775807) (hm : tabO ∈ G ++ F) (hn : 2000 ≤ n)
    (hT : Ti c p q w h ⟨[], [], 0⟩ ((a, .cells (sto c0 sets seed op lat) false 0) :: (t, .cells c.cells false 0) :: (G ++ F))) :
    ∃ h' s', f_w10_told_C91 n hA h0 p3 h5 p17 h = some (.inl ((), h')) ∧ Ti c p q w h' s' ((a, .cells (sto c0 sets seed op lat) false 0) :: (t, .cells c.cells false 0) :: (G ++ F)) := by
  have hr : ∀ {h3 : Heap} {s3 : Sn}, Ti c p q w h3 s3 ((a, .cells (sto c0 sets seed op lat) false 0) :: (t, .cells c.cells false 0) :: (G ++ F)) → ldT .any h3 (some ⟨a, 5, none⟩) = some sets ∧ lenB sets = some S.length := by
    intro h3 s3 ⟨recs, sT, L, LT, hl, hT, ho⟩
    have oa : Own h3 ((a, .cells (sto c0 sets seed op lat) false 0) :: (L ++ (LT ++ ((w, .cells (lgW 0 1 s3.nd sT) false 0) :: (t, .cells c.cells false 0) :: (G ++ F))))) := ho.to fun x => by simp only [cnt_append, cnt_cons]; omega
    exact ⟨by rw [ldT_of oa.head]; rfl, (hs.rds (h := h3) (F := (a, .cells (sto c0 sets seed op lat) false 0) :: (L ++ (LT ++ ((w, .cells (lgW 0 1 s3.nd sT) false 0) :: (t, .cells c.cells false 0) :: F)))) (oa.to fun x => by simp only [cnt_append, cnt_cons]; omega)).lenB⟩
  obtain ⟨r, e, h', rfl, s', q1⟩ := loopT_up (f := fun a => f_w10_told_L90 n hA h0 p3 h5 p17 a.1.1 a.2)
    (fun j (b : (Int × Unit) × Heap) => b.1.1 = (j : Int) ∧ ∃ txs nd, Ti c p q w b.2 ⟨[], txs, nd⟩ ((a, .cells (sto c0 sets seed op lat) false 0) :: (t, .cells c.cells false 0) :: (G ++ F)))
    (fun r => ∃ h', r = .inl ((), h') ∧ ∃ s', Ti c p q w h' s' ((a, .cells (sto c0 sets seed op lat) false 0) :: (t, .cells c.cells false 0) :: (G ++ F))) (N := S.length) (k := n) (j := 0) (a := ((0, ()), h)) (by omega) (by omega)
    ⟨rfl, _, _, hT⟩
    (fun j b hj hb => by
      obtain ⟨⟨z, _⟩, h3⟩ := b
      obtain ⟨rfl, txs, nd, hT⟩ := hb
      obtain ⟨x26, n27⟩ := hr hT
      have hlt : ((j : Nat) : Int) < (S.length : Int) := by omega
      rcases step_ok (n := n) (h0 := h0) (h5 := h5) ha ht hw hp hj (by omega) hs hk hb hll hm hn hT with ⟨h', txs', nd', e, hT'⟩ | ⟨h', s', e, hT'⟩
      · refine .inl ⟨((((j + 1 : Nat) : Int), ()), h'), ?_, rfl, txs', nd', hT'⟩
        simp only [f_w10_told_L90, nwA_eq, ha, fa_mk, Nat.zero_add, x26, n27, Option.bind_some, hlt, decide_true, cond_true, e, thenB_inl, wrap_succ (show j < 4611686018427387904 by omega)]
      · refine .inr ⟨.inl ((), h'), ?_, h', rfl, s', hT'⟩
        simp only [f_w10_told_L90, nwA_eq, ha, fa_mk, Nat.zero_add, x26, n27, Option.bind_some, hlt, decide_true, cond_true, e, thenB_inr])
    (fun b hb => by
      obtain ⟨⟨z, _⟩, h3⟩ := b
      obtain ⟨rfl, txs, nd, hT⟩ := hb
      obtain ⟨x26, n27⟩ := hr hT
      have hlt : ¬ ((S.length : Nat) : Int) < (S.length : Int) := by omega
      refine ⟨.inl ((), h3), ?_, h3, rfl, _, hT⟩
      simp only [f_w10_told_L90, nwA_eq, ha, fa_mk, Nat.zero_add, x26, n27, Option.bind_some, hlt, decide_false, cond_false])
  exact ⟨h', s', e, q1⟩
end
end Go.Proofs.YtdlfdieehioolaaDoor
/- A story told, from the beginning. -/
namespace Go.Proofs.YtdlfdieehioolaaDoor
open Go
set_option linter.unusedVariables false
set_option linter.unusedSimpArgs false
section
variable {n m a t p q w : Nat} {v sets lat sT : Value} {h hA h0 h5 : Heap} {F G A L LT R : Ch} {c c0 : Cf} {K : List (Nat × List Img)} {X : List Img} {S : List Int} {seed : Int} {op : Bool} {recs : List Rc} {s : Sn}
theorem lgW_ld {i : Nat} {ro : Bool} (ho : Own h ((w, .cells (lgW m t a sT) ro 0) :: F)) (hT : isTuple sT = false) : ldT (.int .u64) h (some ⟨w, 0, none⟩) = some (m : Int) ∧ ldT (.int .u64) h (some ⟨w, 1, none⟩) = some (t : Int) ∧ ldT (.int .u64) h (some ⟨w, 2, none⟩) = some (a : Int) ∧ ldT .any h (some ⟨w, 3, none⟩) = some sT ∧ ldA 4 h (some ⟨w, 0, none⟩) = some (lgW m t a sT) := by
  have hg := ho.head
  refine ⟨by rw [ldT_of hg]; rfl, by rw [ldT_of hg]; rfl, by rw [ldT_of hg]; rfl, by rw [ldT_of hg]; rfl, by rw [ldA_of hg (by exact Nat.le_refl 4)]; rfl⟩
theorem lgW_put {m' t' a' : Nat} {s' : Value} (h' : isCell s' = true) (ho : Own h ((w, .cells (lgW m t a sT) false 0) :: F)) : ∃ h', stB 4 (.agg ⟨lgW m' t' a' s'⟩) h (some ⟨w, 0, none⟩) = some h' ∧ Own h' ((w, .cells (lgW m' t' a' s') false 0) :: F) := by
  refine ⟨_, stBA_of ho.head rfl (by simp only [lgW, List.all_cons, List.all_nil, h', Bool.and_true]; rfl) (by exact Nat.le_refl 4), ?_⟩
  exact ho.put _
theorem told_ok (hS : S.length + 2 < n) (hS2 : S.length ≤ 4611686018427387903) (hs : Sow 1 sets S.length (iz .u16 S) G) (hsc : isCell sets = true) (hlc : isCell lat = true) (hm0 : tabO ∈ G ++ F) (hm1 : tabP ∈ G ++ F) (hn : 5000 ≤ n) (ho : Own h (G ++ F)) :
    ∃ p q s h' recs sT L LT, f_w10_told n (.agg ⟨sto c0 sets seed op lat⟩) h = some ((some ⟨p, 0, none⟩, (some ⟨q, 0, none⟩, (.agg ⟨lgW 0 1 s.nd sT⟩, (true, ())))), h') ∧ Lg (cn c0) p q recs s L ∧ Tl sT s.txs LT ∧ Own h' (L ++ (LT ++ (G ++ F))) := by
  have hk := cn_ok (c := c0)
  have hll := cn_l (c := c0)
  obtain ⟨⟨k1, k2⟩, ⟨k3, k4⟩, ⟨k5, k6, k7⟩, _⟩ := cn_b (c := c0)
  have hco : cellsOf (.agg ⟨sto c0 sets seed op lat⟩) = sto c0 sets seed op lat := rfl
  have hall : (sto c0 sets seed op lat).all isCell = true := by simp [sto, Cf.cells, hsc, hlc]
  have o0 := ho.new (.cells (sto c0 sets seed op lat) false 0)
  generalize ha : h.next = a at o0
  generalize hh0 : h.new (.cells (sto c0 sets seed op lat) false 0) = h0 at o0
  have o1 := o0.new (.cells (lgW 0 0 0 (.slice none 0 0)) false 0)
  generalize hd : h0.next = d at o1
  generalize hh1 : h0.new (.cells (lgW 0 0 0 (.slice none 0 0)) false 0) = h1 at o1
  have oa : Own h1 ((a, .cells (sto c0 sets seed op lat) false 0) :: (d, .cells (lgW 0 0 0 (.slice none 0 0)) false 0) :: (G ++ F)) := o1.to fun x => by simp only [cnt_append, cnt_cons]; omega
  have l2 : ldA 5 h1 (some ⟨a, 0, none⟩) = some c0.cells := by rw [ldA_of oa.head (by simp [sto, Cf.cells])]; rfl
  obtain ⟨h3, e3, o3⟩ := conf_ok (n := n) (c := c0) oa
  have o4 := o3.new (.cells (⟨0, 0, 0, 0, 0⟩ : Cf).cells false 0)
  generalize ht : h3.next = t at o4
  generalize hh4 : h3.new (.cells (⟨0, 0, 0, 0, 0⟩ : Cf).cells false 0) = h4 at o4
  have hz5 : (List.replicate 5 (.int .i64 0) : List Value) = (⟨0, 0, 0, 0, 0⟩ : Cf).cells := rfl
  obtain ⟨h5, s5, o5⟩ := cf_tmp (c := cn c0) o4
  have f6 : fillL [(.int .u64 0), (.int .u64 0), (.int .u64 0), (.slice none 0 0)] [(1, 1, (.int .u64 1))] = some (lgW 0 1 0 (.slice none 0 0)) := rfl
  have o7 := o5.new (.cells (lgW 0 0 0 (.slice none 0 0)) false 0)
  generalize hw : h5.next = w at o7
  generalize hh7 : h5.new (.cells (lgW 0 0 0 (.slice none 0 0)) false 0) = h7 at o7
  obtain ⟨h8, s8, o8⟩ := lgW_put (m' := 0) (t' := 1) (a' := 0) (s' := .slice none 0 0) rfl o7
  have ot8 : Own h8 ((t, .cells (cn c0).cells false 0) :: (w, .cells (lgW 0 1 0 (.slice none 0 0)) false 0) :: (a, .cells (sto c0 sets seed op lat) false 0) :: (d, .cells (lgW 0 0 0 (.slice none 0 0)) false 0) :: (G ++ F)) := o8.to fun x => by simp only [cnt_append, cnt_cons]; omega
  have l9 := cf_all ot8
  obtain ⟨p, h10, Lx, e10, d10, o10⟩ := new_home (n := n) hk hll (by rcases List.mem_append.1 hm0 with e | e <;> simp [e]) (by rcases List.mem_append.1 hm1 with e | e <;> simp [e]) ot8 hn
  have ot10 : Own h10 ((t, .cells (cn c0).cells false 0) :: (Lx ++ ((w, .cells (lgW 0 1 0 (.slice none 0 0)) false 0) :: (a, .cells (sto c0 sets seed op lat) false 0) :: (d, .cells (lgW 0 0 0 (.slice none 0 0)) false 0) :: (G ++ F)))) := o10.to fun x => by simp only [cnt_append, cnt_cons]; omega
  have l16 := cf_all ot10
  obtain ⟨q, h17, e17, o17⟩ := open_ok (n := n) (T := 0) (lf := 1) d10 hk hll (dsN_len hk hll) (by decide) (by decide) (by decide) o10
  have hTi : Ti (cn c0) p q w h17 ⟨[], [], 0⟩ ((a, .cells (sto c0 sets seed op lat) false 0) :: (t, .cells (cn c0).cells false 0) :: (G ++ ((d, .cells (lgW 0 0 0 (.slice none 0 0)) false 0) :: F))) :=
    ⟨[], .slice none 0 0, (q, .cells (lg p (cn c0) 1 0 0 0 0 0) false 0) :: Lx, [], ⟨Lx, 0, 0, d10, .nil (by omega) (by omega), rfl, (fun x hx => by cases hx), rfl⟩, .nil, o17.to fun x => by simp only [cnt_append, cnt_cons, cnt_nil, List.cons_append]; omega⟩
  obtain ⟨h92, s', e92, recs, sT, L, LT, hl, hT, o92⟩ := sets_ok (n := n) (hA := h) (h0 := h0) (h5 := h5) (p3 := ((.agg ⟨(cn c0).cells⟩, ()), h3)) (p17 := ((some ⟨q, 0, none⟩, (0, ())), h17)) ha ht hw rfl hS hS2 hs hk k2 hll (by rcases List.mem_append.1 hm0 with e | e <;> simp [e]) (by omega) hTi
  have ow92 : Own h92 ((w, .cells (lgW 0 1 s'.nd sT) false 0) :: (d, .cells (lgW 0 0 0 (.slice none 0 0)) false 0) :: (L ++ (LT ++ ((a, .cells (sto c0 sets seed op lat) false 0) :: (t, .cells (cn c0).cells false 0) :: (G ++ F))))) := o92.to fun x => by simp only [cnt_append, cnt_cons]; omega
  obtain ⟨_, _, _, _, l93⟩ := lgW_ld (i := 0) ow92 hT.notT
  obtain ⟨h94, s94, o94⟩ := lgW_put (m' := 0) (t' := 1) (a' := s'.nd) (s' := sT) hT.isC (h := h92) (w := d) (m := 0) (t := 0) (a := 0) (sT := .slice none 0 0) (F := (w, .cells (lgW 0 1 s'.nd sT) false 0) :: (L ++ (LT ++ ((a, .cells (sto c0 sets seed op lat) false 0) :: (t, .cells (cn c0).cells false 0) :: (G ++ F))))) (ow92.to fun x => by simp only [cnt_append, cnt_cons]; omega)
  obtain ⟨_, _, _, _, l95⟩ := lgW_ld (i := 0) o94 hT.notT
  have hz4 : ([(.int .u64 0), (.int .u64 0), (.int .u64 0), (.slice none 0 0)] : List Value) = lgW 0 0 0 (.slice none 0 0) := rfl
  refine ⟨p, q, s', h94, recs, sT, L, LT, ?_, hl, hT, ?_⟩
  · have hdd : (decide ((0 : Int) = 0)) = true := rfl
    have e17' : f_wal_Open n (some ⟨p, 0, none⟩) (.agg ⟨(cn c0).cells⟩) 0 1 h10 = some ((some ⟨q, 0, none⟩, (0, ())), h17) := e17
    simp only [hz4] at f6
    simp only [f_w10_told, hco, hall, cond_true, bnd_eq, hh0, hz4, hd, hh1, nwA_eq, ha, fa_mk, Nat.zero_add, l2, Option.bind_some, e3, ht, hz5, hh4, s5, f6, hw, hh7, s8, l9, e10, f_w10_num, decide_true, Bool.not_true, cond_false, Option.isNone_some, l16, e17', e92, thenB_inl, l93, s94, l95]
  · have : Own h94 ((d, .cells (lgW 0 1 s'.nd sT) false 0) :: (w, .cells (lgW 0 1 s'.nd sT) false 0) :: (a, .cells (sto c0 sets seed op lat) false 0) :: (t, .cells (cn c0).cells false 0) :: (L ++ (LT ++ (G ++ F)))) := o94.to fun x => by simp only [cnt_append, cnt_cons]; omega
    exact this.tail.tail.tail.tail
end
end Go.Proofs.YtdlfdieehioolaaDoor
/- The scan: where it begins, what stands at a position. -/
namespace Go.Proofs.YtdlfdieehioolaaDoor
open Go
set_option linter.unusedVariables false
set_option linter.unusedSimpArgs false
theorem rdv_byt {ws : List (Int × List Int)} {z : Int} {d : List Int} (hw : ∀ w ∈ ws, Byt w.2) (hd : Byt d) : Byt (rdv ws z d) := by
  induction ws generalizing d with
  | nil => exact hd
  | cons w ws ih =>
    refine ih (fun x hx => hw x (List.mem_cons_of_mem _ hx)) ?_
    dsimp only
    split
    · exact hw w (List.mem_cons_self ..)
    · exact hd
theorem rdz_byt {ds : List (List Int)} {ws : List (Int × List Int)} (hb : Byts ds ws) {z : Int} : Byt (rdz ds ws z) := by
  rw [rdz]
  split
  · refine rdv_byt hb.w ?_
    rw [List.getD_eq_getElem?_getD]
    cases hg : ds[z.toNat]? with
    | none => exact fun x hx => absurd hx List.not_mem_nil
    | some d => exact hb.d d (List.mem_of_getElem? hg)
  · exact fun x hx => absurd hx List.not_mem_nil
def sz7 : List Value := [(.int .i64 0), (.int .i64 0), (.int .i64 0), (.int .i64 0), (.int .i64 0), (.int .u64 0), (.int .u64 0)]
section
variable {n m a t p q w : Nat} {v sT : Value} {h hA h0 h5 : Heap} {F G A L LT R : Ch} {c c0 : Cf} {ds : List (List Int)} {ws : List (Int × List Int)} {r : Rc} {P : Nat}
theorem sup_put (ho : Own h ((w, .cells sz7 false 0) :: F)) : ∃ h', stB 7 (.agg ⟨c.sup⟩) h (some ⟨w, 0, none⟩) = some h' ∧ Own h' ((w, .cells c.sup false 0) :: F) := by
  refine ⟨_, stBA_of ho.head rfl sup_cell (by exact Nat.le_refl 7), ?_⟩
  exact ho.put _
theorem cf_same : eqVals h (.agg [false, false, false, false, false]) (.agg ⟨c.cells⟩) (.agg ⟨c.cells⟩) = some true := by
  have e : c.cells = iz .i64 [c.b, c.l, c.r, c.g, c.c] := rfl
  have := eqCells_iz (k := .i64) (A := [c.b, c.l, c.r, c.g, c.c]) (B := [c.b, c.l, c.r, c.g, c.c]) (n := 5) rfl rfl
  rw [decide_eq_true rfl] at this
  rw [e]; exact this
theorem begin_ok (hd : Dk p ds ws L) (hby : Byts ds ws) (hW : ws.length ≤ 1000) (hsup : rdz ds ws 0 = supB c) (hN : (ds.length : Int) = 1 + c.b + c.l) (hk : c.ok = true) (hl : -9223372036854775808 ≤ c.l ∧ c.l ≤ 9223372036854775807) (hm0 : tabO ∈ F) (hm1 : tabP ∈ F) (ho : Own h (L ++ F)) (hn : 4000 ≤ n) :
    ∃ h', f_scan_begin n (some ⟨p, 0, none⟩) (.agg ⟨c.cells⟩) h = some ((.agg ⟨c.sup⟩, (0, ())), h') ∧ Own h' (L ++ F) := by
  obtain ⟨⟨b1, b2⟩, ⟨b3, b4⟩, _⟩ := Cf.bounds hk hl
  have hco : cellsOf (.agg ⟨c.cells⟩) = c.cells := rfl
  have hz7 : ([(.int .i64 0), (.int .i64 0), (.int .i64 0), (.int .i64 0), (.int .i64 0), (.int .u64 0), (.int .u64 0)] : List Value) = sz7 := rfl
  have o0 := ho.new (.cells c.cells false 0)
  generalize ht : h.next = t at o0
  generalize hh0 : h.new (.cells c.cells false 0) = h0 at o0
  have o1 := o0.new (.cells sz7 false 0)
  generalize hq : h0.next = q at o1
  generalize hh1 : h0.new (.cells sz7 false 0) = h1 at o1
  have ot : Own h1 ((t, .cells c.cells false 0) :: (q, .cells sz7 false 0) :: (L ++ F)) := o1.to fun x => by simp only [cnt_append, cnt_cons]; omega
  have l5 := cf_all ot
  have e6 := config_ok (n := n) (c := c) ot
  have he : c.e = 0 := by rw [Cf.e, hk]; rfl
  rw [he] at e6
  have o6 := (ot.new (.cells c.cells false 0)).tail
  generalize hh6 : h1.new (.cells c.cells false 0) = h6 at o6 e6
  obtain ⟨l10, l11, _⟩ := Cf.ld' o6.head
  have o12 := roA1 o6
  have e12 := len_ok (n := n) (sp := none) hd (h := hid h6 [] [t, t]) (F := (t, .cells c.cells true 0) :: (q, .cells sz7 false 0) :: F) (o12.to fun x => by simp only [cnt_append, cnt_cons]; omega)
  have o13 := backA1 (h0 := h6) o12 o6.head
  generalize hh13 : (hid h6 [] [t, t]).putBack h6 [t, t] = h13 at o13
  have w1 : IntKind.i64.wrap (1 + c.b) = 1 + c.b := wrap_i64 (by omega) (by omega)
  have w2 : IntKind.i64.wrap (1 + c.b + c.l) = 1 + c.b + c.l := wrap_i64 (by omega) (by omega)
  obtain ⟨s17, h17, A17, e17, y17, o17⟩ := read_z (n := n) (z := 0) hd (h := h13) (F := (t, .cells c.cells false 0) :: (q, .cells sz7 false 0) :: F) (o13.to fun x => by simp only [cnt_append, cnt_cons]; omega) hW (by omega)
  rw [show ecz ds 0 = 0 by rw [ecz, if_pos ⟨by omega, by omega⟩]] at e17
  rw [hsup] at y17
  obtain ⟨b, xs, rfl, pc⟩ := y17.pc (fun h => by have := supB_len (c := c); rw [h] at this; cases this)
  have o17 : Own h17 ((b, .cells xs false 1) :: (L ++ ((t, .cells c.cells false 0) :: (q, .cells sz7 false 0) :: F))) := o17
  obtain ⟨h18, e18, o18⟩ := sdecode_new (n := n) pc (by rw [← hsup]; exact rdz_byt hby) hk hl (by simp [hm0]) (by simp [hm1]) o17 hn
  have o19 := o18.new (.cells sz7 false 0)
  generalize hq2 : h18.next = q2 at o19
  generalize hh19 : h18.new (.cells sz7 false 0) = h19 at o19
  obtain ⟨h20, s20, o20⟩ := sup_put (c := c) o19
  have l24 : ldA 5 h20 (some ⟨q2, 0, none⟩) = some c.cells := (Cf.ld o20.head).2.2.2.2.2
  have ot20 : Own h20 ((t, .cells c.cells false 0) :: (q2, .cells c.sup false 0) :: (b, .cells xs false 1) :: (L ++ ((q, .cells sz7 false 0) :: F))) := o20.to fun x => by simp only [cnt_append, cnt_cons]; omega
  have l25 := cf_all ot20
  have l30 : ldA 7 h20 (some ⟨q2, 0, none⟩) = some c.sup := by rw [ldA_of o20.head (by exact Nat.le_refl 7)]; rfl
  have oq20 : Own h20 ((q, .cells sz7 false 0) :: (t, .cells c.cells false 0) :: (q2, .cells c.sup false 0) :: (b, .cells xs false 1) :: (L ++ F)) := ot20.to fun x => by simp only [cnt_append, cnt_cons]; omega
  obtain ⟨h31, s31, o31⟩ := sup_put (c := c) oq20
  have l32 : ldA 7 h31 (some ⟨q, 0, none⟩) = some c.sup := by rw [ldA_of o31.head (by exact Nat.le_refl 7)]; rfl
  refine ⟨h31, ?_, o31.tail.tail.tail.tail⟩
  simp only [f_scan_begin, hco, cf_cell, cond_true, bnd_eq, hh0, hz7, ht, hq, hh1, nwA_eq, Option.isNone_some, cond_false, l5, Option.bind_some, e6, decide_true, Bool.not_true, fa_mk, Nat.zero_add, l10, l11, e12, List.nil_append, hh13, hN, w1, w2, e17, e18, hq2, hh19, s20, l24, l25, cf_same, l30, s31, l32]
theorem rc_tmp {d : Rc} (hV : r.V.length = 32) (hd : d.V.length = 32) (ho : Own h ((w, .cells d.cells false 0) :: F)) : ∃ h', stB 36 (.agg ⟨r.cells⟩) h (some ⟨w, 0, none⟩) = some h' ∧ Own h' ((w, .cells r.cells false 0) :: F) := by
  refine ⟨_, by rw [stBA_of ho.head (rc_len hV) rc_cell (by rw [rc_len hd]; exact Nat.le_refl _), writeAt_all (by rw [rc_len hV, rc_len hd])], ho.put _⟩
theorem stands_ok (hd : Dk p ds ws L) (hby : Byts ds ws) (hW : ws.length ≤ 1000) (hN : (ds.length : Int) = 1 + c.b + c.l) (hk : c.ok = true) (hl : -9223372036854775808 ≤ c.l ∧ c.l ≤ 9223372036854775807) (hP : P ≤ 4611686018427387968) (hm0 : tabO ∈ F) (ho : Own h (L ++ F)) (hn : 4000 ≤ n) :
    ∃ h', f_scan_stands n (some ⟨p, 0, none⟩) (.agg ⟨c.cells⟩) (P : Int) h = some ((.agg ⟨(bif rdE (rdz ds ws (at_ c P)) then rdec (rdz ds ws (at_ c P)) else rz).cells⟩, ((stR c (rdz ds ws (at_ c P)) P).isSome, ())), h') ∧ Own h' (L ++ F) := by
  obtain ⟨⟨b1, b2⟩, ⟨b3, b4⟩, _⟩ := Cf.bounds hk hl
  have hco : cellsOf (.agg ⟨c.cells⟩) = c.cells := rfl
  have hzr : ([.int .i64 0, .int .u64 0, .int .i64 0, .int .u8 0, .int .u8 0, .int .u8 0, .int .u8 0, .int .u8 0, .int .u8 0, .int .u8 0, .int .u8 0, .int .u8 0, .int .u8 0, .int .u8 0, .int .u8 0, .int .u8 0, .int .u8 0, .int .u8 0, .int .u8 0, .int .u8 0, .int .u8 0, .int .u8 0, .int .u8 0, .int .u8 0, .int .u8 0, .int .u8 0, .int .u8 0, .int .u8 0, .int .u8 0, .int .u8 0, .int .u8 0, .int .u8 0, .int .u8 0, .int .u8 0, .int .u8 0, .int .i64 0] : List Value) = rz.cells := rfl
  have hz32 : rz.V.length = 32 := rfl
  have o0 := ho.new (.cells c.cells false 0)
  generalize ht : h.next = t at o0
  generalize hh0 : h.new (.cells c.cells false 0) = h0 at o0
  have o1 := o0.new (.cells rz.cells false 0)
  generalize hq : h0.next = q at o1
  generalize hh1 : h0.new (.cells rz.cells false 0) = h1 at o1
  have ot : Own h1 ((t, .cells c.cells false 0) :: (q, .cells rz.cells false 0) :: (L ++ F)) := o1.to fun x => by simp only [cnt_append, cnt_cons]; omega
  obtain ⟨l7, l2, _⟩ := Cf.ld' ot.head
  have hc : c.l = ((c.l.toNat : Nat) : Int) := by omega
  have e3 := slot_ok (n := n) (h := h1) hP (c := c.l.toNat) (by omega) (by omega)
  rw [← hc] at e3
  have hm : P % c.l.toNat < c.l.toNat := Nat.mod_lt _ (by omega)
  have w1 : IntKind.i64.wrap (1 + c.b) = 1 + c.b := wrap_i64 (by omega) (by omega)
  have w2 : IntKind.i64.wrap (1 + c.b + ((P % c.l.toNat : Nat) : Int)) = at_ c P := wrap_i64 (by omega) (by omega)
  obtain ⟨z1, z2⟩ := at_lt (P := P) b3 hN b1
  obtain ⟨s8, h8, A8, e8, y8, o8⟩ := read_z (n := n) (z := at_ c P) hd (h := h1) (F := (t, .cells c.cells false 0) :: (q, .cells rz.cells false 0) :: F) (ot.to fun x => by simp only [cnt_append, cnt_cons]; omega) hW (by omega)
  rw [show ecz ds (at_ c P) = 0 by rw [ecz, if_pos ⟨z1, z2⟩]] at e8
  have hB := rdz_len hd.okd z1 z2
  have hBy := rdz_byt hby (z := at_ c P)
  generalize rdz ds ws (at_ c P) = B at y8 hB hBy ⊢
  obtain ⟨b, xs, rfl, pc⟩ := y8.pc (fun h => by rw [h] at hB; cases hB)
  have o8 : Own h8 ((b, .cells xs false 1) :: (L ++ ((t, .cells c.cells false 0) :: (q, .cells rz.cells false 0) :: F))) := o8
  obtain ⟨h12, e12, o12⟩ := rdecode_ok (n := n) pc hB hBy (by simp [hm0]) o8 hn
  obtain ⟨r, hr⟩ : ∃ r : Rc, (bif rdE B then rdec B else rz) = r := ⟨_, rfl⟩
  have hV : r.V.length = 32 := by
    rw [← hr]
    cases rdE B with
    | false => rfl
    | true => simp [rdec, hB]
  rw [hr] at e12 ⊢
  have o13 := o12.new (.cells rz.cells false 0)
  generalize hq2 : h12.next = q2 at o13
  generalize hh13 : h12.new (.cells rz.cells false 0) = h13 at o13
  obtain ⟨h14, s14, o14⟩ := rc_tmp hV hz32 o13
  have ld := rc_ld hV o14
  have oq : Own h14 ((q, .cells rz.cells false 0) :: (q2, .cells r.cells false 0) :: (b, .cells xs false 1) :: (t, .cells c.cells false 0) :: (L ++ F)) := o14.to fun x => by simp only [cnt_append, cnt_cons]; omega
  obtain ⟨h18, s18, o18⟩ := rc_tmp hV hz32 oq
  have ld18 := rc_ld hV o18
  have fin : Own h18 (L ++ F) := o18.tail.tail.tail.tail
  by_cases hE : rdE B = true
  · have hrr : rdec B = r := by rw [← hr, hE]; rfl
    by_cases hPp : r.p = P
    · by_cases hk1 : r.k = 1
      · -- an image's record
        have ot14 : Own h14 ((t, .cells c.cells false 0) :: (q2, .cells r.cells false 0) :: (b, .cells xs false 1) :: (q, .cells rz.cells false 0) :: (L ++ F)) := o14.to fun x => by simp only [cnt_append, cnt_cons]; omega
        obtain ⟨l21, _⟩ := Cf.ld' ot14.head
        have hls : ∀ x, x ∈ [t, q2] ↔ ∃ y ∈ [(t, AObj.cells c.cells false 0), (q2, AObj.cells r.cells false 0)], y.1 = x := fun x => by simp [eq_comm]
        have ohd := Own.roL (A := [(t, .cells c.cells false 0), (q2, .cells r.cells false 0)]) (l := [t, q2]) (F := (b, .cells xs false 1) :: (q, .cells rz.cells false 0) :: (L ++ F)) ot14 hls (fun x hx => by
          rcases List.mem_cons.1 hx with rfl | hx
          · exact ⟨_, _, _, rfl⟩
          · rw [List.mem_singleton.1 hx]; exact ⟨_, _, _, rfl⟩)
        obtain ⟨h22, s22, o22⟩ := rc_tmp hV hz32 (h := hid h14 [] [t, q2]) (w := q) (F := [(t, AObj.cells c.cells false 0), (q2, AObj.cells r.cells false 0)].map roA ++ ((b, .cells xs false 1) :: (L ++ F))) (ohd.to fun x => by simp only [cnt_append, cnt_cons]; omega)
        have o23 := Own.backL (A := [(t, .cells c.cells false 0), (q2, .cells r.cells false 0)]) (h := h22) (h0 := h14) (l := [t, q2]) (X := (q, .cells r.cells false 0) :: (b, .cells xs false 1) :: (L ++ F)) (o22.to fun x => by simp only [cnt_append, cnt_cons]; omega) hls (fun x hx => by
          rcases List.mem_cons.1 hx with rfl | hx
          · exact ot14.head
          · rw [List.mem_singleton.1 hx]; exact o14.head)
        generalize hh23 : h22.putBack h14 [t, q2] = h23 at o23
        have o23 : Own h23 ((q, .cells r.cells false 0) :: (t, .cells c.cells false 0) :: (q2, .cells r.cells false 0) :: (b, .cells xs false 1) :: (L ++ F)) := o23.to fun x => by simp only [cnt_append, cnt_cons, cnt_nil]; omega
        have ld23 := rc_ld hV o23
        have hst : (stR c B P).isSome = decide (r.b < c.b) := by
          simp only [stR, hE, hrr, hPp, hk1, decide_true, Bool.not_true, Bool.false_or, Bool.true_and, Bool.and_self]
          by_cases hb : r.b < c.b
          · simp [hb]
          · simp [hb]
        refine ⟨h23, ?_, o23.tail.tail.tail.tail⟩
        simp only [f_scan_stands, hco, cf_cell, cond_true, bnd_eq, hh0, hzr, ht, hq, hh1, nwA_eq, fa_mk, Nat.zero_add, l2, Option.bind_some, e3, decide_true, Bool.not_true, cond_false, l7, w1, w2, e8, e12, hE, hq2, hh13, s14, ld.all, ld.p, hPp, ld.k, hk1, ld.b, l21, s22, List.nil_append, hh23, ld23.all, hst]
      · have hst : (stR c B P).isSome = true := by
          simp only [stR, hE, hrr, hPp, hk1, decide_true, decide_false, Bool.not_false, Bool.true_or, Bool.and_self, if_true, Option.isSome_some]
        refine ⟨h18, ?_, fin⟩
        simp only [f_scan_stands, hco, cf_cell, cond_true, bnd_eq, hh0, hzr, ht, hq, hh1, nwA_eq, fa_mk, Nat.zero_add, l2, Option.bind_some, e3, decide_true, decide_false, Bool.not_true, Bool.not_false, cond_false, l7, w1, w2, e8, e12, hE, hq2, hh13, s14, ld.all, ld.p, hPp, ld.k, hk1, s18, ld18.all, hst]
    · have hst : (stR c B P).isSome = false := by
        simp only [stR, hrr, hPp, decide_false, Bool.and_false, Bool.false_and, if_false, Bool.false_eq_true, Option.isSome_none]
      have hPi : ¬ (r.p : Int) = (P : Int) := by omega
      refine ⟨h18, ?_, fin⟩
      simp only [f_scan_stands, hco, cf_cell, cond_true, bnd_eq, hh0, hzr, ht, hq, hh1, nwA_eq, fa_mk, Nat.zero_add, l2, Option.bind_some, e3, decide_true, decide_false, Bool.not_true, Bool.not_false, cond_false, l7, w1, w2, e8, e12, hE, hq2, hh13, s14, ld.all, ld.p, hPi, s18, ld18.all, hst]
  · have hE : rdE B = false := by simpa using hE
    have hst : (stR c B P).isSome = false := by
      simp only [stR, hE, Bool.false_and, if_false, Bool.false_eq_true, Option.isSome_none]
    refine ⟨h18, ?_, fin⟩
    simp only [f_scan_stands, hco, cf_cell, cond_true, bnd_eq, hh0, hzr, ht, hq, hh1, nwA_eq, fa_mk, Nat.zero_add, l2, Option.bind_some, e3, decide_true, Bool.not_true, cond_false, l7, w1, w2, e8, e12, hE, show (decide ((60 : Int) = 0)) = false from rfl, hq2, hh13, s14, ld.all, s18, ld18.all, hst]
end
end Go.Proofs.YtdlfdieehioolaaDoor
/- The scan: position by position. -/
namespace Go.Proofs.YtdlfdieehioolaaDoor
open Go
set_option linter.unusedVariables false
set_option linter.unusedSimpArgs false
theorem wc_fill {b : Int} {v : List Int} (hv : v.length = 32) : fillL Z33 [(0, 1, .int .i64 b), (1, 32, .agg ⟨iz .u8 v⟩)] = some (wc (b, v)) := by
  have hl : (iz .u8 v).length = 32 := by simp [hv]
  show (bif (Nat.beq (iz .u8 v).length 32 && true && (iz .u8 v).all isCell) then some (writeAt (.int .i64 b :: List.replicate 32 (.int .u8 0)) 1 (iz .u8 v)) else none) = _
  rw [hl, iz_cell, writeAt_tail (by rw [hl]; rfl)]; rfl
theorem wc_fill2 {x : Img} (hv : x.2.length = 32) : fillL Z33 [(0, 33, .agg ⟨wc x⟩)] = some (wc x) := by
  have hl := wc_len hv
  show (bif (Nat.beq (wc x).length 33 && true && (wc x).all isCell) then some (writeAt Z33 0 (wc x)) else none) = _
  rw [hl, wc_cell]
  show some (writeAt _ 0 _) = _
  rw [writeAt_all (by rw [hl]; rfl)]
def Rss (lb cb T lf : Nat) (R : Ch) (h : Heap) (s : Sn) : Prop := ∃ sT v LT A, Tl sT s.txs LT ∧ Slc 33 v s.came.length (s.came.flatMap wc) A ∧ (∀ x ∈ s.came, Im x) ∧ Own h (LT ++ (A ++ ((lb, .cells (lgW T lf s.nd sT) false 0) :: (cb, .cells [v] false 0) :: R)))
section
variable {n m p d0 c1 lb cb T lf : Nat} {v sT : Value} {h h0 h7 h9 h16 : Heap} {F G A L LT R : Ch} {c : Cf} {ds : List (List Int)} {ws : List (Int × List Int)} {r : Rc} {P : Nat} {s s' : Sn}
theorem one_st {e : Nat} {v u : Value} {w : Nat} (hv : cellsOf u = [u]) (hi : isCell u = true) (ho : Own h ((w, .cells [v] false e) :: F)) : ∃ h', stB 1 u h (some ⟨w, 0, none⟩) = some h' ∧ Own h' ((w, .cells [u] false e) :: F) :=
  ⟨_, stB1_of ho.head hv hi (by exact Nat.one_pos), ho.put _⟩
theorem stR_some {B : List Int} (h : stR c B P = some r) : rdE B = true ∧ r = rdec B ∧ r.p = P ∧ (r.k = 1 → r.b < c.b) := by
  rw [stR] at h
  split at h
  · rename_i hc
    obtain rfl := Option.some.inj h
    simp only [Bool.and_eq_true, decide_eq_true_eq, Bool.or_eq_true, Bool.not_eq_true', decide_eq_false_iff_not] at hc
    exact ⟨hc.1.1, rfl, hc.1.2, fun hk => hc.2.elim (fun h => absurd hk h) id⟩
  · cases h
theorem body_ok (hd0 : h.next = d0) (hc1 : h0.next = c1) (hlb : h7.next = lb) (hcb : h16.next = cb) (hd : Dk p ds ws L) (hby : Byts ds ws) (hW : ws.length ≤ 1000) (hN : (ds.length : Int) = 1 + c.b + c.l) (hk : c.ok = true) (hl : -9223372036854775808 ≤ c.l ∧ c.l ≤ 9223372036854775807) (hP : P ≤ 4611686018427387968) (hm0 : tabO ∈ F) (hn : 4000 ≤ n)
    (hcl : s.came.length ≤ 1000) (htl : s.txs.length ≤ 1000)
    (hs : Rss lb cb T lf ((d0, .cells [.pointer (some ⟨p, 0, none⟩)] false 0) :: (c1, .cells c.cells false 0) :: (L ++ F)) h9 s) :
    ((stR c (rdz ds ws (at_ c P)) P).bind (stepS c s) = none → ∃ h', f_scan_Read_B58 n h h0 h7 h16 (P : Int) (h9, 0) = some (false, (h', 1)) ∧ Rss lb cb T lf ((d0, .cells [.pointer (some ⟨p, 0, none⟩)] false 0) :: (c1, .cells c.cells false 0) :: (L ++ F)) h' s) ∧
    (∀ s', (stR c (rdz ds ws (at_ c P)) P).bind (stepS c s) = some s' → ∃ h', f_scan_Read_B58 n h h0 h7 h16 (P : Int) (h9, 0) = some (true, (h', 0)) ∧ Rss lb cb T lf ((d0, .cells [.pointer (some ⟨p, 0, none⟩)] false 0) :: (c1, .cells c.cells false 0) :: (L ++ F)) h' s') := by
  obtain ⟨⟨b1, b2⟩, ⟨b3, b4⟩, _⟩ := Cf.bounds hk hl
  obtain ⟨sT, v, LT, A, hT, hv, him, ho⟩ := hs
  obtain ⟨z1, z2⟩ := at_lt (P := P) b3 hN b1
  have hB := rdz_len hd.okd z1 z2
  have hBy := rdz_byt hby (z := at_ c P)
  have hzr : ([.int .i64 0, .int .u64 0, .int .i64 0, .int .u8 0, .int .u8 0, .int .u8 0, .int .u8 0, .int .u8 0, .int .u8 0, .int .u8 0, .int .u8 0, .int .u8 0, .int .u8 0, .int .u8 0, .int .u8 0, .int .u8 0, .int .u8 0, .int .u8 0, .int .u8 0, .int .u8 0, .int .u8 0, .int .u8 0, .int .u8 0, .int .u8 0, .int .u8 0, .int .u8 0, .int .u8 0, .int .u8 0, .int .u8 0, .int .u8 0, .int .u8 0, .int .u8 0, .int .u8 0, .int .u8 0, .int .u8 0, .int .i64 0] : List Value) = rz.cells := rfl
  have od : Own h9 ((d0, .cells [.pointer (some ⟨p, 0, none⟩)] false 0) :: (c1, .cells c.cells false 0) :: (L ++ (LT ++ (A ++ ((lb, .cells (lgW T lf s.nd sT) false 0) :: (cb, .cells [v] false 0) :: F))))) := ho.to fun x => by simp only [cnt_append, cnt_cons]; omega
  have l24 : ldT .ptr h9 (some ⟨d0, 0, none⟩) = some (some ⟨p, 0, none⟩) := by rw [ldT_of od.head]; rfl
  have l25 := cf_all od.tail
  obtain ⟨h26, e26, o26⟩ := stands_ok (n := n) (P := P) (c := c) hd hby hW hN hk hl hP (h := h9) (F := LT ++ (A ++ ((lb, .cells (lgW T lf s.nd sT) false 0) :: (cb, .cells [v] false 0) :: (d0, .cells [.pointer (some ⟨p, 0, none⟩)] false 0) :: (c1, .cells c.cells false 0) :: F))) (by simp [hm0]) (od.to fun x => by simp only [cnt_append, cnt_cons]; omega) hn
  generalize rdz ds ws (at_ c P) = B at e26 hB hBy ⊢
  obtain ⟨r, hr⟩ : ∃ r : Rc, (bif rdE B then rdec B else rz) = r := ⟨_, rfl⟩
  have hV : r.V.length = 32 := by
    rw [← hr]
    cases rdE B with
    | false => rfl
    | true => simp [rdec, hB]
  rw [hr] at e26
  have o27 := o26.new (.cells rz.cells false 0)
  generalize hq : h26.next = q at o27
  generalize hh27 : h26.new (.cells rz.cells false 0) = h27 at o27
  obtain ⟨h28, s28, o28⟩ := rc_tmp hV (show rz.V.length = 32 from rfl) o27
  have ld := rc_ld hV o28
  have o29 : Own h28 (LT ++ (A ++ ((lb, .cells (lgW T lf s.nd sT) false 0) :: (cb, .cells [v] false 0) :: (d0, .cells [.pointer (some ⟨p, 0, none⟩)] false 0) :: (c1, .cells c.cells false 0) :: (L ++ F)))) := o28.tail.to fun x => by simp only [cnt_append, cnt_cons]; omega
  have ocb : Own h28 ((cb, .cells [v] false 0) :: (lb, .cells (lgW T lf s.nd sT) false 0) :: (c1, .cells c.cells false 0) :: (LT ++ (A ++ ((d0, .cells [.pointer (some ⟨p, 0, none⟩)] false 0) :: (L ++ F))))) := o29.to fun x => by simp only [cnt_append, cnt_cons]; omega
  have l31 : ldT .any h28 (some ⟨cb, 0, none⟩) = some v := by
    rw [ldT_of ocb.head]; obtain ⟨x, k, rfl⟩ := hv.form; rfl
  obtain ⟨_, _, _, l33, _⟩ := lgW_ld (i := 0) ocb.tail hT.notT
  obtain ⟨_, _, l44, _⟩ := Cf.ld' ocb.tail.tail.head
  have same : Rss lb cb T lf ((d0, .cells [.pointer (some ⟨p, 0, none⟩)] false 0) :: (c1, .cells c.cells false 0) :: (L ++ F)) h28 s := ⟨sT, v, LT, A, hT, hv, him, o29⟩
  cases hst : stR c B P with
  | none =>
    have hi : (stR c B P).isSome = false := by rw [hst]; rfl
    rw [hi] at e26
    refine ⟨fun _ => ⟨h28, ?_, same⟩, fun s' h => by cases h⟩
    simp only [f_scan_Read_B58, Nat.beq_refl, cond_true, nwA_eq, hd0, hc1, l24, l25, Option.bind_some, e26, hzr, bnd_eq, hq, hh27, s28, Bool.not_false]
  | some r' =>
    have hi : (stR c B P).isSome = true := by rw [hst]; rfl
    rw [hi] at e26
    obtain ⟨hE, hr', hp', hbb⟩ := stR_some hst
    have hrr : r' = r := by rw [hr', ← hr, hE]; rfl
    subst hrr
    have hVb : Byt r'.V := by rw [hr']; exact fun z hz => hBy z (List.mem_of_mem_drop (List.mem_of_mem_take hz))
    simp only [Option.bind_some]
    by_cases hk2 : r'.k = 2
    · by_cases him2 : r'.im = (s.came.length : Int)
      · have hso : stepS c s r' = some ⟨[], s.txs ++ [(P, s.came)], P + 1⟩ := by rw [stepS, if_pos hk2, if_pos him2, hp']
        rw [hso]
        refine ⟨fun h => (by cases h), fun s' hs' => ?_⟩
        obtain rfl := Option.some.inj hs'
        have f82 : fillL [.int .u64 0, .slice none 0 0] [(0, 1, .int .u64 (P : Int)), (1, 1, v)] = some [.int .u64 (P : Int), v] := by obtain ⟨x, k, rfl⟩ := hv.form; rfl
        have f83 : fillL [.int .u64 0, .slice none 0 0] [(0, 2, .agg ⟨[.int .u64 (P : Int), v]⟩)] = some [.int .u64 (P : Int), v] := by obtain ⟨x, k, rfl⟩ := hv.form; rfl
        obtain ⟨s85, h85, L85, e85, t85, o85⟩ := hT.push (p := P) hv (h := h28) (F := (lb, .cells (lgW T lf s.nd sT) false 0) :: (cb, .cells [v] false 0) :: (d0, .cells [.pointer (some ⟨p, 0, none⟩)] false 0) :: (c1, .cells c.cells false 0) :: (L ++ F)) o29 htl
        obtain ⟨h86, s86, o86⟩ := lgW_st (v := s85) (i := 3) t85.cells t85.isC (by decide) (h := h85) (w := lb) (m := T) (t := lf) (nd := s.nd) (sT := sT) (F := (cb, .cells [v] false 0) :: (L85 ++ ((d0, .cells [.pointer (some ⟨p, 0, none⟩)] false 0) :: (c1, .cells c.cells false 0) :: (L ++ F)))) (o85.to fun x => by simp only [cnt_append, cnt_cons]; omega)
        have o86 : Own h86 ((lb, .cells (lgW T lf s.nd s85) false 0) :: (cb, .cells [v] false 0) :: (L85 ++ ((d0, .cells [.pointer (some ⟨p, 0, none⟩)] false 0) :: (c1, .cells c.cells false 0) :: (L ++ F)))) := o86
        have w4 : IntKind.u64.wrap ((P : Int) + 1) = ((P + 1 : Nat) : Int) := by rw [wrap_u64z (by omega) (by omega)]; omega
        obtain ⟨h87, s87, o87⟩ := lgW_st (v := .int .u64 ((P + 1 : Nat) : Int)) (i := 2) rfl rfl (by decide) o86
        have o87 : Own h87 ((cb, .cells [v] false 0) :: (lb, .cells (lgW T lf (P + 1) s85) false 0) :: (L85 ++ ((d0, .cells [.pointer (some ⟨p, 0, none⟩)] false 0) :: (c1, .cells c.cells false 0) :: (L ++ F)))) := (show Own h87 ((lb, .cells (lgW T lf (P + 1) s85) false 0) :: (cb, .cells [v] false 0) :: (L85 ++ ((d0, .cells [.pointer (some ⟨p, 0, none⟩)] false 0) :: (c1, .cells c.cells false 0) :: (L ++ F)))) from o87).to fun x => by simp only [cnt_append, cnt_cons]; omega
        obtain ⟨h88, s88, o88⟩ := one_st (u := .slice none 0 0) rfl rfl o87
        refine ⟨h88, ?_, s85, .slice none 0 0, L85, [], t85, .nil, fun x hx => absurd hx List.not_mem_nil, o88.to fun x => by simp only [cnt_append, cnt_cons, cnt_nil]; omega⟩
        simp only [f_scan_Read_B58, Nat.beq_refl, cond_true, nwA_eq, hd0, hc1, l24, l25, Option.bind_some, e26, hzr, bnd_eq, hq, hh27, s28, Bool.not_true, cond_false, fa_mk, Nat.zero_add, ld.k, hk2, decide_true, ld.im, hcb, l31, hv.lenB, him2, hlb, l33, f82, f83, e85, s86, w4, s87, s88]
      · have hso : stepS c s r' = none := by rw [stepS, if_pos hk2, if_neg him2]
        rw [hso]
        refine ⟨fun _ => ⟨h28, ?_, same⟩, fun s' h => by cases h⟩
        simp only [f_scan_Read_B58, Nat.beq_refl, cond_true, nwA_eq, hd0, hc1, l24, l25, Option.bind_some, e26, hzr, bnd_eq, hq, hh27, s28, Bool.not_true, cond_false, fa_mk, Nat.zero_add, ld.k, hk2, decide_true, decide_false, Bool.not_false, ld.im, hcb, l31, hv.lenB, him2]
    · by_cases hfull : (s.came.length : Int) = c.r
      · have hso : stepS c s r' = none := by rw [stepS, if_neg hk2, if_pos (Or.inl hfull)]
        rw [hso]
        refine ⟨fun _ => ⟨h28, ?_, same⟩, fun s' h => by cases h⟩
        simp only [f_scan_Read_B58, Nat.beq_refl, cond_true, nwA_eq, hd0, hc1, l24, l25, Option.bind_some, e26, hzr, bnd_eq, hq, hh27, s28, Bool.not_true, cond_false, fa_mk, Nat.zero_add, ld.k, hk2, decide_false, hcb, l31, hv.lenB, l44, hfull, decide_true]
      · have w43 : s.came ≠ [] → IntKind.i64.wrap ((s.came.length : Int) - 1) = ((s.came.length - 1 : Nat) : Int) := fun hne => by
          have := List.length_pos_iff.2 hne
          rw [wrap_i64 (by omega) (by omega)]; omega
        by_cases hrise : risen s.came r'.b = true
        · have hso : stepS c s r' = some ⟨s.came ++ [(r'.b, r'.V)], s.txs, s.nd⟩ := by
            rw [stepS, if_neg hk2, if_neg]
            rw [hrise]; simp [hfull]
          rw [hso]
          refine ⟨fun h => (by cases h), fun s' hs' => ?_⟩
          obtain rfl := Option.some.inj hs'
          obtain ⟨v56, h56, A56, e56, y56, o56⟩ := hv.push (new := wc (r'.b, r'.V)) (bytes := 40) (h := h28) (F := LT ++ ((lb, .cells (lgW T lf s.nd sT) false 0) :: (cb, .cells [v] false 0) :: (d0, .cells [.pointer (some ⟨p, 0, none⟩)] false 0) :: (c1, .cells c.cells false 0) :: (L ++ F))) (o29.to fun x => by simp only [cnt_append, cnt_cons]; omega) (by decide) (wc_len hV) (by omega)
          obtain ⟨h57, s57, o57⟩ := one_st (u := v56) y56.cellsOf y56.isCell (h := h56) (w := cb) (v := v) (e := 0) (F := A56 ++ (LT ++ ((lb, .cells (lgW T lf s.nd sT) false 0) :: (d0, .cells [.pointer (some ⟨p, 0, none⟩)] false 0) :: (c1, .cells c.cells false 0) :: (L ++ F)))) (o56.to fun x => by simp only [cnt_append, cnt_cons]; omega)
          refine ⟨h57, ?_, sT, v56, LT, A56, hT, ?_, fun x hx => ?_, o57.to fun x => by simp only [cnt_append, cnt_cons]; omega⟩
          · by_cases hne : s.came = []
            · have h0l : ¬ (0 : Int) < ((s.came.length : Nat) : Int) := by rw [hne]; simp
              simp only [f_scan_Read_B58, Nat.beq_refl, cond_true, nwA_eq, hd0, hc1, l24, l25, Option.bind_some, e26, hzr, bnd_eq, hq, hh27, s28, Bool.not_true, cond_false, fa_mk, Nat.zero_add, ld.k, hk2, decide_false, hcb, l31, hv.lenB, l44, hfull, h0l, ld.b, ld.V, wc_fill hV, wc_fill2 (x := (r'.b, r'.V)) hV, e56, s57]
            · have hpos := List.length_pos_iff.2 hne
              have h0l : (0 : Int) < ((s.came.length : Nat) : Int) := by omega
              obtain ⟨q47, e47, _, l48⟩ := img_at him (hv.rds (h := h28) (F := LT ++ ((lb, .cells (lgW T lf s.nd sT) false 0) :: (cb, .cells [v] false 0) :: (d0, .cells [.pointer (some ⟨p, 0, none⟩)] false 0) :: (c1, .cells c.cells false 0) :: (L ++ F))) (o29.to fun x => by simp only [cnt_append, cnt_cons]; omega)) (j := s.came.length - 1) (by omega)
              have hlast : ¬ r'.b ≤ (s.came[s.came.length - 1]'(by omega)).1 := by
                rw [risen, List.getLast?_eq_getElem?, List.getElem?_eq_getElem (by omega)] at hrise
                have : (s.came[s.came.length - 1]'(by omega)).1 < r'.b := by simpa using hrise
                omega
              simp only [f_scan_Read_B58, Nat.beq_refl, cond_true, nwA_eq, hd0, hc1, l24, l25, Option.bind_some, e26, hzr, bnd_eq, hq, hh27, s28, Bool.not_true, cond_false, fa_mk, Nat.zero_add, ld.k, hk2, decide_false, hcb, l31, hv.lenB, l44, hfull, h0l, decide_true, ld.b, w43 hne, e47, l48, hlast, ld.V, wc_fill hV, wc_fill2 (x := (r'.b, r'.V)) hV, e56, s57]
          · rw [List.length_append, List.flatMap_append]
            simpa using y56
          · rcases List.mem_append.1 hx with hx | hx
            · exact him x hx
            · rw [List.mem_singleton.1 hx]; exact ⟨hV, hVb⟩
        · have hrf : risen s.came r'.b = false := by simpa using hrise
          have hso : stepS c s r' = none := by rw [stepS, if_neg hk2, if_pos (Or.inr hrf)]
          rw [hso]
          refine ⟨fun _ => ⟨h28, ?_, same⟩, fun s' h => by cases h⟩
          have hne : s.came ≠ [] := fun h => by rw [h] at hrf; cases hrf
          have hpos := List.length_pos_iff.2 hne
          have h0l : (0 : Int) < ((s.came.length : Nat) : Int) := by omega
          obtain ⟨q47, e47, _, l48⟩ := img_at him (hv.rds (h := h28) (F := LT ++ ((lb, .cells (lgW T lf s.nd sT) false 0) :: (cb, .cells [v] false 0) :: (d0, .cells [.pointer (some ⟨p, 0, none⟩)] false 0) :: (c1, .cells c.cells false 0) :: (L ++ F))) (o29.to fun x => by simp only [cnt_append, cnt_cons]; omega)) (j := s.came.length - 1) (by omega)
          have hlast : r'.b ≤ (s.came[s.came.length - 1]'(by omega)).1 := by
            rw [risen, List.getLast?_eq_getElem?, List.getElem?_eq_getElem (by omega)] at hrf
            have : ¬ (s.came[s.came.length - 1]'(by omega)).1 < r'.b := by simpa using hrf
            omega
          simp only [f_scan_Read_B58, Nat.beq_refl, cond_true, nwA_eq, hd0, hc1, l24, l25, Option.bind_some, e26, hzr, bnd_eq, hq, hh27, s28, Bool.not_true, cond_false, fa_mk, Nat.zero_add, ld.k, hk2, decide_false, hcb, l31, hv.lenB, l44, hfull, h0l, decide_true, ld.b, w43 hne, e47, l48, hlast]
end
end Go.Proofs.YtdlfdieehioolaaDoor
/- The whole scan of a log. -/
namespace Go.Proofs.YtdlfdieehioolaaDoor
open Go
set_option linter.unusedVariables false
set_option linter.unusedSimpArgs false
theorem stepS_len {c : Cf} {s s' : Sn} {r : Rc} (h : stepS c s r = some s') : s'.came.length ≤ s.came.length + 1 ∧ s'.txs.length ≤ s.txs.length + 1 := by
  rw [stepS] at h
  split at h
  · split at h
    · obtain rfl := Option.some.inj h; simp
    · cases h
  · split at h
    · cases h
    · obtain rfl := Option.some.inj h; simp
theorem bind_len {c : Cf} {s s' : Sn} {o : Option Rc} (h : o.bind (stepS c s) = some s') : s'.came.length ≤ s.came.length + 1 ∧ s'.txs.length ≤ s.txs.length + 1 := by
  cases o with
  | none => cases h
  | some r => exact stepS_len h
section
variable {n m p d0 c1 lb cb T lf : Nat} {v sT : Value} {h h0 h7 h9 h16 : Heap} {F G A L LT R : Ch} {c : Cf} {ds : List (List Int)} {ws : List (Int × List Int)} {r : Rc} {P : Nat} {s s' : Sn}
theorem span_loop {s0 s1 : Nat} (hd0 : h.next = d0) (hc1 : h0.next = c1) (hlb : h7.next = lb) (hcb : h16.next = cb) (hd : Dk p ds ws L) (hby : Byts ds ws) (hW : ws.length ≤ 1000) (hN : (ds.length : Int) = 1 + c.b + c.l) (hk : c.ok = true) (hl : -9223372036854775808 ≤ c.l ∧ c.l ≤ 9223372036854775807) (hTT : T ≤ 4611686018427387904) (hm0 : tabO ∈ F) (hn : 4000 ≤ n)
    (hsc : s.came.length = 0) (hst : s.txs.length = 0) (hLT : 0 < c.l)
    (hs : Rss lb cb T lf ((d0, .cells [.pointer (some ⟨p, 0, none⟩)] false 0) :: (c1, .cells c.cells false 0) :: (L ++ ((s0, .cells [.int .u64 (T : Int)] false 0) :: (s1, .cells [.int .u64 ((T + c.l.toNat : Nat) : Int)] false 0) :: F))) h9 s) :
    ∃ h' e, f_ring_Span_1 (V := (Heap × Nat)) (fun v => v.1) (fun v h => (h, v.2)) (fun a v => f_scan_Read_B58 n h h0 h7 h16 a.1 v) n (some ⟨s0, 0, none⟩) (some ⟨s1, 0, none⟩) (h9, 0) = some (h', e) ∧ (e = 0 ∨ e = 1) ∧
      Rss lb cb T lf ((d0, .cells [.pointer (some ⟨p, 0, none⟩)] false 0) :: (c1, .cells c.cells false 0) :: (L ++ ((s0, .cells [.int .u64 (T : Int)] false 0) :: (s1, .cells [.int .u64 ((T + c.l.toNat : Nat) : Int)] false 0) :: F))) h' (scanF c (fun k => rdz ds ws (at_ c k)) c.l.toNat T s) := by
  obtain ⟨⟨b1, b2⟩, ⟨b3, b4⟩, _⟩ := Cf.bounds hk hl
  obtain ⟨sf, hsf⟩ : ∃ sf : Sn, scanF c (fun k => rdz ds ws (at_ c k)) c.l.toNat T s = sf := ⟨_, rfl⟩
  rw [hsf]
  obtain ⟨⟨h', e⟩, er, q1, q2⟩ := loopT_up (f := fun a => f_ring_Span_1_L9 (V := (Heap × Nat)) (fun v => v.1) (fun v h => (h, v.2)) (fun a v => f_scan_Read_B58 n h h0 h7 h16 a.1 v) n (some ⟨s1, 0, none⟩) (some ⟨s0, 0, none⟩) a.1.1 a.2)
    (fun j (b : (Int × Unit) × (Heap × Nat)) => b.1.1 = (j : Int) ∧ b.2.2 = 0 ∧ ∃ s', scanF c (fun k => rdz ds ws (at_ c k)) (c.l.toNat - j) (T + j) s' = sf ∧ s'.came.length ≤ j ∧ s'.txs.length ≤ j ∧ Rss lb cb T lf ((d0, .cells [.pointer (some ⟨p, 0, none⟩)] false 0) :: (c1, .cells c.cells false 0) :: (L ++ ((s0, .cells [.int .u64 (T : Int)] false 0) :: (s1, .cells [.int .u64 ((T + c.l.toNat : Nat) : Int)] false 0) :: F))) b.2.1 s')
    (fun r => (r.2 = 0 ∨ r.2 = 1) ∧ Rss lb cb T lf ((d0, .cells [.pointer (some ⟨p, 0, none⟩)] false 0) :: (c1, .cells c.cells false 0) :: (L ++ ((s0, .cells [.int .u64 (T : Int)] false 0) :: (s1, .cells [.int .u64 ((T + c.l.toNat : Nat) : Int)] false 0) :: F))) r.1 sf) (N := c.l.toNat) (k := n) (j := 0) (a := ((0, ()), (h9, 0))) (by omega) (by omega)
    ⟨rfl, rfl, s, hsf, by omega, by omega, hs⟩
    (fun j b hj hb => by
      obtain ⟨⟨z, _⟩, ⟨h3, e3⟩⟩ := b
      obtain ⟨rfl, rfl, s', hsc', hl1, hl2, hs'⟩ := hb
      obtain ⟨sT, v, LT, A, hT, hv, him, ho⟩ := id hs'
      have os : Own h3 ((s0, .cells [.int .u64 (T : Int)] false 0) :: (s1, .cells [.int .u64 ((T + c.l.toNat : Nat) : Int)] false 0) :: (LT ++ (A ++ ((lb, .cells (lgW T lf s'.nd sT) false 0) :: (cb, .cells [v] false 0) :: (d0, .cells [.pointer (some ⟨p, 0, none⟩)] false 0) :: (c1, .cells c.cells false 0) :: (L ++ F))))) := ho.to fun x => by simp only [cnt_append, cnt_cons]; omega
      have l0 : ldT (.int .u64) h3 (some ⟨s0, 0, none⟩) = some (T : Int) := by rw [ldT_of os.head]; rfl
      have l1 : ldT (.int .u64) h3 (some ⟨s1, 0, none⟩) = some ((T + c.l.toNat : Nat) : Int) := by rw [ldT_of os.tail.head]; rfl
      have c1' : ((j : Nat) : Int) < 64 := by omega
      have c2 : (T : Int) < ((T + c.l.toNat : Nat) : Int) := by omega
      have w1 : IntKind.u64.wrap (((T + c.l.toNat : Nat) : Int) - (T : Int)) = (c.l.toNat : Int) := by rw [wrap_u64z (by omega) (by omega)]; omega
      have c3 : ((j : Nat) : Int) < (c.l.toNat : Int) := by omega
      have w2 : IntKind.u64.wrap ((T : Int) + (j : Int)) = ((T + j : Nat) : Int) := by rw [wrap_u64z (by omega) (by omega)]; omega
      have w3 : IntKind.u64.wrap ((j : Int) + 1) = ((j + 1 : Nat) : Int) := by rw [wrap_u64z (by omega) (by omega)]; omega
      obtain ⟨B1, B2⟩ := body_ok (n := n) (P := T + j) hd0 hc1 hlb hcb hd hby hW hN hk hl (by omega) (show tabO ∈ (s0, AObj.cells [.int .u64 (T : Int)] false 0) :: (s1, .cells [.int .u64 ((T + c.l.toNat : Nat) : Int)] false 0) :: F by simp [hm0]) hn (by omega) (by omega) hs'
      have hun : c.l.toNat - j = (c.l.toNat - (j + 1)) + 1 := by omega
      rw [hun, scanF] at hsc'
      cases hbd : (stR c (rdz ds ws (at_ c (T + j))) (T + j)).bind (stepS c s') with
      | none =>
        rw [hbd] at hsc'
        obtain ⟨h', e, r'⟩ := B1 hbd
        obtain rfl : s' = sf := hsc'
        refine .inr ⟨(h', 1), ?_, Or.inr rfl, r'⟩
        simp only [f_ring_Span_1_L9, c1', decide_true, cond_true, l0, l1, Option.bind_some, c2, w1, c3, w2, e, Bool.not_false]
      | some s2 =>
        rw [hbd] at hsc'
        obtain ⟨h', e, r'⟩ := B2 s2 hbd
        have := bind_len hbd
        refine .inl ⟨((((j + 1 : Nat) : Int), ()), (h', 0)), ?_, rfl, rfl, s2, hsc', by omega, by omega, r'⟩
        simp only [f_ring_Span_1_L9, c1', decide_true, cond_true, l0, l1, Option.bind_some, c2, w1, c3, w2, e, Bool.not_true, cond_false, w3])
    (fun b hb => by
      obtain ⟨⟨z, _⟩, ⟨h3, e3⟩⟩ := b
      obtain ⟨rfl, rfl, s', hsc', hl1, hl2, hs'⟩ := hb
      obtain ⟨sT, v, LT, A, hT, hv, him, ho⟩ := id hs'
      have os : Own h3 ((s0, .cells [.int .u64 (T : Int)] false 0) :: (s1, .cells [.int .u64 ((T + c.l.toNat : Nat) : Int)] false 0) :: (LT ++ (A ++ ((lb, .cells (lgW T lf s'.nd sT) false 0) :: (cb, .cells [v] false 0) :: (d0, .cells [.pointer (some ⟨p, 0, none⟩)] false 0) :: (c1, .cells c.cells false 0) :: (L ++ F))))) := ho.to fun x => by simp only [cnt_append, cnt_cons]; omega
      have l0 : ldT (.int .u64) h3 (some ⟨s0, 0, none⟩) = some (T : Int) := by rw [ldT_of os.head]; rfl
      have l1 : ldT (.int .u64) h3 (some ⟨s1, 0, none⟩) = some ((T + c.l.toNat : Nat) : Int) := by rw [ldT_of os.tail.head]; rfl
      have c2 : (T : Int) < ((T + c.l.toNat : Nat) : Int) := by omega
      have w1 : IntKind.u64.wrap (((T + c.l.toNat : Nat) : Int) - (T : Int)) = (c.l.toNat : Int) := by rw [wrap_u64z (by omega) (by omega)]; omega
      have c3 : ¬ ((c.l.toNat : Nat) : Int) < (c.l.toNat : Int) := by omega
      rw [Nat.sub_self, scanF] at hsc'
      obtain rfl : s' = sf := hsc'
      refine ⟨(h3, 0), ?_, Or.inl rfl, hs'⟩
      by_cases c1' : ((c.l.toNat : Nat) : Int) < 64
      · simp only [f_ring_Span_1_L9, c1', decide_true, cond_true, l0, l1, Option.bind_some, c2, w1, c3, decide_false, cond_false]
      · simp only [f_ring_Span_1_L9, c1', decide_false, cond_false, Option.bind_some])
  exact ⟨h', e, er, q1, q2⟩
theorem read_ok (hd : Dk p ds ws L) (hby : Byts ds ws) (hW : ws.length ≤ 1000) (hsup : rdz ds ws 0 = supB c) (hN : (ds.length : Int) = 1 + c.b + c.l) (hk : c.ok = true) (hl : -9223372036854775808 ≤ c.l ∧ c.l ≤ 9223372036854775807) (hm0 : tabO ∈ F) (hm1 : tabP ∈ F) (ho : Own h (L ++ F)) (hn : 4000 ≤ n) (hs : scanF c (fun k => rdz ds ws (at_ c k)) c.l.toNat 0 ⟨[], [], 0⟩ = s) :
    ∃ h' sT LT, f_scan_Read n (some ⟨p, 0, none⟩) (.agg ⟨c.cells⟩) h = some ((.agg ⟨lgW 0 1 s.nd sT⟩, (0, ())), h') ∧ Tl sT s.txs LT ∧ Own h' (LT ++ (L ++ F)) := by
  obtain ⟨⟨b1, b2⟩, ⟨b3, b4⟩, _⟩ := Cf.bounds hk hl
  have hco : cellsOf (.agg ⟨c.cells⟩) = c.cells := rfl
  have hz7 : ([(.int .i64 0), (.int .i64 0), (.int .i64 0), (.int .i64 0), (.int .i64 0), (.int .u64 0), (.int .u64 0)] : List Value) = sz7 := rfl
  have hz4 : ([(.int .u64 0), (.int .u64 0), (.int .u64 0), (.slice none 0 0)] : List Value) = lgW 0 0 0 (.slice none 0 0) := rfl
  have o0 := ho.new (.cells [.pointer (some ⟨p, 0, none⟩)] false 0)
  generalize hd0 : h.next = d0 at o0
  generalize hh0 : h.new (.cells [.pointer (some ⟨p, 0, none⟩)] false 0) = h0 at o0
  have o1 := o0.new (.cells c.cells false 0)
  generalize hc1 : h0.next = c1 at o1
  generalize hh1 : h0.new (.cells c.cells false 0) = h1 at o1
  have o2 := o1.new (.cells (lgW 0 0 0 (.slice none 0 0)) false 0)
  generalize hrb : h1.next = rb at o2
  generalize hh2 : h1.new (.cells (lgW 0 0 0 (.slice none 0 0)) false 0) = h2 at o2
  have od : Own h2 ((d0, .cells [.pointer (some ⟨p, 0, none⟩)] false 0) :: (c1, .cells c.cells false 0) :: (rb, .cells (lgW 0 0 0 (.slice none 0 0)) false 0) :: (L ++ F)) := o2.to fun x => by simp only [cnt_append, cnt_cons]; omega
  have l3 : ldT .ptr h2 (some ⟨d0, 0, none⟩) = some (some ⟨p, 0, none⟩) := by rw [ldT_of od.head]; rfl
  have l4 := cf_all od.tail
  obtain ⟨h5, e5, o5⟩ := begin_ok (n := n) (c := c) hd hby hW hsup hN hk hl (h := h2) (F := (d0, .cells [.pointer (some ⟨p, 0, none⟩)] false 0) :: (c1, .cells c.cells false 0) :: (rb, .cells (lgW 0 0 0 (.slice none 0 0)) false 0) :: F) (by simp [hm0]) (by simp [hm1]) (od.to fun x => by simp only [cnt_append, cnt_cons]; omega) hn
  have o6 := o5.new (.cells sz7 false 0)
  generalize hsb : h5.next = sb at o6
  generalize hh6 : h5.new (.cells sz7 false 0) = h6 at o6
  obtain ⟨h7, s7, o7⟩ := sup_put (c := c) o6
  have l11 : ldT (.int .u64) h7 (some ⟨sb, 5, none⟩) = some 0 := by rw [ldT_of o7.head]; rfl
  have l12 : ldT (.int .u64) h7 (some ⟨sb, 6, none⟩) = some 1 := by rw [ldT_of o7.head]; rfl
  have f14 : fillL (lgW 0 0 0 (.slice none 0 0)) [(0, 1, (.int .u64 0)), (1, 1, (.int .u64 1)), (2, 1, (.int .u64 0))] = some (lgW 0 1 0 (.slice none 0 0)) := rfl
  have o15 := o7.new (.cells (lgW 0 0 0 (.slice none 0 0)) false 0)
  generalize hlb : h7.next = lb at o15
  generalize hh15 : h7.new (.cells (lgW 0 0 0 (.slice none 0 0)) false 0) = h15 at o15
  obtain ⟨h16, s16, o16⟩ := lgW_put (m' := 0) (t' := 1) (a' := 0) (s' := .slice none 0 0) rfl o15
  have o17 := o16.new (.cells [.slice none 0 0] false 0)
  generalize hcb : h16.next = cb at o17
  generalize hh17 : h16.new (.cells [.slice none 0 0] false 0) = h17 at o17
  have osb : Own h17 ((sb, .cells c.sup false 0) :: (c1, .cells c.cells false 0) :: (cb, .cells [.slice none 0 0] false 0) :: (lb, .cells (lgW 0 1 0 (.slice none 0 0)) false 0) :: (L ++ ((d0, .cells [.pointer (some ⟨p, 0, none⟩)] false 0) :: (rb, .cells (lgW 0 0 0 (.slice none 0 0)) false 0) :: F))) := o17.to fun x => by simp only [cnt_append, cnt_cons]; omega
  have l18 : ldT (.int .u64) h17 (some ⟨sb, 5, none⟩) = some 0 := by rw [ldT_of osb.head]; rfl
  obtain ⟨_, l20, _⟩ := Cf.ld' osb.tail.head
  have w20 : IntKind.u64.wrap (0 + IntKind.u64.wrap c.l) = ((0 + c.l.toNat : Nat) : Int) := by rw [wrap_u64z (x := c.l) (by omega) (by omega), wrap_u64z (by omega) (by omega)]; omega
  have o21 := osb.new (.cells [.int .u64 ((0 : Nat) : Int)] false 0)
  generalize hs0 : h17.next = s0 at o21
  generalize hh21 : h17.new (.cells [.int .u64 ((0 : Nat) : Int)] false 0) = h21 at o21
  have o22 := o21.new (.cells [.int .u64 ((0 + c.l.toNat : Nat) : Int)] false 0)
  generalize hs1 : h21.next = s1 at o22
  generalize hh22 : h21.new (.cells [.int .u64 ((0 + c.l.toNat : Nat) : Int)] false 0) = h22 at o22
  have o23 := o22.hole.hole
  obtain ⟨h59, e59, er, he, sT, v, LT, A, hT, hv, him, o59⟩ := span_loop (n := n) (s := ⟨[], [], 0⟩) (T := 0) (lf := 1) hd0 hc1 hlb hcb hd hby hW hN hk hl (by omega) (h9 := h22.hole.hole) (F := (sb, .cells c.sup false 0) :: (rb, .cells (lgW 0 0 0 (.slice none 0 0)) false 0) :: F) (s0 := s0) (s1 := s1) (by simp [hm0]) hn rfl rfl (by omega)
    ⟨.slice none 0 0, .slice none 0 0, [], [], .nil, .nil, fun x hx => absurd hx List.not_mem_nil, o23.to fun x => by simp only [cnt_append, cnt_cons, cnt_nil]; omega⟩
  rw [hs] at hT hv o59
  have olb : Own h59 ((lb, .cells (lgW 0 1 s.nd sT) false 0) :: (rb, .cells (lgW 0 0 0 (.slice none 0 0)) false 0) :: (LT ++ (A ++ ((cb, .cells [v] false 0) :: (d0, .cells [.pointer (some ⟨p, 0, none⟩)] false 0) :: (c1, .cells c.cells false 0) :: (L ++ ((s0, .cells [.int .u64 ((0 : Nat) : Int)] false 0) :: (s1, .cells [.int .u64 ((0 + c.l.toNat : Nat) : Int)] false 0) :: (sb, .cells c.sup false 0) :: F)))))) := o59.to fun x => by simp only [cnt_append, cnt_cons]; omega
  obtain ⟨_, _, _, _, l61⟩ := lgW_ld (i := 0) olb hT.notT
  obtain ⟨h62, s62, o62⟩ := lgW_put (m' := 0) (t' := 1) (a' := s.nd) (s' := sT) hT.isC (h := h59) (w := rb) (m := 0) (t := 0) (a := 0) (sT := .slice none 0 0) (F := (lb, .cells (lgW 0 1 s.nd sT) false 0) :: (LT ++ (A ++ ((cb, .cells [v] false 0) :: (d0, .cells [.pointer (some ⟨p, 0, none⟩)] false 0) :: (c1, .cells c.cells false 0) :: (L ++ ((s0, .cells [.int .u64 ((0 : Nat) : Int)] false 0) :: (s1, .cells [.int .u64 ((0 + c.l.toNat : Nat) : Int)] false 0) :: (sb, .cells c.sup false 0) :: F)))))) (olb.to fun x => by simp only [cnt_append, cnt_cons]; omega)
  obtain ⟨_, _, _, _, l63⟩ := lgW_ld (i := 0) o62 hT.notT
  refine ⟨h62, sT, LT, ?_, hT, ?_⟩
  · have hsp : f_ring_Span n 0 ((0 + c.l.toNat : Nat) : Int) h17 = some ((((some ⟨s0, 0, none⟩), ((some ⟨s1, 0, none⟩), ())), ()), h22) := by
      have hh21' : h17.new (.cells [.int .u64 0] false 0) = h21 := hh21
      simp only [f_ring_Span, bnd_eq, hh21', nwA_eq, hs0, hs1, hh22]
    rw [Nat.zero_add] at hsp w20
    rcases he with rfl | rfl
    · simp only [f_scan_Read, bnd_eq, hh0, hco, cf_cell, cond_true, hh1, hz4, hh2, nwA_eq, hd0, hc1, hrb, l3, l4, Option.bind_some, e5, hz7, hsb, hh6, s7, decide_true, Bool.not_true, cond_false, fa_mk, Nat.zero_add, l11, l12, f14, hlb, hh15, s16, hh17, l18, l20, w20, hsp, er, Nat.beq_refl, l61, s62, l63]
    · simp only [f_scan_Read, bnd_eq, hh0, hco, cf_cell, cond_true, hh1, hz4, hh2, nwA_eq, hd0, hc1, hrb, l3, l4, Option.bind_some, e5, hz7, hsb, hh6, s7, decide_true, Bool.not_true, cond_false, fa_mk, Nat.zero_add, l11, l12, f14, hlb, hh15, s16, hh17, l18, l20, w20, hsp, er, show (Nat.beq 1 0) = false from rfl, Nat.beq_refl, l61, s62, l63]
  · have : Own h62 ((rb, .cells (lgW 0 1 s.nd sT) false 0) :: (lb, .cells (lgW 0 1 s.nd sT) false 0) :: (cb, .cells [v] false 0) :: (d0, .cells [.pointer (some ⟨p, 0, none⟩)] false 0) :: (c1, .cells c.cells false 0) :: (s0, .cells [.int .u64 ((0 : Nat) : Int)] false 0) :: (s1, .cells [.int .u64 ((0 + c.l.toNat : Nat) : Int)] false 0) :: (sb, .cells c.sup false 0) :: (A ++ (LT ++ (L ++ F)))) := o62.to fun x => by simp only [cnt_append, cnt_cons]; omega
    exact this.tail.tail.tail.tail.tail.tail.tail.tail.right
end
end Go.Proofs.YtdlfdieehioolaaDoor
/- Logs copied and compared. -/
namespace Go.Proofs.YtdlfdieehioolaaDoor
open Go
set_option linter.unusedVariables false
set_option linter.unusedSimpArgs false
theorem wc_same {x : Img} {h : Heap} (hx : x.2.length = 32) : eqVals h (.agg (List.replicate 33 false)) (.agg ⟨wc x⟩) (.agg ⟨wc x⟩) = some true := by
  have e : wc x = ((IntKind.i64, x.1) :: x.2.map fun z => (IntKind.u8, z)).map fun p => .int p.1 p.2 := by simp [wc, iz]
  have := eqCells_ints (xs := (IntKind.i64, x.1) :: x.2.map fun z => (IntKind.u8, z)) (ys := (IntKind.i64, x.1) :: x.2.map fun z => (IntKind.u8, z)) rfl rfl
  rw [← e, decide_eq_true rfl, List.length_cons, List.length_map, hx] at this
  exact this
section
variable {n m a t p q w T lf nd : Nat} {v u sT s1 s2 : Value} {h h0 h5 : Heap} {F G A B L LT R L1 L2 : Ch} {K : List (Nat × List Img)} {X : List Img}
theorem sameImages_ok (hX : ∀ x ∈ X, Im x) (hl : X.length + 2 ≤ n) (hl2 : X.length ≤ 1000) (r1 : Rds h 33 v X.length (X.flatMap wc)) (r2 : Rds h 33 u X.length (X.flatMap wc)) : f_r10_SameImages n v u h = some ((true, ()), h) := by
  obtain ⟨r, e, rfl⟩ := loopT_up (f := fun a => f_r10_SameImages_L10 n u v a.1.1 a.2)
    (fun j (b : (Int × Unit) × Heap) => b = (((j : Int), ()), h)) (fun r => r = ((true, ()), h)) (N := X.length) (k := n) (j := 0) (a := ((0, ()), h)) (by omega) (by omega) rfl
    (fun j b hj hb => by
      subst hb
      have hlt : ((j : Nat) : Int) < (X.length : Int) := by omega
      obtain ⟨q1, e1, e2, _⟩ := img_at hX r1 hj
      obtain ⟨q2, e3, e4, _⟩ := img_at hX r2 hj
      refine .inl ⟨_, ?_, rfl⟩
      simp only [f_r10_SameImages_L10, r1.lenB, Option.bind_some, hlt, decide_true, cond_true, e1, e2, e3, e4, wc_same (hX _ (List.getElem_mem hj)).1, Bool.not_true, cond_false, wrap_succ (show j < 4611686018427387904 by omega)])
    (fun b hb => by
      subst hb
      have hlt : ¬ ((X.length : Nat) : Int) < (X.length : Int) := by omega
      refine ⟨_, ?_, rfl⟩
      simp only [f_r10_SameImages_L10, r1.lenB, Option.bind_some, hlt, decide_false, cond_false])
  simp only [f_r10_SameImages, r1.lenB, r2.lenB, Option.bind_some, decide_true, Bool.not_true, cond_false, e]
theorem lgW_cell (h : isCell sT = true) : (lgW T lf nd sT).all isCell = true := by simp only [lgW, List.all_cons, List.all_nil, h, Bool.and_true]; rfl
theorem same_ok (h1 : Tl s1 K L1) (h2 : Tl s2 K L2) (hX : ∀ t ∈ K, ∀ x ∈ t.2, Im x) (hK : K.length ≤ 1000) (hK2 : ∀ t ∈ K, t.2.length ≤ 1000) (ho : Own h (L1 ++ (L2 ++ F))) (hn : 2000 ≤ n) :
    ∃ h', f_r10_Same n (.agg ⟨lgW T lf nd s1⟩) (.agg ⟨lgW T lf nd s2⟩) h = some ((true, ()), h') ∧ Own h' (L1 ++ (L2 ++ F)) := by
  have hc1 : cellsOf (.agg ⟨lgW T lf nd s1⟩) = lgW T lf nd s1 := rfl
  have hc2 : cellsOf (.agg ⟨lgW T lf nd s2⟩) = lgW T lf nd s2 := rfl
  have o0 := ho.new (.cells (lgW T lf nd s1) false 0)
  generalize ha : h.next = a at o0
  generalize hh0 : h.new (.cells (lgW T lf nd s1) false 0) = h0 at o0
  have o1 := o0.new (.cells (lgW T lf nd s2) false 0)
  generalize hb : h0.next = b at o1
  generalize hh1 : h0.new (.cells (lgW T lf nd s2) false 0) = g1 at o1
  obtain ⟨x3, x5, x7, x10, _⟩ := lgW_ld (i := 0) o1 h2.notT
  have oa : Own g1 ((a, .cells (lgW T lf nd s1) false 0) :: (b, .cells (lgW T lf nd s2) false 0) :: (L1 ++ (L2 ++ F))) := o1.to fun x => by simp only [cnt_append, cnt_cons]; omega
  obtain ⟨x2, x4, x6, x8, _⟩ := lgW_ld (i := 0) oa h1.notT
  obtain ⟨r, e, rfl⟩ := loopT_up (f := fun a => f_r10_Same_L31 n h h0 a.1.1 a.2)
    (fun j (b : (Int × Unit) × Heap) => b = (((j : Int), ()), g1)) (fun r => r = ((true, ()), g1)) (N := K.length) (k := n) (j := 0) (a := ((0, ()), g1)) (by omega) (by omega) rfl
    (fun j b' hj hb' => by
      subst hb'
      have hlt : ((j : Nat) : Int) < (K.length : Int) := by omega
      obtain ⟨q1, w1, A1, A2, e1, e2, e3, _, y1, c1⟩ := h1.at hj (h := g1) (F := (a, .cells (lgW T lf nd s1) false 0) :: (b, .cells (lgW T lf nd s2) false 0) :: (L2 ++ F)) (oa.to fun x => by simp only [cnt_append, cnt_cons]; omega)
      obtain ⟨q2, w2, B1, B2, e4, e5, e6, _, y2, c2⟩ := h2.at hj (h := g1) (F := (a, .cells (lgW T lf nd s1) false 0) :: (b, .cells (lgW T lf nd s2) false 0) :: (L1 ++ F)) (oa.to fun x => by simp only [cnt_append, cnt_cons]; omega)
      have hm := List.getElem_mem hj
      have e7 := sameImages_ok (n := n) (hX _ hm) (by have := hK2 _ hm; omega) (hK2 _ hm) (y1.rds (h := g1) (F := A2 ++ ((a, .cells (lgW T lf nd s1) false 0) :: (b, .cells (lgW T lf nd s2) false 0) :: (L2 ++ F))) (oa.to fun x => by have := c1 x; simp only [cnt_append, cnt_cons]; omega)) (y2.rds (h := g1) (F := B2 ++ ((a, .cells (lgW T lf nd s1) false 0) :: (b, .cells (lgW T lf nd s2) false 0) :: (L1 ++ F))) (oa.to fun x => by have := c2 x; simp only [cnt_append, cnt_cons]; omega))
      refine .inl ⟨_, ?_, rfl⟩
      simp only [f_r10_Same_L31, nwA_eq, ha, hb, fa_mk, Nat.zero_add, x8, h1.len, Option.bind_some, hlt, decide_true, cond_true, e1, e2, x10, e4, e5, Bool.not_true, cond_false, e3, e6, e7, wrap_succ (show j < 4611686018427387904 by omega)])
    (fun b' hb' => by
      subst hb'
      have hlt : ¬ ((K.length : Nat) : Int) < (K.length : Int) := by omega
      refine ⟨_, ?_, rfl⟩
      simp only [f_r10_Same_L31, nwA_eq, ha, fa_mk, Nat.zero_add, x8, h1.len, Option.bind_some, hlt, decide_false, cond_false])
  refine ⟨g1, ?_, oa.tail.tail⟩
  simp only [f_r10_Same, hc1, hc2, lgW_cell h1.isC, lgW_cell h2.isC, cond_true, bnd_eq, hh0, hh1, nwA_eq, ha, hb, fa_mk, Nat.zero_add, x2, x3, x4, x5, x6, x7, x8, x10, h1.len, h2.len, Option.bind_some, decide_true, Bool.not_true, cond_false, e]
theorem splain_ok (hT : Tl sT K LT) (hK : K.length ≤ 1000) (hK2 : ∀ t ∈ K, t.2.length ≤ 1000) (ho : Own h (LT ++ F)) (hn : 2000 ≤ n) :
    ∃ h' s' L', f_w10_plain n (.agg ⟨lgW T lf nd sT⟩) h = some ((.agg ⟨lgW T lf nd s'⟩, ()), h') ∧ Tl s' K L' ∧ Own h' (L' ++ (LT ++ F)) := by
  have hco : cellsOf (.agg ⟨lgW T lf nd sT⟩) = lgW T lf nd sT := rfl
  have hz4 : ([(.int .u64 0), (.int .u64 0), (.int .u64 0), (.slice none 0 0)] : List Value) = lgW 0 0 0 (.slice none 0 0) := rfl
  have o0 := ho.new (.cells (lgW T lf nd sT) false 0)
  generalize ha : h.next = a at o0
  generalize hh0 : h.new (.cells (lgW T lf nd sT) false 0) = h0 at o0
  have o1 := o0.new (.cells (lgW 0 0 0 (.slice none 0 0)) false 0)
  generalize hb : h0.next = b at o1
  generalize hh1 : h0.new (.cells (lgW 0 0 0 (.slice none 0 0)) false 0) = g1 at o1
  have oa1 : Own g1 ((a, .cells (lgW T lf nd sT) false 0) :: (b, .cells (lgW 0 0 0 (.slice none 0 0)) false 0) :: (LT ++ F)) := o1.to fun x => by simp only [cnt_append, cnt_cons]; omega
  obtain ⟨x2, x3, x4, _, _⟩ := lgW_ld (i := 0) oa1 hT.notT
  have f5 : fillL (lgW 0 0 0 (.slice none 0 0)) [(0, 1, (.int .u64 (T : Int))), (1, 1, (.int .u64 (lf : Int))), (2, 1, (.int .u64 (nd : Int)))] = some (lgW T lf nd (.slice none 0 0)) := rfl
  have o6 := oa1.new (.cells (lgW 0 0 0 (.slice none 0 0)) false 0)
  generalize hw : g1.next = w at o6
  generalize hh6 : g1.new (.cells (lgW 0 0 0 (.slice none 0 0)) false 0) = h6 at o6
  obtain ⟨h7, s7, o7⟩ := lgW_put (m' := T) (t' := lf) (a' := nd) (s' := .slice none 0 0) rfl o6
  have oa7 : Own h7 ((a, .cells (lgW T lf nd sT) false 0) :: (w, .cells (lgW T lf nd (.slice none 0 0)) false 0) :: (b, .cells (lgW 0 0 0 (.slice none 0 0)) false 0) :: (LT ++ F)) := o7.to fun x => by simp only [cnt_append, cnt_cons]; omega
  obtain ⟨_, _, _, x8, _⟩ := lgW_ld (i := 0) oa7 hT.notT
  obtain ⟨r, e29, h29, rfl, s', L', t', o29⟩ := loopT_up (f := fun a => f_w10_plain_L28 n g1 sT K.length a.1.1 a.2)
    (fun j (c : (Int × Unit) × Heap) => c.1.1 = (j : Int) ∧ ∃ s' L', Tl s' (K.take j) L' ∧ Own c.2 (L' ++ ((w, .cells (lgW T lf nd s') false 0) :: (a, .cells (lgW T lf nd sT) false 0) :: (b, .cells (lgW 0 0 0 (.slice none 0 0)) false 0) :: (LT ++ F))))
    (fun r => ∃ h', r = ((), h') ∧ ∃ s' L', Tl s' K L' ∧ Own h' (L' ++ ((w, .cells (lgW T lf nd s') false 0) :: (a, .cells (lgW T lf nd sT) false 0) :: (b, .cells (lgW 0 0 0 (.slice none 0 0)) false 0) :: (LT ++ F)))) (N := K.length) (k := n) (j := 0) (a := ((0, ()), h7)) (by omega) (by omega)
    ⟨rfl, .slice none 0 0, [], .nil, oa7.to fun x => by simp only [cnt_append, cnt_cons, cnt_nil]; omega⟩
    (fun j c hj hc => by
      obtain ⟨⟨z, _⟩, h3⟩ := c
      obtain ⟨rfl, s', L', t', o3⟩ := hc
      have o3 : Own h3 (L' ++ ((w, .cells (lgW T lf nd s') false 0) :: (a, .cells (lgW T lf nd sT) false 0) :: (b, .cells (lgW 0 0 0 (.slice none 0 0)) false 0) :: (LT ++ F))) := o3
      have hlt : ((j : Nat) : Int) < (K.length : Int) := by omega
      obtain ⟨q12, v, A1, A2, e12, _, _, l13, y13, c13⟩ := hT.at hj (h := h3) (F := L' ++ ((w, .cells (lgW T lf nd s') false 0) :: (a, .cells (lgW T lf nd sT) false 0) :: (b, .cells (lgW 0 0 0 (.slice none 0 0)) false 0) :: F)) (o3.to fun x => by simp only [cnt_append, cnt_cons]; omega)
      have hvc : isCell v = true := y13.isCell
      have o14 := o3.new (.cells [.int .u64 0, .slice none 0 0] false 0)
      generalize ht14 : h3.next = t14 at o14
      generalize hh14 : h3.new (.cells [.int .u64 0, .slice none 0 0] false 0) = h14 at o14
      have s15 := stBA_of (sp := none) (o := 0) (sz := 2) (vs := [.int .u64 (K[j].1 : Int), v]) o14.head rfl (by simp only [List.all_cons, List.all_nil, hvc, Bool.and_true]; rfl) (by exact Nat.le_refl 2)
      have o15 := o14.put (.cells [.int .u64 (K[j].1 : Int), v] false 0)
      have o15 : Own _ ((t14, .cells [.int .u64 (K[j].1 : Int), v] false 0) :: (L' ++ ((w, .cells (lgW T lf nd s') false 0) :: (a, .cells (lgW T lf nd sT) false 0) :: (b, .cells (lgW 0 0 0 (.slice none 0 0)) false 0) :: (LT ++ F)))) := o15
      have s15 : stB 2 (.agg ⟨[.int .u64 (K[j].1 : Int), v]⟩) h14 (some ⟨t14, 0, none⟩) = some (h14.put t14 (.cells [.int .u64 (K[j].1 : Int), v] false 0)) := s15
      generalize hh15 : h14.put t14 (.cells [.int .u64 (K[j].1 : Int), v] false 0) = h15 at o15 s15
      have ow15 : Own h15 ((w, .cells (lgW T lf nd s') false 0) :: (t14, .cells [.int .u64 (K[j].1 : Int), v] false 0) :: (L' ++ ((a, .cells (lgW T lf nd sT) false 0) :: (b, .cells (lgW 0 0 0 (.slice none 0 0)) false 0) :: (LT ++ F)))) := o15.to fun x => by simp only [cnt_append, cnt_cons]; omega
      obtain ⟨_, _, _, x16, _⟩ := lgW_ld (i := 0) ow15 t'.notT
      have x17 : ldT (.int .u64) h15 (some ⟨t14, 0, none⟩) = some (K[j].1 : Int) := by rw [ldT_of o15.head]; rfl
      have o19 := ow15.new (.cells [] false 33)
      generalize he19 : h15.next = e19 at o19
      generalize hh19 : h15.new (.cells [] false 33) = h19 at o19
      have od := o19.dropAll1
      have x20 : ldT .any (h19.dropAll [e19]) (some ⟨t14, 1, none⟩) = some v := by
        rw [ldT_of od.tail.head]; obtain ⟨x, k, rfl⟩ := y13.form; rfl
      have yE : Slc 33 (.slice (some ⟨e19, 0, some 0⟩) 0 0) 0 [] [(e19, .cells ([] ++ ([] ++ [])) false 33)] := .mk rfl rfl rfl
      have hls : ∀ x, x ∈ [t14, w] ↔ ∃ y ∈ [(t14, AObj.cells [.int .u64 (K[j].1 : Int), v] false 0), (w, AObj.cells (lgW T lf nd s') false 0)], y.1 = x := fun x => by simp [eq_comm]
      have hk2 := hK2 _ (List.getElem_mem hj)
      obtain ⟨v21, h21, A21, e21, y21, o22⟩ := yE.appH y13.sow (D := []) (l1 := []) (R := [(t14, .cells [.int .u64 (K[j].1 : Int), v] false 0), (w, .cells (lgW T lf nd s') false 0)]) (l2 := [t14, w]) (bytes := 40) (h := h19) (F := A2 ++ (L' ++ ((a, .cells (lgW T lf nd sT) false 0) :: (b, .cells (lgW 0 0 0 (.slice none 0 0)) false 0) :: F))) (o19.to fun x => by have := c13 x; simp only [cnt_append, cnt_cons, cnt_nil, List.append_nil]; omega) (fun r => by simp) hls (fun x hx => by
        rcases List.mem_cons.1 hx with rfl | hx
        · exact ⟨_, _, _, rfl⟩
        · rw [List.mem_singleton.1 hx]; exact ⟨_, _, _, rfl⟩) (by decide) (by omega)
      have e21 : appendK (hid h19 [] [t14, w]) 40 33 (.slice (some ⟨e19, 0, some 0⟩) 0 0) v = some (v21, h21) := e21
      generalize hh22 : h21.putBack h19 ([] ++ [t14, w]) = h22 at o22
      rw [List.nil_append] at hh22
      rw [Nat.zero_add, List.nil_append] at y21
      have o22 : Own h22 ((w, .cells (lgW T lf nd s') false 0) :: (t14, .cells [.int .u64 (K[j].1 : Int), v] false 0) :: (L' ++ (A21 ++ ((a, .cells (lgW T lf nd sT) false 0) :: (b, .cells (lgW 0 0 0 (.slice none 0 0)) false 0) :: (LT ++ F))))) := o22.to fun x => by have := c13 x; simp only [cnt_append, cnt_cons, cnt_nil]; omega
      have f23 : fillL [.int .u64 0, .slice none 0 0] [(0, 1, .int .u64 (K[j].1 : Int)), (1, 1, v21)] = some [.int .u64 (K[j].1 : Int), v21] := by obtain ⟨x, k, rfl⟩ := y21.form; rfl
      have f24 : fillL [.int .u64 0, .slice none 0 0] [(0, 2, .agg ⟨[.int .u64 (K[j].1 : Int), v21]⟩)] = some [.int .u64 (K[j].1 : Int), v21] := by obtain ⟨x, k, rfl⟩ := y21.form; rfl
      obtain ⟨s26, h26, L26, e26, t26, o26⟩ := t'.push (p := K[j].1) y21 (h := h22) (F := (w, .cells (lgW T lf nd s') false 0) :: (t14, .cells [.int .u64 (K[j].1 : Int), v] false 0) :: (a, .cells (lgW T lf nd sT) false 0) :: (b, .cells (lgW 0 0 0 (.slice none 0 0)) false 0) :: (LT ++ F)) (o22.to fun x => by simp only [cnt_append, cnt_cons]; omega) (by rw [List.length_take]; omega)
      obtain ⟨h27, s27, o27⟩ := lgW_st (v := s26) (i := 3) t26.cells t26.isC (by decide) (h := h26) (w := w) (m := T) (t := lf) (nd := nd) (sT := s') (F := L26 ++ ((t14, .cells [.int .u64 (K[j].1 : Int), v] false 0) :: (a, .cells (lgW T lf nd sT) false 0) :: (b, .cells (lgW 0 0 0 (.slice none 0 0)) false 0) :: (LT ++ F))) (o26.to fun x => by simp only [cnt_append, cnt_cons]; omega)
      have o27 : Own h27 ((w, .cells (lgW T lf nd s26) false 0) :: (L26 ++ ((t14, .cells [.int .u64 (K[j].1 : Int), v] false 0) :: (a, .cells (lgW T lf nd sT) false 0) :: (b, .cells (lgW 0 0 0 (.slice none 0 0)) false 0) :: (LT ++ F)))) := o27
      have o28 : Own h27 ((t14, .cells [.int .u64 (K[j].1 : Int), v] false 0) :: (L26 ++ ((w, .cells (lgW T lf nd s26) false 0) :: (a, .cells (lgW T lf nd sT) false 0) :: (b, .cells (lgW 0 0 0 (.slice none 0 0)) false 0) :: (LT ++ F)))) := o27.to fun x => by simp only [cnt_append, cnt_cons]; omega
      have htk : K.take (j + 1) = K.take j ++ [(K[j].1, K[j].2)] := by rw [List.take_append_getElem]
      refine .inl ⟨((((j + 1 : Nat) : Int), ()), h27), ?_, rfl, s26, L26, by rw [htk]; exact t26, o28.tail⟩
      have f18 : fillL ([] : List Value) [] = some [] := rfl
      simp only [f_w10_plain_L28, hlt, decide_true, cond_true, e12, l13, Option.bind_some, bnd_eq, nwA_eq, ht14, hh14, s15, hw, fa_mk, Nat.zero_add, x16, x17, f18, he19, hh19, x20, e21, List.nil_append, hh22, f23, f24, e26, s27, wrap_succ (show j < 4611686018427387904 by omega)])
    (fun c hc => by
      obtain ⟨⟨z, _⟩, h3⟩ := c
      obtain ⟨rfl, s', L', t', o3⟩ := hc
      have hlt : ¬ ((K.length : Nat) : Int) < (K.length : Int) := by omega
      rw [List.take_length] at t'
      refine ⟨((), h3), ?_, h3, rfl, s', L', t', o3⟩
      simp only [f_w10_plain_L28, hlt, decide_false, cond_false])
  have ow29 : Own h29 ((w, .cells (lgW T lf nd s') false 0) :: (b, .cells (lgW 0 0 0 (.slice none 0 0)) false 0) :: (a, .cells (lgW T lf nd sT) false 0) :: (L' ++ (LT ++ F))) := o29.to fun x => by simp only [cnt_append, cnt_cons]; omega
  obtain ⟨_, _, _, _, l30⟩ := lgW_ld (i := 0) ow29 t'.notT
  obtain ⟨h31, s31, o31⟩ := lgW_put (m' := T) (t' := lf) (a' := nd) (s' := s') t'.isC (h := h29) (w := b) (m := 0) (t := 0) (a := 0) (sT := .slice none 0 0) (F := (w, .cells (lgW T lf nd s') false 0) :: (a, .cells (lgW T lf nd sT) false 0) :: (L' ++ (LT ++ F))) (ow29.to fun x => by simp only [cnt_append, cnt_cons]; omega)
  obtain ⟨_, _, _, _, l32⟩ := lgW_ld (i := 0) o31 t'.notT
  refine ⟨h31, s', L', ?_, t', o31.tail.tail.tail⟩
  simp only [f_w10_plain, hco, lgW_cell hT.isC, cond_true, bnd_eq, hh0, hz4, hh1, nwA_eq, ha, hb, fa_mk, Nat.zero_add, x2, x3, x4, Option.bind_some, f5, hw, hh6, s7, x8, hT.len, e29, l30, s31, l32]
end
end Go.Proofs.YtdlfdieehioolaaDoor
/- ScanFinds, in plain Lean. -/
namespace Go.Proofs.YtdlfdieehioolaaDoor
open Go
set_option linter.unusedVariables false
set_option linter.unusedSimpArgs false
theorem awake10_ok {n : Nat} {h : Heap} (h0 : h.get 1 = some (.cells tab0.cells true 0)) (h1 : h.get 0 = some (.cells tab1.cells true 0)) : f_w10_awake n h = some ((true, ()), h) := by
  have h0 : hasTab h tab0 = true := hasTab_of h0
  have h1 : hasTab h tab1 = true := hasTab_of h1
  simp [f_w10_awake, yesTB, tabsL, h0, h1]
section
variable {n m a t p q w : Nat} {v sets lat sT : Value} {h : Heap} {F G A L LT R : Ch} {c c0 : Cf} {K : List (Nat × List Img)} {S : List Int} {seed : Int} {op fl : Bool} {recs : List Rc} {s : Sn} {p3 : ((Option Addr × Option Addr × Value × Bool × Unit) × Heap)} {p16 : ((Value × Int × Unit) × Heap)} {ds : List (List Int)} {ws : List (Int × List Int)}
structure Holds (c : Cf) (ds : List (List Int)) (ws : List (Int × List Int)) (recs : List Rc) : Prop where
  sh : Shows c ds ws recs
  by_ : Byts ds ws
  len : ws.length ≤ 1000
theorem lg_holds (ta : Tale c recs s) (hk : c.ok = true) (hll : -9223372036854775808 ≤ c.l ∧ c.l ≤ 9223372036854775807) : Holds c (dsN c) (wsO c recs) recs := by
  have hb := Cf.bounds hk hll
  have hlen := ta.len
  refine ⟨shows_told ta hk hll, ⟨(dsN_byt hk hll).d, fun w hw => ?_⟩, by rw [wsO, List.length_map]; omega⟩
  obtain ⟨j, hj, rfl⟩ := mem_wsO ta hw
  obtain ⟨_, h2, h3, h4, _⟩ := ta.ok j hj
  exact recB_byt (Rc.ck_wf h2 h3 h4)
theorem flush_holds (hl : Lg c p q recs s L) (hk : c.ok = true) (hll : -9223372036854775808 ≤ c.l ∧ c.l ≤ 9223372036854775807) (hp : p3.1.2.1 = some ⟨q, 0, none⟩) (ho : Own h (L ++ F)) (hn : 2000 ≤ n) :
    ∃ h' ds ws L' im la, f_w10_ScanFinds_C9 n fl p3 h = some (.inl ((), h')) ∧ Dk p ds ws L' ∧ Holds c ds ws recs ∧ Own h' ((q, .cells (lg p c 1 0 recs.length 0 im la) false 0) :: (L' ++ F)) := by
  obtain ⟨Lx, im, la, d, ta, rfl, hla, rfl⟩ := hl
  have hH := lg_holds ta hk hll
  cases fl with
  | false => exact ⟨h, _, _, Lx, _, la, by simp only [f_w10_ScanFinds_C9, cond_false], d, hH, ho⟩
  | true =>
    obtain ⟨h', L', e, d', o'⟩ := wflush_ok (n := n) d hH.len ho hn
    refine ⟨h', _, _, L', _, la, ?_, d', ⟨hH.sh.flush d.okd, hH.by_.ak (Nat.le_refl _), by simp⟩, o'⟩
    simp only [f_w10_ScanFinds_C9, cond_true, hp, e, Option.bind_some, f_w10_num, decide_true, Bool.not_true, cond_false]
theorem order_ok (hg : p16.2.next = w) {T lf nd : Nat} (hT : Tl sT K LT) (hinc : K.Pairwise (fun a b => a.1 < b.1)) (hK : K.length ≤ 1000) (ho : Own h ((w, .cells (lgW T lf nd sT) false 0) :: (LT ++ F))) (hn : 2000 ≤ n) :
    f_w10_ScanFinds_C32 n p16 h = some (.inl ((), h)) := by
  obtain ⟨_, _, _, l20, _⟩ := lgW_ld (i := 0) ho hT.notT
  obtain ⟨r, e, rfl⟩ := loopT_up (f := fun a => f_w10_ScanFinds_L31 n p16 K.length a.1.1 a.2)
    (fun j (b : (Int × Unit) × Heap) => b = (((j : Int), ()), h)) (fun r => r = .inl ((), h)) (N := K.length) (k := n) (j := 0) (a := ((0, ()), h)) (by omega) (by omega) rfl
    (fun j b hj hb => by
      subst hb
      have hlt : ((j : Nat) : Int) < (K.length : Int) := by omega
      refine .inl ⟨_, ?_, rfl⟩
      obtain ⟨q2, _, _, _, e2, x2, _, _, _, _⟩ := hT.at hj (h := h) (F := (w, .cells (lgW T lf nd sT) false 0) :: F) (ho.to fun x => by simp only [cnt_append, cnt_cons]; omega)
      cases j with
      | zero =>
        have h0 : ¬ (0 : Int) < ((0 : Nat) : Int) := by omega
        simp only [f_w10_ScanFinds_L31, hlt, decide_true, cond_true, h0, decide_false, cond_false, Option.bind_some, wrap_succ (show 0 < 4611686018427387904 by omega)]
      | succ j =>
        have h0 : (0 : Int) < ((j + 1 : Nat) : Int) := by omega
        have w0 : IntKind.i64.wrap (((j + 1 : Nat) : Int) - 1) = (j : Int) := by rw [wrap_i64 (by omega) (by omega)]; omega
        obtain ⟨q1, _, _, _, e1, x1, _, _, _, _⟩ := hT.at (j := j) (by omega) (h := h) (F := (w, .cells (lgW T lf nd sT) false 0) :: F) (ho.to fun x => by simp only [cnt_append, cnt_cons]; omega)
        have hp := List.pairwise_iff_getElem.1 hinc j (j + 1) (by omega) hj (by omega)
        have hle : ¬ (K[j + 1].1 : Int) ≤ (K[j].1 : Int) := by omega
        simp only [f_w10_ScanFinds_L31, hlt, decide_true, cond_true, h0, nwA_eq, hg, fa_mk, Nat.zero_add, l20, Option.bind_some, w0, e1, x1, e2, x2, hle, decide_false, cond_false, wrap_succ (show j + 1 < 4611686018427387904 by omega)])
    (fun b hb => by
      subst hb
      have hlt : ¬ ((K.length : Nat) : Int) < (K.length : Int) := by omega
      refine ⟨_, ?_, rfl⟩
      simp only [f_w10_ScanFinds_L31, hlt, decide_false, cond_false])
  simp only [f_w10_ScanFinds_C32, nwA_eq, hg, fa_mk, Nat.zero_add, l20, Option.bind_some, hT.len, e]
theorem scanFinds_ok (hS : S.length + 2 < n) (hS2 : S.length ≤ 4611686018427387903) (hs : Sow 1 sets S.length (iz .u16 S) G) (hsc : isCell sets = true) (hlc : isCell lat = true) (hm0 : tabO ∈ G) (hm1 : tabP ∈ G) (hn : 5000 ≤ n) (ho : Own h (G ++ F)) :
    ∃ h', f_w10_ScanFinds n (.agg ⟨sto c0 sets seed op lat⟩) fl h = some ((true, ()), h') := by
  have hk := cn_ok (c := c0)
  have hll := cn_l (c := c0)
  obtain ⟨⟨k1, k2⟩, ⟨k3, k4⟩, ⟨k5, k6, k7⟩, _⟩ := cn_b (c := c0)
  have hco : cellsOf (.agg ⟨sto c0 sets seed op lat⟩) = sto c0 sets seed op lat := rfl
  have hall : (sto c0 sets seed op lat).all isCell = true := by simp [sto, Cf.cells, hsc, hlc]
  have hz4 : ([(.int .u64 0), (.int .u64 0), (.int .u64 0), (.slice none 0 0)] : List Value) = lgW 0 0 0 (.slice none 0 0) := rfl
  have hz5 : (List.replicate 5 (.int .i64 0) : List Value) = (⟨0, 0, 0, 0, 0⟩ : Cf).cells := rfl
  have o0 := ho.new (.cells (sto c0 sets seed op lat) false 0)
  generalize ha : h.next = a at o0
  generalize hh0 : h.new (.cells (sto c0 sets seed op lat) false 0) = h0 at o0
  have aw := awake10_ok (n := n) (o0.get tabO (by simp [hm0])) (o0.get tabP (by simp [hm1]))
  have l2 : ldA 9 h0 (some ⟨a, 0, none⟩) = some (sto c0 sets seed op lat) := by rw [ldA_of o0.head (by simp [sto, Cf.cells])]; rfl
  obtain ⟨p, q, s, h3, recs, sT, L, LT, e3, hl, hT, o3⟩ := told_ok (n := n) (c0 := c0) (seed := seed) (op := op) (lat := lat) (h := h0) hS hS2 hs hsc hlc (F := (a, .cells (sto c0 sets seed op lat) false 0) :: F) (by simp [hm0]) (by simp [hm1]) hn (o0.to fun x => by simp only [cnt_append, cnt_cons]; omega)
  have ta := lg_tale hl
  have o4 := o3.new (.cells (lgW 0 0 0 (.slice none 0 0)) false 0)
  generalize hw : h3.next = w at o4
  generalize hh4 : h3.new (.cells (lgW 0 0 0 (.slice none 0 0)) false 0) = h4 at o4
  obtain ⟨h5, s5, o5⟩ := lgW_put (m' := 0) (t' := 1) (a' := s.nd) (s' := sT) hT.isC o4
  obtain ⟨h10, ds, ws, L', im, la, e10, d10, hH, o10⟩ := flush_holds (n := n) (fl := fl) (p3 := ((some ⟨p, 0, none⟩, (some ⟨q, 0, none⟩, (.agg ⟨lgW 0 1 s.nd sT⟩, (true, ())))), h3)) hl hk hll rfl (h := h5) (F := (w, .cells (lgW 0 1 s.nd sT) false 0) :: (LT ++ (G ++ ((a, .cells (sto c0 sets seed op lat) false 0) :: F)))) (o5.to fun x => by simp only [cnt_append, cnt_cons]; omega) (by omega)
  have oa10 : Own h10 ((a, .cells (sto c0 sets seed op lat) false 0) :: (w, .cells (lgW 0 1 s.nd sT) false 0) :: (q, .cells (lg p (cn c0) 1 0 recs.length 0 im la) false 0) :: (L' ++ (LT ++ (G ++ F)))) := o10.to fun x => by simp only [cnt_append, cnt_cons]; omega
  have l11 : ldA 5 h10 (some ⟨a, 0, none⟩) = some c0.cells := by rw [ldA_of oa10.head (by simp [sto, Cf.cells])]; rfl
  obtain ⟨h12, e12, o12⟩ := conf_ok (n := n) (c := c0) oa10
  have o13 := o12.new (.cells (⟨0, 0, 0, 0, 0⟩ : Cf).cells false 0)
  generalize ht : h12.next = t at o13
  generalize hh13 : h12.new (.cells (⟨0, 0, 0, 0, 0⟩ : Cf).cells false 0) = h13 at o13
  obtain ⟨h14, s14, o14⟩ := cf_tmp (c := cn c0) o13
  have l15 := cf_all o14
  have hsc' : scanF (cn c0) (fun k => rdz ds ws (at_ (cn c0) k)) (cn c0).l.toNat 0 ⟨[], [], 0⟩ = s := by
    have hlen := ta.len
    refine ta.scan (by omega) (fun j hj => hH.sh.rd j hj) (fun hl => hH.sh.past _ (Nat.le_refl _) (by omega))
  obtain ⟨h16, sG, LG, e16, tG, o16⟩ := read_ok (n := n) d10 hH.by_ hH.len hH.sh.sup hH.sh.len hk hll (h := h14) (F := (t, .cells (cn c0).cells false 0) :: (w, .cells (lgW 0 1 s.nd sT) false 0) :: (q, .cells (lg p (cn c0) 1 0 recs.length 0 im la) false 0) :: (a, .cells (sto c0 sets seed op lat) false 0) :: (LT ++ (G ++ F))) (by simp [hm0]) (by simp [hm1]) (o14.to fun x => by simp only [cnt_append, cnt_cons]; omega) (by omega) hsc'
  have o17 := o16.new (.cells (lgW 0 0 0 (.slice none 0 0)) false 0)
  generalize hg : h16.next = g at o17
  generalize hh17 : h16.new (.cells (lgW 0 0 0 (.slice none 0 0)) false 0) = h17 at o17
  obtain ⟨h18, s18, o18⟩ := lgW_put (m' := 0) (t' := 1) (a' := s.nd) (s' := sG) tG.isC o17
  have htl := ta.tlen
  have hrl := ta.len
  have hK : s.txs.length ≤ 1000 := by omega
  have hK2 : ∀ t ∈ s.txs, t.2.length ≤ 1000 := fun t ht => by have := ta.il t ht; omega
  have e33 := order_ok (n := n) (p16 := ((.agg ⟨lgW 0 1 s.nd sG⟩, (0, ())), h16)) hg tG ta.inc hK (h := h18) o18 (by omega)
  obtain ⟨x41, _, x40, x43, l35⟩ := lgW_ld (i := 0) o18 tG.notT
  have ow18 : Own h18 ((w, .cells (lgW 0 1 s.nd sT) false 0) :: (g, .cells (lgW 0 1 s.nd sG) false 0) :: (t, .cells (cn c0).cells false 0) :: (LG ++ (LT ++ (L' ++ ((q, .cells (lg p (cn c0) 1 0 recs.length 0 im la) false 0) :: (a, .cells (sto c0 sets seed op lat) false 0) :: (G ++ F)))))) := o18.to fun x => by simp only [cnt_append, cnt_cons]; omega
  obtain ⟨_, _, _, _, l36⟩ := lgW_ld (i := 0) ow18 hT.notT
  have o36 := ow18.ro
  obtain ⟨h37, sP, LP, e37, tP, o37⟩ := splain_ok (n := n) (T := 0) (lf := 1) (nd := s.nd) tG hK hK2 (h := hid h18 [] [w]) (F := (w, .cells (lgW 0 1 s.nd sT) true 0) :: (g, .cells (lgW 0 1 s.nd sG) false 0) :: (t, .cells (cn c0).cells false 0) :: (LT ++ (L' ++ ((q, .cells (lg p (cn c0) 1 0 recs.length 0 im la) false 0) :: (a, .cells (sto c0 sets seed op lat) false 0) :: (G ++ F))))) (o36.to fun x => by simp only [cnt_append, cnt_cons]; omega) (by omega)
  have o38 := Own.back (h0 := h18) (r := w) (cs := lgW 0 1 s.nd sT) (ro := false) (es := 0) (h := h37) (X := LP ++ (LG ++ (LT ++ ((g, .cells (lgW 0 1 s.nd sG) false 0) :: (t, .cells (cn c0).cells false 0) :: (L' ++ ((q, .cells (lg p (cn c0) 1 0 recs.length 0 im la) false 0) :: (a, .cells (sto c0 sets seed op lat) false 0) :: (G ++ F))))))) (o37.to fun x => by simp only [cnt_append, cnt_cons]; omega) ow18.head
  generalize hh38 : h37.putBack h18 [w] = h38 at o38
  obtain ⟨h39, e39, o39⟩ := same_ok (n := n) (T := 0) (lf := 1) (nd := s.nd) tP hT ta.imgs hK hK2 (h := h38) (F := (w, .cells (lgW 0 1 s.nd sT) false 0) :: (LG ++ ((g, .cells (lgW 0 1 s.nd sG) false 0) :: (t, .cells (cn c0).cells false 0) :: (L' ++ ((q, .cells (lg p (cn c0) 1 0 recs.length 0 im la) false 0) :: (a, .cells (sto c0 sets seed op lat) false 0) :: (G ++ F)))))) (o38.to fun x => by simp only [cnt_append, cnt_cons]; omega) (by omega)
  have og39 : Own h39 ((g, .cells (lgW 0 1 s.nd sG) false 0) :: (t, .cells (cn c0).cells false 0) :: (LP ++ (LT ++ ((w, .cells (lgW 0 1 s.nd sT) false 0) :: (LG ++ (L' ++ ((q, .cells (lg p (cn c0) 1 0 recs.length 0 im la) false 0) :: (a, .cells (sto c0 sets seed op lat) false 0) :: (G ++ F)))))))) := o39.to fun x => by simp only [cnt_append, cnt_cons]; omega
  obtain ⟨x41, _, x40, x43, _⟩ := lgW_ld (i := 0) og39 tG.notT
  obtain ⟨_, x42, _⟩ := Cf.ld' og39.tail.head
  have hnd := ta.nd
  have w42 : IntKind.u64.wrap ((0 : Nat) + IntKind.u64.wrap (cn c0).l) = (cn c0).l := by rw [wrap_u64z (x := (cn c0).l) (by omega) (by omega), wrap_u64z (by omega) (by omega)]; omega
  have c1 : ((s.nd : Nat) : Int) ≤ (cn c0).l := by omega
  have c2 : ((s.txs.length : Nat) : Int) ≤ (cn c0).l := by omega
  refine ⟨h39, ?_⟩
  simp only [f_w10_ScanFinds, hco, hall, cond_true, bnd_eq, hh0, aw, Option.bind_some, Bool.not_true, cond_false, nwA_eq, ha, l2, e3, hw, hz4, hh4, s5, e10, thenB_inl, fa_mk, Nat.zero_add, l11, e12, ht, hz5, hh13, s14, l15, e16, hg, hh17, s18, e33, f_w10_num, decide_true, l35, l36, e37, List.nil_append, hh38, e39, x40, x41, x42, w42, c1, x43, tG.len, c2]
end
end Go.Proofs.YtdlfdieehioolaaDoor
