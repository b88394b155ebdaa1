/- Disks: writes of one byte, 64 times. -/
import Derived.Test.YtempahfiiofjkaaSk1
namespace Go.Proofs.Ytempahfiiofjkaa
open Go
set_option linter.unusedVariables false
set_option linter.unusedSimpArgs false

def m8 (x : Int) : Int := Int.tmod (IntKind.i64.wrap (Int.tmod x 8 + 8)) 8
theorem m8_range (x : Int) : 0 ≤ m8 x ∧ m8 x < 8 := by
  have h1 : Int.tmod x 8 < 8 := Int.tmod_lt_of_pos x (by decide)
  have h2 : -8 < Int.tmod x 8 := by
    have := Int.tmod_lt_of_pos (-x) (show (0 : Int) < 8 by decide)
    rw [Int.neg_tmod] at this; omega
  rw [m8, wrap_i64 (by omega) (by omega)]
  exact ⟨Int.tmod_nonneg _ (by omega), Int.tmod_lt_of_pos _ (by decide)⟩
/-- The byte of a write. -/
def fl (i : Nat) : Int := IntKind.u8.wrap (IntKind.i64.wrap ((i : Int) + 1))
def wsOf (X : List Int) : List (Int × List Int) := X.mapIdx fun i x => (m8 x, List.replicate 64 (fl i))
@[simp] theorem wsOf_len {X : List Int} : (wsOf X).length = X.length := by simp [wsOf]
theorem wsOf_at {X : List Int} {i : Nat} (hi : i < X.length) : (wsOf X)[i]'(by simpa using hi) = (m8 X[i], List.replicate 64 (fl i)) := by simp [wsOf]

theorem set_fill {α : Type} {a b : α} {j m : Nat} : (List.replicate j a ++ List.replicate (m + 1) b).set j a = List.replicate (j + 1) a ++ List.replicate m b := by
  rw [List.set_append_right _ _ (by simp)]
  rw [List.length_replicate, Nat.sub_self, List.replicate_succ, List.set_cons_zero, List.replicate_succ', List.append_assoc]; rfl
theorem iz_set {k : IntKind} {L : List Int} {j : Nat} {z : Int} : (iz k L).set j (.int k z) = iz k (L.set j z) := by simp [iz, List.map_set]
theorem iz_rep {k : IntKind} {m : Nat} {z : Int} : iz k (List.replicate m z) = List.replicate m (.int k z) := by simp [iz]

section
variable {n p : Nat} {sp : Option Nat} {ds : List (List Int)} {ws : List (Int × List Int)} {L F G : Ch} {h : Heap} {i : Int} {s u : Value} {X : List Int}

theorem fil_ok {i b : Nat} {ob : AObj} (ho : Own h ((b, .cells (iz .u8 (List.replicate 64 0)) false 1) :: F)) (hn : 100 ≤ n) :
    ∃ h', loopT (fun a => f_wicketlaw04_put_L13 n (i : Int) (.slice (some ⟨b, 0, some 0⟩) 64 64, ob) 64 a.1.1 a.2) n (((0 : Int), ()), h) = some ((), h') ∧ Own h' ((b, .cells (iz .u8 (List.replicate 64 (fl i))) false 1) :: F) := by
  obtain ⟨⟨x, h'⟩, e, hq⟩ := loopT_up (f := fun a => f_wicketlaw04_put_L13 n (i : Int) (.slice (some ⟨b, 0, some 0⟩) 64 64, ob) 64 a.1.1 a.2)
    (fun j (a : (Int × Unit) × Heap) => a.1.1 = (j : Int) ∧ Own a.2 ((b, .cells (iz .u8 (List.replicate j (fl i) ++ List.replicate (64 - j) 0)) false 1) :: F))
    (fun r => Own r.2 ((b, .cells (iz .u8 (List.replicate 64 (fl i))) false 1) :: F)) (N := 64) (k := n) (j := 0) (a := ((0, ()), h)) (by omega) (by omega) ⟨rfl, by simpa using ho⟩
    (fun j a hj hi => by
      obtain ⟨⟨v, _⟩, h1⟩ := a
      obtain ⟨rfl, o⟩ := hi
      have o : Own h1 _ := o
      have hlt : (j : Int) < 64 := by omega
      have e2 : (List.replicate j (fl i) ++ List.replicate (64 - j) 0).set j (fl i) = List.replicate (j + 1) (fl i) ++ List.replicate (64 - (j + 1)) 0 := by
        rw [show 64 - j = (64 - (j + 1)) + 1 by omega, set_fill]
      refine .inl ⟨((((j + 1 : Nat) : Int), ()), h1.put b (.cells (iz .u8 (List.replicate (j + 1) (fl i) ++ List.replicate (64 - (j + 1)) 0)) false 1)), ?_, rfl, o.put (.cells (iz .u8 (List.replicate (j + 1) (fl i) ++ List.replicate (64 - (j + 1)) 0)) false 1)⟩
      have e1 : ixB 1 (.slice (some ⟨b, 0, some 0⟩) 64 64) (j : Int) = some ⟨b, 0 + j * 1, none⟩ := by
        show (bif Nat.blt j 64 then _ else none) = _
        rw [show Nat.blt j 64 = true from Nat.ble_eq_true_of_le hj]; rfl
      have e3 := stB1_of (sp := none) (o := 0 + j * 1) (v := .int .u8 (fl i)) o.head rfl rfl (by simp; omega)
      simp only [Nat.zero_add, Nat.mul_one] at e3 e1
      rw [iz_set, e2] at e3
      have e4 : IntKind.u8.wrap (IntKind.i64.wrap ((i : Int) + 1)) = fl i := rfl
      simp only [f_wicketlaw04_put_L13]
      simp [hlt, e1, e4, e3, wrap_succ (show j < 4611686018427387904 by omega)])
    (fun a hi => by
      obtain ⟨⟨v, _⟩, h1⟩ := a
      obtain ⟨rfl, o⟩ := hi
      exact ⟨((), h1), by simp [f_wicketlaw04_put_L13], by simpa using o⟩)
  exact ⟨h', e, hq⟩

theorem made64 {b : Nat} : mkSl b 1 1 [.int .u8 0] (.int .i64 64) (.int .i64 64) = some (.slice (some ⟨b, 0, some 0⟩) 64 64, .cells (iz .u8 (List.replicate 64 0)) false 1) := by
  have := mkSl_of (nx := b) (bytes := 1) (es := 1) (zs := [.int .u8 0]) (k := .i64) (k' := .i64) (l := 64) (c := 64) (by omega) (by omega) (by omega)
  exact this
theorem piece64 {b : Nat} {X : List Int} {spp : Option Nat} (hX : X.length = 64) : Sow 1 (.slice (some ⟨b, 0, spp⟩) 64 64) 64 (iz .u8 X) [(b, .cells (iz .u8 X) false 1)] := by
  have := Sow.piece (b := b) (off := 0) (n := 64) (c := 64) (sp := spp) (cs := iz .u8 X) (ro := false) (e := 1) (by simp [hX])
  rwa [List.drop_zero, List.take_of_length_le (by simp [hX])] at this

theorem put_ok (hd : Dk p ds ws L) (hu : Sow 1 u X.length (iz .i64 X) G) (ho : Own h (L ++ (G ++ F))) (h8 : ds.length = 8) (hX : X.length ≤ 30) (hlen : ws.length ≤ 100) (hn : 100 ≤ n) :
    ∃ h' L', f_wicketlaw04_put n (some ⟨p, 0, sp⟩) u h = some ((true, ()), h') ∧ Dk p ds (ws ++ wsOf X) L' ∧ Own h' (L' ++ (G ++ F)) := by
  obtain ⟨⟨x, h'⟩, e, hx, L', hq, hq2⟩ := loopT_up (f := fun a => f_wicketlaw04_put_L18 n u (some ⟨p, 0, sp⟩) X.length a.1.1 a.2)
    (fun j (a : (Int × Unit) × Heap) => a.1.1 = (j : Int) ∧ ∃ L', Dk p ds (ws ++ (wsOf X).take j) L' ∧ Own a.2 (L' ++ (G ++ F)))
    (fun r => r.1 = (true, ()) ∧ ∃ L', Dk p ds (ws ++ wsOf X) L' ∧ Own r.2 (L' ++ (G ++ F))) (N := X.length) (k := n) (j := 0) (a := ((0, ()), h)) (by omega) (by omega) ⟨rfl, L, by simpa using hd, ho⟩
    (fun j a hj hi => by
      obtain ⟨⟨v, _⟩, h1⟩ := a
      obtain ⟨rfl, L1, hd1, o1⟩ := hi
      have o1 : Own h1 (L1 ++ (G ++ F)) := o1
      have hlt : (j : Int) < (X.length : Int) := by omega
      obtain ⟨q, e1, e2⟩ := (hu.rds (h := h1) (F := L1 ++ F) (o1.to fun x => by simp only [cnt_append]; omega)).int hj
      have o2 := o1.new (.cells (iz .u8 (List.replicate 64 0)) false 1)
      generalize hb : h1.next = b at o2
      generalize hh : h1.new (.cells (iz .u8 (List.replicate 64 0)) false 1) = h2 at o2
      obtain ⟨h3, e3, o3⟩ := fil_ok (n := n) (i := j) (ob := .cells (iz .u8 (List.replicate 64 0)) false 1) o2 hn
      obtain ⟨h4, L4, e4, hd4, o4⟩ := write_ok (n := n) (sp := sp) (i := m8 X[j]) (X := List.replicate 64 (fl j)) (F := G ++ F) hd1 (piece64 (b := b) (spp := some 0) (by simp)) (o3.to fun x => by simp only [cnt_append, cnt_cons, cnt_nil]; omega) (m8_range _).1 (by rw [h8]; exact (m8_range _).2) (by simp; omega) ⟨_, _, _, rfl⟩
      refine .inl ⟨((((j + 1 : Nat) : Int), ()), h4), ?_, rfl, L4, ?_, o4.to fun x => by simp only [cnt_append, cnt_cons, cnt_nil]; omega⟩
      · have em : Int.tmod (IntKind.i64.wrap (Int.tmod X[j] 8 + 8)) 8 = m8 X[j] := rfl
        simp only [f_wicketlaw04_put_L18, f_wicketlaw04_put_C16]
        simp only [hlt, decide_true, cond_true, e1, e2, Option.bind_some, made64, bnd_eq, hh, hb, lenB_slice, e3, em, e4, Bool.not_true, cond_false, thenB_inl, wrap_succ (show j < 4611686018427387904 by omega)]
      · rw [take_snoc (by simpa using hj), wsOf_at hj, ← List.append_assoc]; exact hd4)
    (fun a hi => by
      obtain ⟨⟨v, _⟩, h1⟩ := a
      obtain ⟨rfl, L1, hd1, o1⟩ := hi
      rw [List.take_of_length_le (by simp)] at hd1
      exact ⟨((true, ()), h1), by simp [f_wicketlaw04_put_L18], rfl, L1, hd1, o1⟩)
  have hx : x = (true, ()) := hx
  subst hx
  have hl := (hu.rds (h := h) (F := L ++ F) (ho.to fun x => by simp only [cnt_append]; omega)).lenB
  exact ⟨h', L', by simp only [f_wicketlaw04_put, hl, Option.bind_some]; exact e, hq, hq2⟩
end
end Go.Proofs.Ytempahfiiofjkaa
