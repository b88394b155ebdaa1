/- TicketPlays: the pair, one step. -/
import Derived.Test.YtpcmjoghflllfaaTp4
namespace Go.Proofs.Ytpcmjoghflllfaa
open Go
set_option linter.unusedVariables false
set_option linter.unusedSimpArgs false

/-- A queue on both sides. -/
structure Sd where
  q : Nat
  r : Nat
  xs : List Int
  last : Int
/-- A kept iterator: whose, its box. -/
def kc (k : Nat × Nat) : List Value := [.int .i64 (k.1 : Int), Ty.val (.fn k_ticket_Queue_All_1 1) ((some ⟨k.2, 0, none⟩, ()) : Ptrs 1)]
def bxc (D : Nat → Sd) (K : List (Nat × Nat)) : Ch := K.map fun k => (k.2, .cells [.pointer (some ⟨(D k.1).q, 0, none⟩)] false 0)
def pcells (D : Nat → Sd) (ks : Value) : List Value := [.pointer (some ⟨(D 0).q, 0, none⟩), .pointer (some ⟨(D 1).q, 0, none⟩), .pointer (some ⟨(D 0).r, 0, none⟩), .pointer (some ⟨(D 1).r, 0, none⟩), ks]

/-- Rising, none above the greatest that has come. -/
def Rise (xs : List Int) (last : Int) : Prop := xs.Pairwise (· < ·) ∧ ∀ x ∈ xs, x ≤ last
theorem Rise.nodup {xs : List Int} {last : Int} (h : Rise xs last) : xs.Nodup := h.1.imp fun h => by omega

structure PS (D : Nat → Sd) (K : List (Nat × Nat)) (ks : Value) (Q0 R0 Q1 R1 A : Ch) (N : Nat) : Prop where
  q0 : Qx (D 0).q (D 0).xs (D 0).last Q0
  r0 : Qx (D 0).r (D 0).xs (D 0).last R0
  q1 : Qx (D 1).q (D 1).xs (D 1).last Q1
  r1 : Qx (D 1).r (D 1).xs (D 1).last R1
  ks : Slc 2 ks K.length (K.flatMap kc) A
  kw : ∀ k ∈ K, k.1 < 2
  rise : ∀ i, i < 2 → Rise (D i).xs (D i).last
  len : ∀ i, i < 2 → (D i).xs.length ≤ N
  klen : K.length ≤ N

/-- The pair at p. -/
def PSx (p : Nat) (D : Nat → Sd) (K : List (Nat × Nat)) (N : Nat) (L : Ch) : Prop := ∃ ks Q0 R0 Q1 R1 A, PS D K ks Q0 R0 Q1 R1 A N ∧ L = (p, .cells (pcells D ks) false 0) :: (Q0 ++ (R0 ++ (Q1 ++ (R1 ++ (A ++ bxc D K)))))

def upd (D : Nat → Sd) (w : Nat) (xs : List Int) (last : Int) : Nat → Sd := fun i => if i = w then { D w with xs := xs, last := last } else D i

section
variable {p N n : Nat} {D : Nat → Sd} {K : List (Nat × Nat)} {L F : Ch} {h : Heap}

/-- One side alone. -/
theorem PSx.side (hP : PSx p D K N L) (ho : Own h (L ++ F)) {w : Nat} (hw : w < 2) :
    ∃ ks Q R X, Qx (D w).q (D w).xs (D w).last Q ∧ Qx (D w).r (D w).xs (D w).last R ∧ Rise (D w).xs (D w).last ∧ (D w).xs.length ≤ N ∧
      Own h ((p, .cells (pcells D ks) false 0) :: (Q ++ (R ++ (X ++ F)))) ∧
      ∀ (h' : Heap) (Q' R' : Ch) (xs : List Int) (last : Int), Qx (D w).q xs last Q' → Qx (D w).r xs last R' → Rise xs last → xs.length ≤ N + 1 → Own h' ((p, .cells (pcells D ks) false 0) :: (Q' ++ (R' ++ (X ++ F)))) →
        ∃ L', PSx p (upd D w xs last) K (N + 1) L' ∧ Own h' (L' ++ F) := by
  obtain ⟨ks, Q0, R0, Q1, R1, A, hs, rfl⟩ := hP
  have hb : ∀ xs last, bxc (upd D w xs last) K = bxc D K := by
    intro xs last
    unfold bxc
    refine List.map_congr_left fun k _ => ?_
    simp only [upd]; split <;> simp_all
  have hpc : ∀ xs last, pcells (upd D w xs last) ks = pcells D ks := by
    intro xs last
    simp only [pcells, upd]
    have : w = 0 ∨ w = 1 := by omega
    rcases this with rfl | rfl <;> simp
  have new : ∀ {Q0' R0' Q1' R1' xs last}, Qx (D 0).q (upd D w xs last 0).xs (upd D w xs last 0).last Q0' → Qx (D 0).r (upd D w xs last 0).xs (upd D w xs last 0).last R0' →
      Qx (D 1).q (upd D w xs last 1).xs (upd D w xs last 1).last Q1' → Qx (D 1).r (upd D w xs last 1).xs (upd D w xs last 1).last R1' → Rise xs last → xs.length ≤ N + 1 → PS (upd D w xs last) K ks Q0' R0' Q1' R1' A (N + 1) := by
    intro Q0' R0' Q1' R1' xs last a b c d e f
    have q0 : (upd D w xs last 0).q = (D 0).q := by simp only [upd]; split <;> simp_all
    have r0 : (upd D w xs last 0).r = (D 0).r := by simp only [upd]; split <;> simp_all
    have q1 : (upd D w xs last 1).q = (D 1).q := by simp only [upd]; split <;> simp_all
    have r1 : (upd D w xs last 1).r = (D 1).r := by simp only [upd]; split <;> simp_all
    refine ⟨q0 ▸ a, r0 ▸ b, q1 ▸ c, r1 ▸ d, hs.ks, hs.kw, fun i hi => ?_, fun i hi => ?_, Nat.le_succ_of_le hs.klen⟩
    · by_cases hiw : i = w
      · simp only [upd, hiw, if_true]; exact e
      · simp only [upd, hiw, if_false]; exact hs.rise i hi
    · by_cases hiw : i = w
      · simp only [upd, hiw, if_true]; exact f
      · simp only [upd, hiw, if_false]; exact Nat.le_succ_of_le (hs.len i hi)
  have : w = 0 ∨ w = 1 := by omega
  rcases this with rfl | rfl
  · refine ⟨ks, Q0, R0, Q1 ++ (R1 ++ (A ++ bxc D K)), hs.q0, hs.r0, hs.rise 0 (by omega), hs.len 0 (by omega), ho.to fun x => by simp only [cnt_append, cnt_cons, cnt_nil, List.cons_append]; omega, ?_⟩
    intro h' Q' R' xs last a b e f o
    refine ⟨_, ⟨ks, Q', R', Q1, R1, A, new a b hs.q1 hs.r1 e f, rfl⟩, ?_⟩
    rw [hb, hpc]
    exact o.to fun x => by simp only [cnt_append, cnt_cons, cnt_nil, List.cons_append]; omega
  · refine ⟨ks, Q1, R1, Q0 ++ (R0 ++ (A ++ bxc D K)), hs.q1, hs.r1, hs.rise 1 (by omega), hs.len 1 (by omega), ho.to fun x => by simp only [cnt_append, cnt_cons, cnt_nil, List.cons_append]; omega, ?_⟩
    intro h' Q' R' xs last a b e f o
    refine ⟨_, ⟨ks, Q0, R0, Q', R', A, new hs.q0 hs.r0 a b e f, rfl⟩, ?_⟩
    rw [hb, hpc]
    exact o.to fun x => by simp only [cnt_append, cnt_cons, cnt_nil, List.cons_append]; omega
end

theorem pget_q {D : Nat → Sd} {ks : Value} {w : Nat} (hw : w < 2) : (pcells D ks)[w]? = some (.pointer (some ⟨(D w).q, 0, none⟩)) := by
  have : w = 0 ∨ w = 1 := by omega
  rcases this with rfl | rfl <;> rfl
theorem pget_r {D : Nat → Sd} {ks : Value} {w : Nat} (hw : w < 2) : (pcells D ks)[2 + w]? = some (.pointer (some ⟨(D w).r, 0, none⟩)) := by
  have : w = 0 ∨ w = 1 := by omega
  rcases this with rfl | rfl <;> rfl
theorem ixA_of {n es b o : Nat} {sp : Option Nat} {j : Nat} (hj : j < n) : ixA n es (some ⟨b, o, sp⟩) (j : Int) = some ⟨b, o + j * es, none⟩ := by
  show (bif Nat.blt j n then _ else none) = _
  rw [show Nat.blt j n = true from Nat.ble_eq_true_of_le hj]; rfl
theorem side_of (x : Int) : ∃ w : Nat, w < 2 ∧ Int.tmod (IntKind.i64.wrap (Int.tmod x 2 + 2)) 2 = (w : Int) := by
  have g1 := Int.tmod_lt_of_pos x (b := 2) (by omega)
  have g2 := Int.lt_tmod_of_pos x (b := 2) (by omega)
  rw [wrap_i64 (by omega) (by omega)]
  have g3 := Int.tmod_lt_of_pos (x.tmod 2 + 2) (b := 2) (by omega)
  have g4 := Int.tmod_nonneg (a := x.tmod 2 + 2) 2 (by omega)
  exact ⟨((x.tmod 2 + 2).tmod 2).toNat, by omega, by omega⟩

theorem Rise.erase {xs : List Int} {last t : Int} (h : Rise xs last) : Rise (xs.erase t) last := ⟨h.1.sublist List.erase_sublist, fun x hx => h.2 x (List.mem_of_mem_erase hx)⟩
theorem Rise.tail {xs : List Int} {last : Int} (h : Rise xs last) : Rise xs.tail last := ⟨h.1.sublist (List.tail_sublist _), fun x hx => h.2 x (List.mem_of_mem_tail hx)⟩
theorem Rise.put {xs : List Int} {last t : Int} (h : Rise xs last) (ht : ¬ t ≤ last) : Rise (xs ++ [t]) t := by
  refine ⟨?_, fun x hx => ?_⟩
  · rw [List.pairwise_append]
    refine ⟨h.1, by simp, fun a ha b hb => ?_⟩
    simp only [List.mem_singleton] at hb
    have := h.2 a ha; omega
  · rcases List.mem_append.1 hx with hx | hx
    · have := h.2 x hx; omega
    · simp only [List.mem_singleton] at hx; omega
end Go.Proofs.Ytpcmjoghflllfaa
