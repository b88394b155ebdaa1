/- Ticket queues: the iterator and what uses it. -/
import Derived.Test.YtpcmjoghflllfaaTp1
namespace Go.Proofs.Ytpcmjoghflllfaa
open Go
set_option linter.unusedVariables false
set_option linter.unusedSimpArgs false

section
variable {n q : Nat} {sp : Option Nat} {xs : List Int} {last t : Int} {L F : Ch} {h : Heap}

/-- What is seen of a queue behind a box. -/
def SeenQ (h : Heap) (bx : Nat) (s : Value) (xs : List Int) : Prop := ∃ q, ldT .ptr h (some ⟨bx, 0, none⟩) = some (some ⟨q, 0, none⟩) ∧ ldT .any h (some ⟨q, 0, none⟩) = some s ∧ Rds h 1 s xs.length (iz .u64 xs)
theorem Qx.seen {bx : Nat} (hq : Qx q xs last L) (ho : Own h ((bx, .cells [.pointer (some ⟨q, 0, none⟩)] false 0) :: (L ++ F))) : ∃ s, (∃ A, L = (q, .cells [s, .int .u64 last] false 0) :: A) ∧ SeenQ h bx s xs := by
  obtain ⟨s, A, hs, rfl⟩ := hq
  have ho2 : Own h ((q, .cells [s, .int .u64 last] false 0) :: (A ++ F)) := ho.tail
  exact ⟨s, ⟨A, rfl⟩, q, by simp [ldT_of ho.head], by simp [ldT_of ho2.head], hs.rds (F := F) ho2.tail⟩

/-- The iterator. -/
theorem all1_ok {V : Type} {hp : V → Heap} {up : V → Heap → V} {y : (Int × Unit) → V → Option (Bool × V)} {bx : Nat} {s : Value} {w : V} (J : Nat → V → Prop) (Q : V → Prop) (hn : xs.length < n) (hlen : xs.length ≤ 1000) (h0 : J 0 w)
    (seen : ∀ i v, J i v → SeenQ (hp v) bx s xs) (step : ∀ i v (hi : i < xs.length), J i v → ∃ b v', y (xs[i], ()) v = some (b, v') ∧ (b = true → J (i + 1) v') ∧ (b = false → Q v')) :
    ∃ w', f_ticket_Queue_All_1 hp up y n (some ⟨bx, 0, none⟩) w = some w' ∧ (J xs.length w' ∨ Q w') := by
  obtain ⟨q, e1, e2, e3⟩ := seen 0 w h0
  obtain ⟨r, e4, e5⟩ := loopT_up (f := fun a : (Int × Unit) × V => f_ticket_Queue_All_1_L10 hp up y n s xs.length a.1.1 a.2) (I := fun j a => a.1.1 = (j : Int) ∧ J j a.2) (Q := fun w' => J xs.length w' ∨ Q w') (N := xs.length) (k := n) (j := 0) (a := ((0, ()), w)) (by omega) (Nat.zero_le _) ⟨rfl, h0⟩ (by
      rintro j ⟨⟨z, _⟩, v⟩ hj ⟨rfl, hJ⟩
      obtain ⟨_, _, _, e3⟩ := seen j v hJ
      obtain ⟨p, e4, e5⟩ := e3.int hj
      obtain ⟨b, v', e6, h1, h2⟩ := step j v hj hJ
      have hw : IntKind.i64.wrap ((j : Int) + 1) = ((j + 1 : Nat) : Int) := wrap_succ (by omega)
      cases b with
      | true => exact .inl ⟨((((j + 1 : Nat) : Int), ()), v'), by simp [f_ticket_Queue_All_1_L10, hj, e4, e5, e6, hw], rfl, h1 rfl⟩
      | false => exact .inr ⟨v', by simp [f_ticket_Queue_All_1_L10, hj, e4, e5, e6], .inr (h2 rfl)⟩) (by
      rintro ⟨⟨z, _⟩, v⟩ ⟨rfl, hJ⟩
      exact ⟨v, by simp [f_ticket_Queue_All_1_L10], .inl hJ⟩)
  exact ⟨r, by simp [f_ticket_Queue_All_1, e1, e2, e3.lenB, e4], e5⟩

/-- Where a ticket stands; -1: nowhere. -/
def plc (t : Int) : List Int → Int → Int
  | [], _ => -1
  | x :: xs, i => if x = t then i else plc t xs (i + 1)
theorem plc_none {t : Int} : ∀ {xs : List Int} {i : Int}, t ∉ xs → plc t xs i = -1 := by
  intro xs
  induction xs with
  | nil => intro i _; rfl
  | cons x xs ih =>
    intro i h
    simp only [List.mem_cons, not_or] at h
    simp only [plc]
    rw [if_neg fun e => h.1 e.symm]; exact ih h.2
theorem plc_at {t : Int} : ∀ {xs : List Int} {i : Int} {j : Nat} (hj : j < xs.length), xs[j] = t → t ∉ xs.take j → plc t xs i = i + j := by
  intro xs
  induction xs with
  | nil => intro i j hj; simp at hj
  | cons x xs ih =>
    intro i j hj h1 h2
    cases j with
    | zero => simp only [List.getElem_cons_zero] at h1; simp [plc, h1]
    | succ j =>
      simp only [List.take_succ_cons, List.mem_cons, not_or] at h2
      simp only [plc]
      rw [if_neg fun e => h2.1 e.symm, ih (i := i + 1) (by simpa using hj) (by simpa using h1) h2.2]
      omega

theorem qall_ok (ho : Own h F) : f_ticket_Queue_All n (some ⟨q, 0, none⟩) h = some ((((some ⟨h.next, 0, none⟩, ()) : Ptrs 1), ()), h.new (.cells [.pointer (some ⟨q, 0, none⟩)] false 0)) ∧ Own (h.new (.cells [.pointer (some ⟨q, 0, none⟩)] false 0)) ((h.next, .cells [.pointer (some ⟨q, 0, none⟩)] false 0) :: F) :=
  ⟨by simp [f_ticket_Queue_All], ho.new _⟩

theorem place_ok (hq : Qx q xs last L) (ho : Own h (L ++ F)) (hlen : xs.length ≤ 1000) (hn : 2000 ≤ n) : ∃ h', f_ticket_Queue_Place n (some ⟨q, 0, none⟩) t h = some ((plc t xs 0, ()), h') ∧ Own h' (L ++ F) := by
  have o1 := ho.new (.cells [.int .u64 t] false 0)
  have o2 := o1.new (.cells [.int .i64 0] false 0)
  have o3 := o2.new (.cells [.int .i64 0] false 0)
  generalize hb0 : h.next = b0 at o1 o2 o3
  generalize hh0 : h.new (.cells [.int .u64 t] false 0) = h0 at o1 o2 o3
  generalize hb1 : h0.next = b1 at o2 o3
  generalize hh1 : h0.new (.cells [.int .i64 0] false 0) = h1 at o2 o3
  generalize hb2 : h1.next = b2 at o3
  generalize hh2 : h1.new (.cells [.int .i64 0] false 0) = h2 at o3
  have o5 := o3.put (.cells [.int .i64 0] false 0)
  generalize hh3 : h2.put b2 (.cells [.int .i64 0] false 0) = h3 at o5
  obtain ⟨e6, o6⟩ := qall_ok (n := n) (q := q) o5
  generalize hbx : h3.next = bx at e6 o6
  generalize hh4 : h3.new (.cells [.pointer (some ⟨q, 0, none⟩)] false 0) = h4 at e6 o6
  obtain ⟨s, ⟨A, hL⟩, seen0⟩ := hq.seen (bx := bx) (h := h4) (F := (b2, .cells [.int .i64 0] false 0) :: (b1, .cells [.int .i64 0] false 0) :: (b0, .cells [.int .u64 t] false 0) :: F) (o6.to fun x => by simp only [cnt_append, cnt_cons, cnt_nil]; omega)
  have seenW : ∀ {hh : Heap} {X : Ch}, Own hh ((bx, .cells [.pointer (some ⟨q, 0, none⟩)] false 0) :: (L ++ X)) → SeenQ hh bx s xs := by
    intro hh X o
    obtain ⟨s', ⟨A', hL'⟩, hseen⟩ := hq.seen o
    rw [hL] at hL'
    simp only [List.cons.injEq, Prod.mk.injEq, AObj.cells.injEq, true_and, and_true] at hL'
    rw [hL'.1]; exact hseen
  let Own' (hh : Heap) (r i : Int) : Prop := Own hh ((bx, .cells [.pointer (some ⟨q, 0, none⟩)] false 0) :: (b1, .cells [.int .i64 r] false 0) :: (b2, .cells [.int .i64 i] false 0) :: (b0, .cells [.int .u64 t] false 0) :: (L ++ F))
  obtain ⟨⟨h5, p⟩, e7, h7⟩ := all1_ok (xs := xs) (n := n) (bx := bx) (s := s) (hp := fun v : Heap × Nat => v.1) (up := fun v h => (h, v.2)) (y := fun a v => f_ticket_Queue_Place_B12 n h h0 h1 a.1 v) (w := (h4.hole.hole, 0))
    (J := fun i v => v.2 = 0 ∧ t ∉ xs.take i ∧ Own' v.1 0 (i : Int)) (Q := fun v => v.2 = 1 ∧ Own v.1 ((b1, .cells [.int .i64 (plc t xs 0)] false 0) :: (L ++ F))) (by omega) hlen ⟨rfl, by simp, (o6.hole.hole.to fun x => by simp only [cnt_append, cnt_cons, cnt_nil]; omega : Own h4.hole.hole ((bx, .cells [.pointer (some ⟨q, 0, none⟩)] false 0) :: (b1, .cells [.int .i64 0] false 0) :: (b2, .cells [.int .i64 0] false 0) :: (b0, .cells [.int .u64 t] false 0) :: (L ++ F)))⟩
    (fun i v hJ => seenW (X := (b1, .cells [.int .i64 0] false 0) :: (b2, .cells [.int .i64 (i : Int)] false 0) :: (b0, .cells [.int .u64 t] false 0) :: F) (hJ.2.2.to fun x => by simp only [cnt_append, cnt_cons, cnt_nil]; omega)) (by
      rintro i ⟨hh, p⟩ hi ⟨rfl, hnot, ow⟩
      have ow : Own hh ((bx, .cells [.pointer (some ⟨q, 0, none⟩)] false 0) :: (b1, .cells [.int .i64 0] false 0) :: (b2, .cells [.int .i64 (i : Int)] false 0) :: (b0, .cells [.int .u64 t] false 0) :: (L ++ F)) := ow
      have g0 : hh.get b0 = some (.cells [.int .u64 t] false 0) := ow.get (b0, _) (by simp)
      have g2 : hh.get b2 = some (.cells [.int .i64 (i : Int)] false 0) := ow.get (b2, _) (by simp)
      have o1 : Own hh ((b1, .cells [.int .i64 0] false 0) :: (L ++ F)) := ow.to fun x => by simp only [cnt_append, cnt_cons, cnt_nil]; omega
      have o2 : Own hh ((b2, .cells [.int .i64 (i : Int)] false 0) :: (bx, .cells [.pointer (some ⟨q, 0, none⟩)] false 0) :: (b1, .cells [.int .i64 0] false 0) :: (b0, .cells [.int .u64 t] false 0) :: (L ++ F)) := ow.to fun x => by simp only [cnt_append, cnt_cons, cnt_nil]; omega
      by_cases hx : xs[i] = t
      · have hp : plc t xs 0 = (i : Int) := by rw [plc_at hi hx hnot]; omega
        refine ⟨false, (hh.put b1 (.cells [.int .i64 (i : Int)] false 0), 1), ?_, (fun h => by cases h), fun _ => ⟨rfl, ?_⟩⟩
        · simp [f_ticket_Queue_Place_B12, hb0, hb1, hb2, ldT_of g0, ldT_of g2, hx, stB_of o1.head, writeAt]
        · rw [hp]; exact o1.put _
      · refine ⟨true, (hh.put b2 (.cells [.int .i64 ((i + 1 : Nat) : Int)] false 0), 0), ?_, fun _ => ⟨rfl, ?_, (o2.put (.cells [.int .i64 ((i + 1 : Nat) : Int)] false 0)).to fun x => by simp only [cnt_append, cnt_cons, cnt_nil]; omega⟩, (fun h => by cases h)⟩
        · have hw := wrap_succ (j := i) (by omega)
          simp only [f_ticket_Queue_Place_B12, nwA_eq, hb0, hb1, hb2]
          simp [ldT_of g0, ldT_of g2, hx, hw, stB_of o2.head, writeAt]
        · rw [List.take_add_one, List.getElem?_eq_getElem hi]
          simp only [Option.toList_some, List.mem_append, List.mem_singleton, not_or]
          exact ⟨hnot, fun e => hx e.symm⟩)
  have est : stB 1 (.int .i64 0) h2 (some ⟨b2, 0, none⟩) = some h3 := by simp [stB_of o3.head, writeAt, hh3]
  have e7' : f_ticket_Queue_All_1 (V := Heap × Nat) (fun v => v.1) (fun v h => (h, v.2)) (fun a v => f_ticket_Queue_Place_B12 n h h0 h1 a.1 v) n (some ⟨bx, 0, none⟩) (h4.hole.hole, 0) = some (h5, p) := e7
  rcases h7 with ⟨hp, hnot, ow⟩ | ⟨hp, ow⟩
  · have hp : p = 0 := hp
    subst hp
    have hnot : t ∉ xs := by simpa using hnot
    have o7 : Own h5 ((b1, .cells [.int .i64 0] false 0) :: (L ++ F)) := Own.to (A := (bx, .cells [.pointer (some ⟨q, 0, none⟩)] false 0) :: (b1, .cells [.int .i64 0] false 0) :: (b2, .cells [.int .i64 (xs.length : Int)] false 0) :: (b0, .cells [.int .u64 t] false 0) :: (L ++ F)) ow fun x => by simp only [cnt_append, cnt_cons, cnt_nil]; omega
    have o8 := o7.put (.cells [.int .i64 (-1)] false 0)
    refine ⟨_, ?_, o8.tail⟩
    rw [plc_none hnot]
    simp only [f_ticket_Queue_Place, bnd_eq, hh0, hh1, hh2, nwA_eq, hb0, hb1, hb2]
    simp [est, e6, e7', stB_of o7.head, writeAt, ldT_of o8.head]
  · have hp : p = 1 := hp
    subst hp
    refine ⟨h5, ?_, ow.tail⟩
    simp only [f_ticket_Queue_Place, bnd_eq, hh0, hh1, hh2, nwA_eq, hb0, hb1, hb2]
    simp [est, e6, e7', ldT_of ow.head]

theorem first_at {t : Int} : ∀ {xs : List Int}, t ∈ xs → ∃ (j : Nat) (hj : j < xs.length), xs[j] = t ∧ t ∉ xs.take j ∧ xs.take j ++ xs.drop (j + 1) = xs.erase t := by
  intro xs
  induction xs with
  | nil => intro h; cases h
  | cons x xs ih =>
    intro h
    by_cases e : x = t
    · exact ⟨0, by simp, by simpa using e, by simp, by simp [e]⟩
    · have h' : t ∈ xs := by
        rcases List.mem_cons.1 h with h | h
        · exact absurd h.symm e
        · exact h
      obtain ⟨j, hj, h1, h2, h3⟩ := ih h'
      refine ⟨j + 1, by simpa using hj, by simpa using h1, ?_, ?_⟩
      · simp only [List.take_succ_cons, List.mem_cons, not_or]; exact ⟨fun h => e h.symm, h2⟩
      · simp only [List.take_succ_cons, List.drop_succ_cons, List.cons_append, h3]
        rw [List.erase_cons_tail (by simpa using e)]
theorem drop_ok (hq : Qx q xs last L) (ho : Own h (L ++ F)) (hlen : xs.length ≤ 1000) (hn : 2000 ≤ n) : ∃ h' L', f_ticket_Queue_Drop n (some ⟨q, 0, none⟩) t h = some ((if t ∈ xs then 0 else 110, ()), h') ∧ Qx q (xs.erase t) last L' ∧ Own h' (L' ++ F) := by
  obtain ⟨h1, e1, o1⟩ := place_ok (n := n) (t := t) hq ho hlen hn
  by_cases ht : t ∈ xs
  · obtain ⟨j, hj, hj1, hj2, he⟩ := first_at ht
    have hp : plc t xs 0 = (j : Int) := by rw [plc_at hj hj1 hj2]; omega
    rw [hp] at e1
    obtain ⟨s, A, hs, rfl⟩ := hq
    have o1 : Own h1 ((q, .cells [s, .int .u64 last] false 0) :: (A ++ F)) := o1
    obtain ⟨s', h2, A', e2, e3, o2⟩ := delete_ok (n := n) (i := j) (j := j + 1) (F := (q, .cells [s, .int .u64 last] false 0) :: F) hs (o1.to fun x => by simp only [cnt_append, cnt_cons, cnt_nil]; omega) (by omega) (by omega) hlen
    have o3 : Own h2 ((q, .cells [s, .int .u64 last] false 0) :: (A' ++ F)) := o2.to fun x => by simp only [cnt_append, cnt_cons, cnt_nil]; omega
    rw [he] at e3
    have hl : (xs.erase t).length = j + (xs.length - (j + 1)) := by rw [List.length_erase_of_mem ht]; omega
    rw [← hl] at e3
    refine ⟨_, _, ?_, ⟨s', A', e3, rfl⟩, o3.put _⟩
    have hw := wrap_succ (j := j) (by omega)
    have hneg : ¬ ((j : Int) < 0) := by omega
    simp only [f_ticket_Queue_Drop, e1, Option.isNone_some, cond_false, Option.bind_some, hneg, decide_false, hw]
    simp [ldT_of o1.head, ht]
    rw [show ((j : Int) + 1) = ((j + 1 : Nat) : Int) by omega, e2]
    simp [stB_of o3.head, e3.cellsOf, e3.isCell, writeAt]
  · rw [plc_none ht] at e1
    refine ⟨h1, L, ?_, by rw [List.erase_of_not_mem ht]; exact hq, o1⟩
    simp [f_ticket_Queue_Drop, e1, ht]

theorem take_ok (hq : Qx q xs last L) (ho : Own h (L ++ F)) (hlen : xs.length ≤ 1000) : ∃ h' L', f_ticket_Queue_Take n (some ⟨q, 0, none⟩) h = some ((hd xs, (decide (xs ≠ []), ())), h') ∧ Qx q xs.tail last L' ∧ Own h' (L' ++ F) := by
  have e1 := first_ok (n := n) (sp := none) hq ho
  cases xs with
  | nil => exact ⟨h, L, by simp [f_ticket_Queue_Take, e1], hq, ho⟩
  | cons x xs =>
    obtain ⟨s, A, hs, rfl⟩ := hq
    have o1 : Own h ((q, .cells [s, .int .u64 last] false 0) :: (A ++ F)) := ho
    obtain ⟨s', h2, A', e2, e3, o2⟩ := delete_ok (n := n) (i := 0) (j := 1) (F := (q, .cells [s, .int .u64 last] false 0) :: F) hs (o1.to fun x => by simp only [cnt_append, cnt_cons, cnt_nil]; omega) (by omega) (by simp) hlen
    have o3 : Own h2 ((q, .cells [s, .int .u64 last] false 0) :: (A' ++ F)) := o2.to fun x => by simp only [cnt_append, cnt_cons, cnt_nil]; omega
    have e3' : Slc 1 s' xs.length (iz .u64 xs) A' := by simpa using e3
    have e2' : f_slices_Delete_uint64_uint64 n s 0 1 h = some ((s', ()), h2) := e2
    refine ⟨_, _, ?_, ⟨s', A', e3', rfl⟩, o3.put _⟩
    simp [f_ticket_Queue_Take, e1, ldT_of o1.head, e2', stB_of o3.head, e3.cellsOf, e3.isCell, writeAt]
end
end Go.Proofs.Ytpcmjoghflllfaa
