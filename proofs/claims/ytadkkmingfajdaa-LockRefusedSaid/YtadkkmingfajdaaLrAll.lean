import Derived.Test.YtadkkmingfajdaaLLockRefused
import Derived.Test.YtadkkmingfajdaaS2
import Derived.Test.YtadkkmingfajdaaS3
import Derived.Test.YtadkkmingfajdaaS4
/- Lk1: put together from Tp1 Tp2. -/
namespace Go.Proofs.Ytadkkmingfajdaa
open Go
set_option linter.unusedVariables false
set_option linter.unusedSimpArgs false

/- ==== from Tp1 -/


/-- A queue: its tickets, the greatest that has ever come. -/
def Qx (q : Nat) (xs : List Int) (last : Int) (L : Ch) : Prop := ∃ s A, Slc 1 s xs.length (iz .u64 xs) A ∧ L = (q, .cells [s, .int .u64 last] false 0) :: A

section
variable {n q : Nat} {sp : Option Nat} {xs : List Int} {last t : Int} {L F : Ch} {h : Heap}

theorem put_ok (hq : Qx q xs last L) (ho : Own h (L ++ F)) (hlen : xs.length ≤ 1000) :
    ∃ h' L', f_ticket_Queue_Put n (some ⟨q, 0, sp⟩) t h = some ((if t ≤ last then 110 else 0, ()), h') ∧ Qx q (if t ≤ last then xs else xs ++ [t]) (if t ≤ last then last else t) L' ∧ Own h' (L' ++ F) := by
  obtain ⟨s, A, hs, rfl⟩ := hq
  have ho : Own h ((q, .cells [s, .int .u64 last] false 0) :: (A ++ F)) := ho
  have hg := ho.head
  by_cases ht : t ≤ last
  · refine ⟨h, _, ?_, ⟨s, A, by simpa [ht] using hs, rfl⟩, by simpa [ht] using ho⟩
    simp [f_ticket_Queue_Put, ldT_of hg, ht]
  · obtain ⟨s', h1, A', e1, e2, e3⟩ := hs.push (new := [.int .u64 t]) (F := (q, .cells [s, .int .u64 last] false 0) :: F) (ho.to fun x => by simp only [cnt_append, cnt_cons, cnt_nil]; omega) (by decide) rfl (bytes := 8) (by omega)
    have e4 : Own h1 ((q, .cells [s, .int .u64 last] false 0) :: (A' ++ F)) := e3.to fun x => by simp only [cnt_append, cnt_cons, cnt_nil]; omega
    have e5 := e4.put (.cells [s', .int .u64 last] false 0)
    have e6 := e5.put (.cells [s', .int .u64 t] false 0)
    refine ⟨_, _, ?_, ⟨s', A', by simpa [ht] using e2, rfl⟩, by simpa [ht] using e6⟩
    simp [f_ticket_Queue_Put, ldT_of hg, ht, e1, stB_of e4.head, stB_of e5.head, e2.cellsOf, e2.isCell, writeAt]

theorem Qx.parts (hq : Qx q xs last L) (ho : Own h (L ++ F)) : ∃ s, h.get q = some (.cells [s, .int .u64 last] false 0) ∧ Rds h 1 s xs.length (iz .u64 xs) ∧ isTuple s = false := by
  obtain ⟨s, A, hs, rfl⟩ := hq
  exact ⟨s, ho.head, hs.rds (F := F) ho.tail, hs.notT⟩

theorem len_ok (hq : Qx q xs last L) (ho : Own h (L ++ F)) : f_ticket_Queue_Len n (some ⟨q, 0, sp⟩) h = some (((xs.length : Int), ()), h) := by
  obtain ⟨s, hg, hr, _⟩ := hq.parts ho
  simp [f_ticket_Queue_Len, ldT_of hg, hr.lenB]

/-- The first one, if there is one. -/
def hd (xs : List Int) : Int := match xs with | [] => 0 | x :: _ => x
theorem first_ok (hq : Qx q xs last L) (ho : Own h (L ++ F)) : f_ticket_Queue_First n (some ⟨q, 0, sp⟩) h = some ((hd xs, (decide (xs ≠ []), ())), h) := by
  obtain ⟨s, hg, hr, _⟩ := hq.parts ho
  have hl := len_ok (n := n) (sp := sp) hq ho
  cases xs with
  | nil => simp [f_ticket_Queue_First, hl, hd]
  | cons x xs =>
    obtain ⟨p, e1, e2⟩ := hr.int (i := 0) (by simp)
    have hne : ¬ ((xs.length : Int) + 1 = 0) := by omega
    simp at e1
    simp [f_ticket_Queue_First, hl, hd, ldT_of hg, e1, e2, hne]
/-- slices.Delete. -/
theorem delete_ok {s : Value} {A : Ch} {i j : Nat} (hs : Slc 1 s xs.length (iz .u64 xs) A) (ho : Own h (A ++ F)) (hij : i < j) (hj : j ≤ xs.length) (hlen : xs.length ≤ 1000) :
    ∃ s' h' A', f_slices_Delete_uint64_uint64 n s (i : Int) (j : Int) h = some ((s', ()), h') ∧ Slc 1 s' (i + (xs.length - j)) (iz .u64 (xs.take i ++ xs.drop j)) A' ∧ Own h' (A' ++ F) := by
  generalize hcs : iz .u64 xs = cs at hs
  have hcl : cs.length = xs.length := by rw [← hcs]; simp
  generalize hN : xs.length = N at *
  cases hs with
  | nil => omega
  | @mk b off sp _ c pre _ rest hp hl hr =>
    have hg : h.get b = some (.cells (pre ++ (cs ++ rest)) false 1) := ho.get (b, .cells (pre ++ (cs ++ rest)) false 1) (by simp)
    have hc : N ≤ c := by omega
    have hne : ¬ ((i : Int) = (j : Int)) := by omega
    have ecut := cut_mid (sp := sp) (bytes := 8) hg hp hcl (by omega : N + rest.length = c) hij hj (by omega)
    rw [Nat.mul_one] at ecut
    have eo := Own.put (F := F) ho (.cells (pre ++ (cs.take i ++ cs.drop j ++ (cs.drop (i + (N - j)) ++ rest))) false 1)
    generalize hh1 : h.put b (.cells (pre ++ (cs.take i ++ cs.drop j ++ (cs.drop (i + (N - j)) ++ rest))) false 1) = h1 at ecut eo
    have esl := sliceK_lh (h := h1) (es := 1) (b := b) (off := off) (sp := sp) (n := i + (N - j)) (c := c) (i := i + (N - j)) (j := N) (k := .i64) (k' := .i64) (by omega) hc
    have hclr := clearK_of (h := h1) (b := b) (off := off + (i + (N - j)) * 1) (sp := sp) (n := N - (i + (N - j))) (c := c - (i + (N - j))) (zs := [.int .u64 0]) eo.head (by simp; omega)
    have hk : (cs.take i ++ cs.drop j).length = i + (N - j) := by simp; omega
    have this : writeAt (pre ++ (cs.take i ++ cs.drop j ++ (cs.drop (i + (N - j)) ++ rest))) (off + (i + (N - j))) (List.replicate (N - (i + (N - j))) [Value.int .u64 0]).flatten = pre ++ (iz .u64 (xs.take i ++ xs.drop j) ++ (List.replicate (N - (i + (N - j))) (.int .u64 0) ++ rest)) := by
      have hf : (List.replicate (N - (i + (N - j))) [Value.int .u64 0]).flatten = List.replicate (N - (i + (N - j))) (.int .u64 0) := by
        generalize N - (i + (N - j)) = k
        induction k with
        | zero => rfl
        | succ k ih => simp [List.replicate_succ, ih]
      have hd : (cs.drop (i + (N - j))).length = N - (i + (N - j)) := by simp; omega
      rw [hf, writeAt_eq _ _ _ (by simp; omega), ← hp]
      have e1 : pre ++ (cs.take i ++ cs.drop j ++ (cs.drop (i + (N - j)) ++ rest)) = (pre ++ (cs.take i ++ cs.drop j)) ++ (cs.drop (i + (N - j)) ++ rest) := by simp
      have e2 : pre.length + (i + (N - j)) = (pre ++ (cs.take i ++ cs.drop j)).length := by simp; omega
      rw [e1, e2, List.take_left, ← List.drop_drop, List.drop_left, List.length_replicate, ← hd, List.drop_left]
      rw [← hcs]
      simp [iz, List.map_take, List.map_drop]
    refine ⟨.slice (some ⟨b, off, sp⟩) (i + (N - j)) c, h1.put b (.cells (pre ++ (iz .u64 (xs.take i ++ xs.drop j) ++ (List.replicate (N - (i + (N - j))) (.int .u64 0) ++ rest))) false 1), _, ?_, Slc.mk (b := b) (sp := sp) (pre := pre) (cs := iz .u64 (xs.take i ++ xs.drop j)) (rest := List.replicate (N - (i + (N - j))) (.int .u64 0) ++ rest) hp (by simp; omega) (c := c) (by simp; omega), ?_⟩
    · rw [f_slices_Delete_uint64_uint64]
      have hlc : ((i + (N - j) : Nat) : Int) = (i : Int) + ((N - j : Nat) : Int) := by omega
      simp only [lenB_slice, Option.bind_some, sliceK_lhm (Nat.le_of_lt hij) hj hc, hne, decide_false, cond_false, sliceK_h (show i ≤ c by omega), sliceK_l hj hc, Nat.mul_one, ecut]
      rw [Nat.mul_one] at esl
      simp only [esl, Option.bind_some]
      rw [Nat.mul_one] at hclr
      simp only [hclr, this, Option.bind_some]
      simp only [isTuple_slice, Bool.not_false, cond_true]
    · exact eo.put _

end

/- ==== from Tp2 -/


section
variable {n q : Nat} {sp : Option Nat} {xs : List Int} {last t : Int} {L F : Ch} {h : Heap}

/-- What is seen of a queue behind a box. -/
def SeenQ (h : Heap) (bx : Nat) (s : Value) (xs : List Int) : Prop := ∃ q, ldT .ptr h (some ⟨bx, 0, none⟩) = some (some ⟨q, 0, none⟩) ∧ ldT .any h (some ⟨q, 0, none⟩) = some s ∧ Rds h 1 s xs.length (iz .u64 xs)
theorem Qx.seen {bx : Nat} (hq : Qx q xs last L) (ho : Own h ((bx, .cells [.pointer (some ⟨q, 0, none⟩)] false 0) :: (L ++ F))) : ∃ s, (∃ A, L = (q, .cells [s, .int .u64 last] false 0) :: A) ∧ SeenQ h bx s xs := by
  obtain ⟨s, A, hs, rfl⟩ := hq
  have ho2 : Own h ((q, .cells [s, .int .u64 last] false 0) :: (A ++ F)) := ho.tail
  exact ⟨s, ⟨A, rfl⟩, q, by simp [ldT_of ho.head], by simp [ldT_of ho2.head], hs.rds (F := F) ho2.tail⟩

/-- The iterator. -/
theorem all1_ok {V : Type} {hp : V → Heap} {up : V → Heap → V} {y : (Int × Unit) → V → Option (Bool × V)} {bx : Nat} {s : Value} {w : V} (J : Nat → V → Prop) (Q : V → Prop) (hn : xs.length < n) (hlen : xs.length ≤ 1000) (h0 : J 0 w)
    (seen : ∀ i v, J i v → SeenQ (hp v) bx s xs) (step : ∀ i v (hi : i < xs.length), J i v → ∃ b v', y (xs[i], ()) v = some (b, v') ∧ (b = true → J (i + 1) v') ∧ (b = false → Q v')) :
    ∃ w', f_ticket_Queue_All_1 hp up y n (some ⟨bx, 0, none⟩) w = some w' ∧ (J xs.length w' ∨ Q w') := by
  obtain ⟨q, e1, e2, e3⟩ := seen 0 w h0
  obtain ⟨r, e4, e5⟩ := loopT_up (f := fun a : (Int × Unit) × V => f_ticket_Queue_All_1_L10 hp up y n s xs.length a.1.1 a.2) (I := fun j a => a.1.1 = (j : Int) ∧ J j a.2) (Q := fun w' => J xs.length w' ∨ Q w') (N := xs.length) (k := n) (j := 0) (a := ((0, ()), w)) (by omega) (Nat.zero_le _) ⟨rfl, h0⟩ (by
      rintro j ⟨⟨z, _⟩, v⟩ hj ⟨rfl, hJ⟩
      obtain ⟨_, _, _, e3⟩ := seen j v hJ
      obtain ⟨p, e4, e5⟩ := e3.int hj
      obtain ⟨b, v', e6, h1, h2⟩ := step j v hj hJ
      have hw : IntKind.i64.wrap ((j : Int) + 1) = ((j + 1 : Nat) : Int) := wrap_succ (by omega)
      cases b with
      | true => exact .inl ⟨((((j + 1 : Nat) : Int), ()), v'), by simp [f_ticket_Queue_All_1_L10, hj, e4, e5, e6, hw], rfl, h1 rfl⟩
      | false => exact .inr ⟨v', by simp [f_ticket_Queue_All_1_L10, hj, e4, e5, e6], .inr (h2 rfl)⟩) (by
      rintro ⟨⟨z, _⟩, v⟩ ⟨rfl, hJ⟩
      exact ⟨v, by simp [f_ticket_Queue_All_1_L10], .inl hJ⟩)
  exact ⟨r, by simp [f_ticket_Queue_All_1, e1, e2, e3.lenB, e4], e5⟩

/-- Where a ticket stands; -1: nowhere. -/
def plc (t : Int) : List Int → Int → Int
  | [], _ => -1
  | x :: xs, i => if x = t then i else plc t xs (i + 1)
theorem plc_none {t : Int} : ∀ {xs : List Int} {i : Int}, t ∉ xs → plc t xs i = -1 := by
  intro xs
  induction xs with
  | nil => intro i _; rfl
  | cons x xs ih =>
    intro i h
    simp only [List.mem_cons, not_or] at h
    simp only [plc]
    rw [if_neg fun e => h.1 e.symm]; exact ih h.2
theorem plc_at {t : Int} : ∀ {xs : List Int} {i : Int} {j : Nat} (hj : j < xs.length), xs[j] = t → t ∉ xs.take j → plc t xs i = i + j := by
  intro xs
  induction xs with
  | nil => intro i j hj; simp at hj
  | cons x xs ih =>
    intro i j hj h1 h2
    cases j with
    | zero => simp only [List.getElem_cons_zero] at h1; simp [plc, h1]
    | succ j =>
      simp only [List.take_succ_cons, List.mem_cons, not_or] at h2
      simp only [plc]
      rw [if_neg fun e => h2.1 e.symm, ih (i := i + 1) (by simpa using hj) (by simpa using h1) h2.2]
      omega

theorem qall_ok (ho : Own h F) : f_ticket_Queue_All n (some ⟨q, 0, none⟩) h = some ((((some ⟨h.next, 0, none⟩, ()) : Ptrs 1), ()), h.new (.cells [.pointer (some ⟨q, 0, none⟩)] false 0)) ∧ Own (h.new (.cells [.pointer (some ⟨q, 0, none⟩)] false 0)) ((h.next, .cells [.pointer (some ⟨q, 0, none⟩)] false 0) :: F) :=
  ⟨by simp [f_ticket_Queue_All], ho.new _⟩

theorem place_ok (hq : Qx q xs last L) (ho : Own h (L ++ F)) (hlen : xs.length ≤ 1000) (hn : 2000 ≤ n) : ∃ h', f_ticket_Queue_Place n (some ⟨q, 0, none⟩) t h = some ((plc t xs 0, ()), h') ∧ Own h' (L ++ F) := by
  have o1 := ho.new (.cells [.int .u64 t] false 0)
  have o2 := o1.new (.cells [.int .i64 0] false 0)
  have o3 := o2.new (.cells [.int .i64 0] false 0)
  generalize hb0 : h.next = b0 at o1 o2 o3
  generalize hh0 : h.new (.cells [.int .u64 t] false 0) = h0 at o1 o2 o3
  generalize hb1 : h0.next = b1 at o2 o3
  generalize hh1 : h0.new (.cells [.int .i64 0] false 0) = h1 at o2 o3
  generalize hb2 : h1.next = b2 at o3
  generalize hh2 : h1.new (.cells [.int .i64 0] false 0) = h2 at o3
  have o5 := o3.put (.cells [.int .i64 0] false 0)
  generalize hh3 : h2.put b2 (.cells [.int .i64 0] false 0) = h3 at o5
  obtain ⟨e6, o6⟩ := qall_ok (n := n) (q := q) o5
  generalize hbx : h3.next = bx at e6 o6
  generalize hh4 : h3.new (.cells [.pointer (some ⟨q, 0, none⟩)] false 0) = h4 at e6 o6
  obtain ⟨s, ⟨A, hL⟩, seen0⟩ := hq.seen (bx := bx) (h := h4) (F := (b2, .cells [.int .i64 0] false 0) :: (b1, .cells [.int .i64 0] false 0) :: (b0, .cells [.int .u64 t] false 0) :: F) (o6.to fun x => by simp only [cnt_append, cnt_cons, cnt_nil]; omega)
  have seenW : ∀ {hh : Heap} {X : Ch}, Own hh ((bx, .cells [.pointer (some ⟨q, 0, none⟩)] false 0) :: (L ++ X)) → SeenQ hh bx s xs := by
    intro hh X o
    obtain ⟨s', ⟨A', hL'⟩, hseen⟩ := hq.seen o
    rw [hL] at hL'
    simp only [List.cons.injEq, Prod.mk.injEq, AObj.cells.injEq, true_and, and_true] at hL'
    rw [hL'.1]; exact hseen
  let Own' (hh : Heap) (r i : Int) : Prop := Own hh ((bx, .cells [.pointer (some ⟨q, 0, none⟩)] false 0) :: (b1, .cells [.int .i64 r] false 0) :: (b2, .cells [.int .i64 i] false 0) :: (b0, .cells [.int .u64 t] false 0) :: (L ++ F))
  obtain ⟨⟨h5, p⟩, e7, h7⟩ := all1_ok (xs := xs) (n := n) (bx := bx) (s := s) (hp := fun v : Heap × Nat => v.1) (up := fun v h => (h, v.2)) (y := fun a v => f_ticket_Queue_Place_B12 n h h0 h1 a.1 v) (w := (h4.hole.hole, 0))
    (J := fun i v => v.2 = 0 ∧ t ∉ xs.take i ∧ Own' v.1 0 (i : Int)) (Q := fun v => v.2 = 1 ∧ Own v.1 ((b1, .cells [.int .i64 (plc t xs 0)] false 0) :: (L ++ F))) (by omega) hlen ⟨rfl, by simp, (o6.hole.hole.to fun x => by simp only [cnt_append, cnt_cons, cnt_nil]; omega : Own h4.hole.hole ((bx, .cells [.pointer (some ⟨q, 0, none⟩)] false 0) :: (b1, .cells [.int .i64 0] false 0) :: (b2, .cells [.int .i64 0] false 0) :: (b0, .cells [.int .u64 t] false 0) :: (L ++ F)))⟩
    (fun i v hJ => seenW (X := (b1, .cells [.int .i64 0] false 0) :: (b2, .cells [.int .i64 (i : Int)] false 0) :: (b0, .cells [.int .u64 t] false 0) :: F) (hJ.2.2.to fun x => by simp only [cnt_append, cnt_cons, cnt_nil]; omega)) (by
      rintro i ⟨hh, p⟩ hi ⟨rfl, hnot, ow⟩
      have ow : Own hh ((bx, .cells [.pointer (some ⟨q, 0, none⟩)] false 0) :: (b1, .cells [.int .i64 0] false 0) :: (b2, .cells [.int .i64 (i : Int)] false 0) :: (b0, .cells [.int .u64 t] false 0) :: (L ++ F)) := ow
      have g0 : hh.get b0 = some (.cells [.int .u64 t] false 0) := ow.get (b0, _) (by simp)
      have g2 : hh.get b2 = some (.cells [.int .i64 (i : Int)] false 0) := ow.get (b2, _) (by simp)
      have o1 : Own hh ((b1, .cells [.int .i64 0] false 0) :: (L ++ F)) := ow.to fun x => by simp only [cnt_append, cnt_cons, cnt_nil]; omega
      have o2 : Own hh ((b2, .cells [.int .i64 (i : Int)] false 0) :: (bx, .cells [.pointer (some ⟨q, 0, none⟩)] false 0) :: (b1, .cells [.int .i64 0] false 0) :: (b0, .cells [.int .u64 t] false 0) :: (L ++ F)) := ow.to fun x => by simp only [cnt_append, cnt_cons, cnt_nil]; omega
      by_cases hx : xs[i] = t
      · have hp : plc t xs 0 = (i : Int) := by rw [plc_at hi hx hnot]; omega
        refine ⟨false, (hh.put b1 (.cells [.int .i64 (i : Int)] false 0), 1), ?_, (fun h => by cases h), fun _ => ⟨rfl, ?_⟩⟩
        · simp [f_ticket_Queue_Place_B12, hb0, hb1, hb2, ldT_of g0, ldT_of g2, hx, stB_of o1.head, writeAt]
        · rw [hp]; exact o1.put _
      · refine ⟨true, (hh.put b2 (.cells [.int .i64 ((i + 1 : Nat) : Int)] false 0), 0), ?_, fun _ => ⟨rfl, ?_, (o2.put (.cells [.int .i64 ((i + 1 : Nat) : Int)] false 0)).to fun x => by simp only [cnt_append, cnt_cons, cnt_nil]; omega⟩, (fun h => by cases h)⟩
        · have hw := wrap_succ (j := i) (by omega)
          simp only [f_ticket_Queue_Place_B12, nwA_eq, hb0, hb1, hb2]
          simp [ldT_of g0, ldT_of g2, hx, hw, stB_of o2.head, writeAt]
        · rw [List.take_add_one, List.getElem?_eq_getElem hi]
          simp only [Option.toList_some, List.mem_append, List.mem_singleton, not_or]
          exact ⟨hnot, fun e => hx e.symm⟩)
  have est : stB 1 (.int .i64 0) h2 (some ⟨b2, 0, none⟩) = some h3 := by simp [stB_of o3.head, writeAt, hh3]
  have e7' : f_ticket_Queue_All_1 (V := Heap × Nat) (fun v => v.1) (fun v h => (h, v.2)) (fun a v => f_ticket_Queue_Place_B12 n h h0 h1 a.1 v) n (some ⟨bx, 0, none⟩) (h4.hole.hole, 0) = some (h5, p) := e7
  rcases h7 with ⟨hp, hnot, ow⟩ | ⟨hp, ow⟩
  · have hp : p = 0 := hp
    subst hp
    have hnot : t ∉ xs := by simpa using hnot
    have o7 : Own h5 ((b1, .cells [.int .i64 0] false 0) :: (L ++ F)) := Own.to (A := (bx, .cells [.pointer (some ⟨q, 0, none⟩)] false 0) :: (b1, .cells [.int .i64 0] false 0) :: (b2, .cells [.int .i64 (xs.length : Int)] false 0) :: (b0, .cells [.int .u64 t] false 0) :: (L ++ F)) ow fun x => by simp only [cnt_append, cnt_cons, cnt_nil]; omega
    have o8 := o7.put (.cells [.int .i64 (-1)] false 0)
    refine ⟨_, ?_, o8.tail⟩
    rw [plc_none hnot]
    simp only [f_ticket_Queue_Place, bnd_eq, hh0, hh1, hh2, nwA_eq, hb0, hb1, hb2]
    simp [est, e6, e7', stB_of o7.head, writeAt, ldT_of o8.head]
  · have hp : p = 1 := hp
    subst hp
    refine ⟨h5, ?_, ow.tail⟩
    simp only [f_ticket_Queue_Place, bnd_eq, hh0, hh1, hh2, nwA_eq, hb0, hb1, hb2]
    simp [est, e6, e7', ldT_of ow.head]

theorem first_at {t : Int} : ∀ {xs : List Int}, t ∈ xs → ∃ (j : Nat) (hj : j < xs.length), xs[j] = t ∧ t ∉ xs.take j ∧ xs.take j ++ xs.drop (j + 1) = xs.erase t := by
  intro xs
  induction xs with
  | nil => intro h; cases h
  | cons x xs ih =>
    intro h
    by_cases e : x = t
    · exact ⟨0, by simp, by simpa using e, by simp, by simp [e]⟩
    · have h' : t ∈ xs := by
        rcases List.mem_cons.1 h with h | h
        · exact absurd h.symm e
        · exact h
      obtain ⟨j, hj, h1, h2, h3⟩ := ih h'
      refine ⟨j + 1, by simpa using hj, by simpa using h1, ?_, ?_⟩
      · simp only [List.take_succ_cons, List.mem_cons, not_or]; exact ⟨fun h => e h.symm, h2⟩
      · simp only [List.take_succ_cons, List.drop_succ_cons, List.cons_append, h3]
        rw [List.erase_cons_tail (by simpa using e)]
theorem drop_ok (hq : Qx q xs last L) (ho : Own h (L ++ F)) (hlen : xs.length ≤ 1000) (hn : 2000 ≤ n) : ∃ h' L', f_ticket_Queue_Drop n (some ⟨q, 0, none⟩) t h = some ((if t ∈ xs then 0 else 110, ()), h') ∧ Qx q (xs.erase t) last L' ∧ Own h' (L' ++ F) := by
  obtain ⟨h1, e1, o1⟩ := place_ok (n := n) (t := t) hq ho hlen hn
  by_cases ht : t ∈ xs
  · obtain ⟨j, hj, hj1, hj2, he⟩ := first_at ht
    have hp : plc t xs 0 = (j : Int) := by rw [plc_at hj hj1 hj2]; omega
    rw [hp] at e1
    obtain ⟨s, A, hs, rfl⟩ := hq
    have o1 : Own h1 ((q, .cells [s, .int .u64 last] false 0) :: (A ++ F)) := o1
    obtain ⟨s', h2, A', e2, e3, o2⟩ := delete_ok (n := n) (i := j) (j := j + 1) (F := (q, .cells [s, .int .u64 last] false 0) :: F) hs (o1.to fun x => by simp only [cnt_append, cnt_cons, cnt_nil]; omega) (by omega) (by omega) hlen
    have o3 : Own h2 ((q, .cells [s, .int .u64 last] false 0) :: (A' ++ F)) := o2.to fun x => by simp only [cnt_append, cnt_cons, cnt_nil]; omega
    rw [he] at e3
    have hl : (xs.erase t).length = j + (xs.length - (j + 1)) := by rw [List.length_erase_of_mem ht]; omega
    rw [← hl] at e3
    refine ⟨_, _, ?_, ⟨s', A', e3, rfl⟩, o3.put _⟩
    have hw := wrap_succ (j := j) (by omega)
    have hneg : ¬ ((j : Int) < 0) := by omega
    simp only [f_ticket_Queue_Drop, e1, Option.isNone_some, cond_false, Option.bind_some, hneg, decide_false, hw]
    simp [ldT_of o1.head, ht]
    rw [show ((j : Int) + 1) = ((j + 1 : Nat) : Int) by omega, e2]
    simp [stB_of o3.head, e3.cellsOf, e3.isCell, writeAt]
  · rw [plc_none ht] at e1
    refine ⟨h1, L, ?_, by rw [List.erase_of_not_mem ht]; exact hq, o1⟩
    simp [f_ticket_Queue_Drop, e1, ht]

end

end Go.Proofs.Ytadkkmingfajdaa

/- Locks: their entries, what can be looked up. -/
namespace Go.Proofs.Ytadkkmingfajdaa
open Go
set_option linter.unusedVariables false
set_option linter.unusedSimpArgs false

/-- A ticket that was laid: its number, its set, how many of its blocks it has; where its set lies. -/
structure Hd where
  t : Int
  X : List Int
  held : Nat
  s : Value
  A : Ch
def Hd.cells (e : Hd) : List Value := [e.s, .int .i64 (e.held : Int)]
def Hd.kv (e : Hd) : Value × Value := (.int .u64 e.t, .agg ⟨e.cells⟩)
/-- A queue: where, its own greatest ticket, its blocks. -/
structure Qd where
  q : Nat
  last : Int
  Q : Ch
def Qd.cell (d : Qd) : Value := .pointer (some ⟨d.q, 0, none⟩)
/-- The tickets at a block. -/
def quu (es : List Hd) (b : Int) : List Int := (es.filter fun e => decide (b ∈ e.X)).map Hd.t

/-- A set that may be laid. -/
def SetOk (N : Nat) (X : List Int) : Prop := X ≠ [] ∧ X.Pairwise (· < ·) ∧ ∀ x ∈ X, 0 ≤ x ∧ x < N

structure Ls (N : Nat) (es : List Hd) (last : Int) (qs : List Qd) : Prop where
  nq : qs.length = N
  q : ∀ i (hi : i < qs.length), Qx qs[i].q (quu es (i : Int)) qs[i].last qs[i].Q ∧ qs[i].last ≤ last
  up : es.Pairwise fun a b => a.t < b.t
  le : ∀ e ∈ es, e.t ≤ last
  set : ∀ e ∈ es, SetOk N e.X ∧ e.held ≤ e.X.length ∧ Slc 1 e.s e.X.length (iz .i64 e.X) e.A
  few : es.length ≤ 900
  small : N ≤ 64

def lcells (sq : Value) (last : Int) (m : Nat) : List Value := [sq, .int .u64 last, .map (some m)]
/-- The locks at p. -/
def Lk (p N : Nat) (es : List Hd) (last : Int) (L : Ch) : Prop :=
  ∃ sq A m qs, Slc 1 sq N (qs.map Qd.cell) A ∧ Ls N es last qs ∧ L = (p, .cells (lcells sq last m) false 0) :: (m, .map (es.map Hd.kv)) :: (A ++ (qs.flatMap Qd.Q ++ es.flatMap Hd.A))

theorem up_len : ∀ {X : List Int} {a N : Int}, a ≤ N → (∀ x ∈ X, a ≤ x ∧ x < N) → X.Pairwise (· < ·) → (X.length : Int) ≤ N - a := by
  intro X
  induction X with
  | nil => intro a N h _ _; simp; omega
  | cons x X ih =>
    intro a N h h1 h2
    rw [List.pairwise_cons] at h2
    have hx := h1 x (List.mem_cons_self ..)
    have := ih (a := x + 1) (N := N) (by omega) (fun y hy => ⟨by have := h2.1 y hy; omega, (h1 y (List.mem_cons_of_mem _ hy)).2⟩) h2.2
    simp only [List.length_cons]; omega
theorem SetOk.len {N : Nat} {X : List Int} (h : SetOk N X) : X.length ≤ N := by
  have := up_len (a := 0) (N := N) (by omega) h.2.2 h.2.1
  omega

/-- A key's place. -/
theorem findKv_none {t : Int} : ∀ {es : List Hd} {i : Nat}, (∀ e ∈ es, e.t ≠ t) → findKv .u64 t (es.map Hd.kv) i = some none := by
  intro es
  induction es with
  | nil => intro i _; rfl
  | cons e es ih =>
    intro i h
    have h1 : (e.t == t) = false := by simpa using h e (List.mem_cons_self ..)
    simp only [List.map_cons, Hd.kv, findKv, if_true, h1, cond_false]
    exact ih fun x hx => h x (List.mem_cons_of_mem _ hx)
theorem findKv_at {t : Int} : ∀ {es : List Hd} {i j : Nat} (hj : j < es.length), es[j].t = t → (∀ e ∈ es.take j, e.t ≠ t) → findKv .u64 t (es.map Hd.kv) i = some (some (i + j, .agg ⟨es[j].cells⟩)) := by
  intro es
  induction es with
  | nil => intro i j hj; simp at hj
  | cons e es ih =>
    intro i j hj h1 h2
    cases j with
    | zero =>
      simp only [List.getElem_cons_zero] at h1
      simp [findKv, Hd.kv, h1]
    | succ j =>
      have h3 : (e.t == t) = false := by simpa using h2 e (by simp)
      simp only [List.map_cons, Hd.kv, findKv, if_true, h3, cond_false]
      have := ih (i := i + 1) (j := j) (by simpa using hj) (by simpa using h1) (fun x hx => h2 x (by simp [hx]))
      have e1 : i + 1 + j = i + (j + 1) := by omega
      rw [e1] at this; exact this

section
variable {p N n : Nat} {es : List Hd} {last t : Int} {L F : Ch} {h : Heap}

/-- A ticket's entry: there, or nowhere. -/
theorem find_cases {es : List Hd} (up : es.Pairwise fun a b => a.t < b.t) (t : Int) : (∀ e ∈ es, e.t ≠ t) ∨ ∃ (j : Nat) (hj : j < es.length), es[j].t = t ∧ (∀ e ∈ es.take j, e.t < t) ∧ ∀ e ∈ es.drop (j + 1), t < e.t := by
  induction es with
  | nil => exact .inl fun _ h => absurd h List.not_mem_nil
  | cons e es ih =>
    rw [List.pairwise_cons] at up
    by_cases he : e.t = t
    · exact .inr ⟨0, by simp, he, by simp, fun x hx => by rw [← he]; exact up.1 x (by simpa using hx)⟩
    · rcases ih up.2 with h1 | ⟨j, hj, h1, h2, h3⟩
      · exact .inl fun x hx => (List.mem_cons.1 hx).elim (fun e => e ▸ he) (h1 x)
      · refine .inr ⟨j + 1, by simpa using hj, by simpa using h1, fun x hx => ?_, by simpa using h3⟩
        simp only [List.take_succ_cons, List.mem_cons] at hx
        rcases hx with rfl | hx
        · rw [← h1]; exact up.1 _ (List.getElem_mem hj)
        · exact h2 x hx

abbrev z2 : List Value := [.slice none 0 0, .int .i64 0]
/-- A small value in a place of its own. -/
theorem tmp2 {z cs : List Value} {m : Nat} (ho : Own h F) (hz : z.length = m) (hl : cs.length = m) (hc : cs.all isCell = true) :
    ∃ h', stB m (.agg ⟨cs⟩) (h.new (.cells z false 0)) (some ⟨h.next, 0, none⟩) = some h' ∧ Own h' ((h.next, .cells cs false 0) :: F) := by
  have o1 := ho.new (.cells z false 0)
  refine ⟨_, ?_, o1.put (.cells cs false 0)⟩
  rw [stBA_of o1.head hl hc (by omega)]
  congr 3
  rw [writeAt_eq _ _ _ (by omega)]
  simp [List.drop_eq_nil_of_le, hz, hl]

/-- What a look at the holders gives. -/
theorem look_ok {m : Nat} (hm : h.get m = some (.map (es.map Hd.kv))) (up : es.Pairwise fun a b => a.t < b.t) (t : Int) :
    ((∀ e ∈ es, e.t ≠ t) ∧ lkT .any h .u64 (.agg ⟨z2⟩) (.map (some m)) t = some (.agg ⟨z2⟩, false)) ∨
    ∃ (j : Nat) (hj : j < es.length), es[j].t = t ∧ (∀ e ∈ es.take j, e.t < t) ∧ (∀ e ∈ es.drop (j + 1), t < e.t) ∧ findKv .u64 t (es.map Hd.kv) 0 = some (some (j, .agg ⟨es[j].cells⟩)) ∧ lkT .any h .u64 (.agg ⟨z2⟩) (.map (some m)) t = some (.agg ⟨es[j].cells⟩, true) := by
  rcases find_cases up t with h1 | ⟨j, hj, h1, h2, h3⟩
  · refine .inl ⟨h1, ?_⟩
    simp only [lkT, hm, findKv_none h1]; rfl
  · have hf := findKv_at (i := 0) hj h1 fun e he => by have := h2 e he; omega
    rw [Nat.zero_add] at hf
    refine .inr ⟨j, hj, h1, h2, h3, hf, ?_⟩
    simp only [lkT, hm, hf]; rfl
end
end Go.Proofs.Ytadkkmingfajdaa

/- Locks: New, Clone, the queues' chains. -/
namespace Go.Proofs.Ytadkkmingfajdaa
open Go
set_option linter.unusedVariables false
set_option linter.unusedSimpArgs false

theorem fm_at {α : Type} (f : α → Ch) : ∀ {l : List α} {i : Nat} (hi : i < l.length) (x : Nat × AObj), cnt x (l.flatMap f) = cnt x (f l[i]) + cnt x ((l.eraseIdx i).flatMap f) := by
  intro l
  induction l with
  | nil => intro i hi; simp at hi
  | cons a l ih =>
    intro i hi x
    cases i with
    | zero => simp only [List.flatMap_cons, cnt_append, List.getElem_cons_zero, List.eraseIdx_cons_zero]
    | succ i =>
      simp only [List.flatMap_cons, cnt_append, List.getElem_cons_succ, List.eraseIdx_cons_succ]
      have := ih (i := i) (by simpa using hi) x
      omega
theorem fm_set {α : Type} (f : α → Ch) {l : List α} {i : Nat} {y : α} (hi : i < l.length) (x : Nat × AObj) : cnt x ((l.set i y).flatMap f) = cnt x (f y) + cnt x ((l.eraseIdx i).flatMap f) := by
  have := fm_at f (l := l.set i y) (i := i) (by simpa using hi) x
  rw [List.getElem_set_self, List.eraseIdx_set_eq] at this
  exact this

section
variable {p N n : Nat} {es : List Hd} {last t : Int} {L F : Ch} {h : Heap}

theorem clone_ok {s : Value} {X : List Int} {G : Ch} (hr : Sow 1 s X.length (iz .i64 X) G) (ho : Own h (G ++ F)) (hlen : X.length ≤ 1000) :
    ∃ s' h' A', f_slices_Clone_int_int n s h = some ((s', ()), h') ∧ Slc 1 s' X.length (iz .i64 X) A' ∧ Own h' (A' ++ (G ++ F)) := by
  obtain ⟨a, c, hf, hsrc⟩ := (hr.rds ho).src
  subst hf
  cases a with
  | none =>
    have hx : X = [] := by
      have h1 : (some [] : Option (List Value)) = some (iz .i64 X) := hsrc
      have h2 := congrArg (fun l => l.map List.length) h1
      have h3 : 0 = X.length := by simpa using h2
      exact List.eq_nil_of_length_eq_zero h3.symm
    subst hx
    exact ⟨.slice none 0 0, h, [], by simp [f_slices_Clone_int_int, eqVals_slice_nil], .nil, ho⟩
  | some q =>
    have o1 := ho.new (.cells [] false 1)
    have hs : Slc 1 (.slice (some ⟨h.next, 0, some 0⟩) 0 0) 0 [] [(h.next, .cells ([] ++ ([] ++ [])) false 1)] := .mk rfl rfl rfl
    obtain ⟨s', h', A', e1, e2, e3⟩ := hr.app hs (F := F) o1 (by decide) (bytes := 8) (by omega)
    refine ⟨s', h', A', ?_, by simpa using e2, e3⟩
    have := e2.notT
    simp [f_slices_Clone_int_int, eqVals_slice_nil, e1, this]

abbrev qz : AObj := .cells [.slice none 0 0, .int .u64 0] false 0
theorem new_ok (ho : Own h F) (h1 : 1 ≤ N) (h2 : N ≤ 64) (hn : 2000 ≤ n) :
    ∃ p h' L, f_lock_New n (N : Int) h = some ((some ⟨p, 0, none⟩, 0, ()), h') ∧ Lk p N [] 0 L ∧ Own h' (L ++ F) := by
  have o1 := ho.new (.map [])
  generalize hm : h.next = m at o1
  generalize hh1 : h.new (.map []) = ha at o1
  have o2 := o1.new (.cells (lcells (.slice none 0 0) 0 m) false 0)
  generalize hp : ha.next = p at o2
  generalize hh2 : ha.new (.cells (lcells (.slice none 0 0) 0 m) false 0) = hb at o2
  obtain ⟨⟨⟨⟩, h'⟩, e1, sq, A, qs, g1, g2, g3, g4⟩ := loopT_up (f := fun a : (Int × Unit) × Heap => f_lock_New_L13 n (N : Int) ha a.1.1 a.2)
    (I := fun j a => a.1.1 = (j : Int) ∧ ∃ sq A, ∃ qs : List Qd, Slc 1 sq j (qs.map Qd.cell) A ∧ qs.length = j ∧ (∀ d ∈ qs, d.last = 0 ∧ d.Q = [(d.q, qz)]) ∧ Own a.2 ((p, .cells (lcells sq 0 m) false 0) :: (m, .map []) :: (A ++ (qs.flatMap Qd.Q ++ F))))
    (Q := fun r => ∃ sq A, ∃ qs : List Qd, Slc 1 sq N (qs.map Qd.cell) A ∧ qs.length = N ∧ (∀ d ∈ qs, d.last = 0 ∧ d.Q = [(d.q, qz)]) ∧ Own r.2 ((p, .cells (lcells sq 0 m) false 0) :: (m, .map []) :: (A ++ (qs.flatMap Qd.Q ++ F)))) (N := N) (k := n) (j := 0) (a := ((0, ()), hb)) (by omega) (Nat.zero_le _)
    ⟨rfl, .slice none 0 0, [], [], .nil, rfl, fun _ h => absurd h List.not_mem_nil, o2⟩ (by
      rintro j ⟨⟨i, _⟩, hh⟩ hj ⟨rfl, sq, A, qs, hs, hq, hz, ow⟩
      have ow : Own hh ((p, .cells (lcells sq 0 m) false 0) :: (m, .map []) :: (A ++ (qs.flatMap Qd.Q ++ F))) := ow
      have o1 := ow.new qz
      generalize hq1 : hh.next = q at o1
      generalize hh1 : hh.new qz = h1 at o1
      obtain ⟨sq', h2, A', e1, l1, o2⟩ := hs.push (h := h1) (new := [.pointer (some ⟨q, 0, none⟩)]) (F := (p, .cells (lcells sq 0 m) false 0) :: (q, qz) :: (m, .map []) :: (qs.flatMap Qd.Q ++ F)) (bytes := 8) (o1.to fun x => by simp only [cnt_append, cnt_cons, cnt_nil]; omega) (by decide) rfl (by omega)
      have o3 : Own h2 ((p, .cells (lcells sq 0 m) false 0) :: (A' ++ ((q, qz) :: (m, .map []) :: (qs.flatMap Qd.Q ++ F)))) := o2.to fun x => by simp only [cnt_append, cnt_cons, cnt_nil]; omega
      have st : stB 1 sq' h2 (some ⟨p, 0, none⟩) = some (h2.put p (.cells (lcells sq' 0 m) false 0)) := by
        rw [stB1_of o3.head l1.cellsOf l1.isCell (by simp [lcells])]; rfl
      have ld : ldT .any hh (some ⟨p, 0, none⟩) = some sq := by rw [ldT_of ow.head]; rfl
      have hlt : (j : Int) < (N : Int) := by omega
      refine .inl ⟨((((j + 1 : Nat) : Int), ()), h2.put p (.cells (lcells sq' 0 m) false 0)), ?_, rfl, sq', A', qs ++ [⟨q, 0, [(q, qz)]⟩], ?_, by simp [hq], ?_, ?_⟩
      · have f1 : fillL [.slice none 0 0, .int .u64 0] [] = some [.slice none 0 0, .int .u64 0] := rfl
        have f2 : fillL [.pointer none] [(0, 1, .pointer (some ⟨q, 0, none⟩))] = some [.pointer (some ⟨q, 0, none⟩)] := rfl
        have c1 : ([.slice none 0 0, .int .u64 0] : List Value).all isCell = true := rfl
        simp only [f_lock_New_L13, hlt, decide_true, cond_true, nwA_eq, hp, hq1, fa_mk, Nat.zero_add, ld, Option.bind_some, f1, c1, bnd_eq, hh1, f2, e1, st, wrap_succ (j := j) (by omega)]
      · rw [List.map_append]; exact l1
      · intro d hd
        rcases List.mem_append.1 hd with h1 | h1
        · exact hz d h1
        · simp only [List.mem_singleton] at h1; subst h1; exact ⟨rfl, rfl⟩
      · exact (o3.put (.cells (lcells sq' 0 m) false 0)).to fun x => by simp only [List.flatMap_append, List.flatMap_cons, List.flatMap_nil, cnt_append, cnt_cons, cnt_nil]; omega) (by
      rintro ⟨⟨i, _⟩, hh⟩ ⟨rfl, sq, A, qs, hs, hq, hz, ow⟩
      exact ⟨(((), ()), hh).2 |> fun _ => ((), hh), by simp [f_lock_New_L13], sq, A, qs, hs, hq, hz, ow⟩)
  refine ⟨p, h', _, ?_, ⟨sq, A, m, qs, g1, ⟨g2, fun i hi => ?_, .nil, fun _ h => absurd h List.not_mem_nil, fun _ h => absurd h List.not_mem_nil, by simp, h2⟩, rfl⟩, g4.to fun x => by simp only [List.map_nil, List.flatMap_nil, cnt_append, cnt_cons, cnt_nil, List.append_nil, List.cons_append]; omega⟩
  · have f1 : fillL [.slice none 0 0, .int .u64 0, .map none] [(2, 1, .map (some m))] = some (lcells (.slice none 0 0) 0 m) := rfl
    have c1 : (lcells (.slice none 0 0) 0 m).all isCell = true := rfl
    have e1' : loopT (fun a : (Int × Unit) × Heap => f_lock_New_L13 n (N : Int) ha a.1.1 a.2) n ((0, ()), hb) = some ((), h') := e1
    have a1 : ¬ ((N : Int) < 1) := by omega
    have a2 : ¬ ((64 : Int) < (N : Int)) := by omega
    simp only [f_lock_New, a1, a2, decide_false, cond_false, Option.bind_some, hm, bnd_eq, hh1, f1, c1, cond_true, hh2, nwA_eq, hp, e1']
  · have hd := g3 _ (List.getElem_mem hi)
    refine ⟨⟨.slice none 0 0, [], ?_, ?_⟩, by omega⟩
    · exact .nil
    · rw [hd.2, hd.1]
end
end Go.Proofs.Ytadkkmingfajdaa

/- Locks: a ticket is laid. -/
namespace Go.Proofs.Ytadkkmingfajdaa
open Go
set_option linter.unusedVariables false
set_option linter.unusedSimpArgs false

section
variable {p N n : Nat} {es : List Hd} {last t : Int} {L F : Ch} {h : Heap} {X : List Int} {s : Value} {G : Ch}

theorem rises_ok (hs : Rds h 1 s X.length (iz .i64 X)) (hlen : X.length ≤ 1000) (hn : 2000 ≤ n) : ∃ b, f_lock_rises n s h = some ((b, ()), h) ∧ (b = true ↔ X ≠ [] ∧ X.Pairwise (· < ·)) := by
  obtain ⟨r, e1, e2⟩ := loopT_up (f := fun a : (Int × Unit) × Heap => f_lock_rises_L8 n s a.1.1 a.2)
    (I := fun j a => a = ((((j + 1 : Nat) : Int), ()), h) ∧ ∀ i, (hi : i + 1 < X.length) → i < j → X[i] < X[i + 1])
    (Q := fun r => (r = .inl ((), h) ∧ ∀ i, (hi : i + 1 < X.length) → X[i] < X[i + 1]) ∨ (r = .inr ((false, ()), h) ∧ ∃ i, ∃ hi : i + 1 < X.length, ¬ X[i] < X[i + 1])) (N := X.length - 1) (k := n) (j := 0) (a := ((1, ()), h)) (by omega) (Nat.zero_le _)
    ⟨rfl, fun i _ hi => by omega⟩ (by
      rintro j a hj ⟨rfl, hup⟩
      obtain ⟨q, a1, a2⟩ := hs.int (L := X) (i := j + 1) (by omega)
      obtain ⟨q2, b1, b2⟩ := hs.int (L := X) (i := j) (by omega)
      have hw : IntKind.i64.wrap (((j + 1 : Nat) : Int) - 1) = (j : Int) := by rw [wrap_i64 (by omega) (by omega)]; omega
      have hlt : ((j + 1 : Nat) : Int) < (X.length : Int) := by omega
      by_cases hx : X[j] < X[j + 1]
      · refine .inl ⟨((((j + 1 + 1 : Nat) : Int), ()), h), ?_, rfl, fun i hi hij => ?_⟩
        · have hx' : ¬ X[j + 1] ≤ X[j] := by omega
          simp only [f_lock_rises_L8, hs.lenB, Option.bind_some, hlt, decide_true, cond_true, a1, a2, hw, b1, b2, hx', decide_false, cond_false, wrap_succ (j := j + 1) (by omega)]
        · by_cases hij2 : i = j
          · subst hij2; exact hx
          · exact hup i hi (by omega)
      · refine .inr ⟨.inr ((false, ()), h), ?_, .inr ⟨rfl, j, by omega, hx⟩⟩
        have hx' : X[j + 1] ≤ X[j] := by omega
        simp only [f_lock_rises_L8, hs.lenB, Option.bind_some, hlt, decide_true, cond_true, a1, a2, hw, b1, b2, hx']) (by
      rintro a ⟨rfl, hup⟩
      refine ⟨.inl ((), h), ?_, .inl ⟨rfl, fun i hi => hup i hi (by omega)⟩⟩
      have hlt : ¬ (((X.length - 1 + 1 : Nat) : Int) < (X.length : Int)) := by omega
      simp only [f_lock_rises_L8, hs.lenB, Option.bind_some, hlt, decide_false, cond_false])
  have e1' : loopT (fun a : (Int × Unit) × Heap => f_lock_rises_L8 n s a.1.1 a.2) n ((1, ()), h) = some r := e1
  rcases e2 with ⟨rfl, hup⟩ | ⟨rfl, i, hi, hx⟩
  · refine ⟨decide (0 < (X.length : Int)), by simp only [f_lock_rises, f_lock_rises_C9, e1', thenB_inl, hs.lenB, Option.bind_some], ?_⟩
    rw [decide_eq_true_iff]
    constructor
    · intro h0
      refine ⟨fun e => by rw [e] at h0; simp at h0, ?_⟩
      rw [List.pairwise_iff_getElem]
      intro i j hi hj hij
      obtain ⟨d, rfl⟩ : ∃ d, j = i + 1 + d := ⟨j - i - 1, by omega⟩
      clear hij
      induction d with
      | zero => exact hup i (by omega)
      | succ d ih =>
        have h1 := ih (by omega)
        have h2 := hup (i + 1 + d) (by omega)
        exact Int.lt_trans h1 h2
    · intro ⟨h0, _⟩
      have : X.length ≠ 0 := fun e => h0 (List.eq_nil_of_length_eq_zero e)
      omega
  · refine ⟨false, by simp only [f_lock_rises, f_lock_rises_C9, e1', thenB_inr], ?_⟩
    constructor
    · intro h; cases h
    · intro ⟨_, h2⟩
      rw [List.pairwise_iff_getElem] at h2
      exact absurd (h2 i (i + 1) (by omega) hi (by omega)) hx

theorem qcell {sq : Value} {qs : List Qd} (hs : Rds h 1 sq N (qs.map Qd.cell)) (hq : qs.length = N) {i : Nat} (hi : i < qs.length) : ∃ a, ixB 1 sq (i : Int) = some a ∧ ldT .ptr h (some a) = some (some ⟨qs[i].q, 0, none⟩) := by
  obtain ⟨a, e1, e2⟩ := hs.ix i (by omega)
  refine ⟨a, e1, ?_⟩
  rw [e2.ldT0 (v := .pointer (some ⟨qs[i].q, 0, none⟩)) ?_]
  · rfl
  · rw [Nat.mul_one, List.getElem?_take, if_pos (by omega), List.getElem?_drop, Nat.add_zero, List.getElem?_map, List.getElem?_eq_getElem hi]; rfl

theorem quu_snoc {e : Hd} {b : Int} : quu (es ++ [e]) b = quu es b ++ (if b ∈ e.X then [e.t] else []) := by
  unfold quu
  rw [List.filter_append, List.map_append]
  congr 1
  by_cases hb : b ∈ e.X
  · simp [hb]
  · simp [hb]
theorem quu_len {b : Int} : (quu es b).length ≤ es.length := by
  unfold quu; rw [List.length_map]; exact List.length_filter_le ..

/-- The queues while a ticket is laid. -/
def Mid (N : Nat) (es : List Hd) (last t : Int) (X : List Int) (cells : List Value) (qs : List Qd) : Prop :=
  qs.length = N ∧ qs.map Qd.cell = cells ∧ ∀ i (hi : i < qs.length), Qx qs[i].q (quu es (i : Int) ++ (if (i : Int) ∈ X then [t] else [])) qs[i].last qs[i].Q ∧ qs[i].last ≤ (if (i : Int) ∈ X then t else last)

theorem lay_loop {sq : Value} {A : Ch} {cells : List Value} {qs0 : List Qd} {m : Nat} {ro : Bool} (hsq : Slc 1 sq N cells A) (h0 : Mid N es last t [] cells qs0) (hX : SetOk N X) (ht : last < t) (hs : Sow 1 s X.length (iz .i64 X) G)
    (hes : es.length ≤ 900) (hN : N ≤ 64) (ho : Own h ((p, .cells (lcells sq last m) ro 0) :: (A ++ (qs0.flatMap Qd.Q ++ (G ++ F))))) (hn : 2000 ≤ n) :
    ∃ h' qs, loopT (fun a : (Int × Unit) × Heap => f_lock_Locks_Lay_L22 n s t (some ⟨p, 0, none⟩) X.length a.1.1 a.2) n ((0, ()), h) = some ((), h') ∧ Mid N es last t X cells qs ∧ Own h' ((p, .cells (lcells sq last m) ro 0) :: (A ++ (qs.flatMap Qd.Q ++ (G ++ F)))) := by
  have hlen := hX.len
  obtain ⟨⟨⟨⟩, h'⟩, e1, qs, g1, g2⟩ := loopT_up (f := fun a : (Int × Unit) × Heap => f_lock_Locks_Lay_L22 n s t (some ⟨p, 0, none⟩) X.length a.1.1 a.2)
    (I := fun j a => a.1.1 = (j : Int) ∧ ∃ qs, Mid N es last t (X.take j) cells qs ∧ Own a.2 ((p, .cells (lcells sq last m) ro 0) :: (A ++ (qs.flatMap Qd.Q ++ (G ++ F)))))
    (Q := fun r => ∃ qs, Mid N es last t X cells qs ∧ Own r.2 ((p, .cells (lcells sq last m) ro 0) :: (A ++ (qs.flatMap Qd.Q ++ (G ++ F))))) (N := X.length) (k := n) (j := 0) (a := ((0, ()), h)) (by omega) (Nat.zero_le _)
    ⟨rfl, qs0, by simpa using h0, ho⟩ (by
      rintro j ⟨⟨z, _⟩, hh⟩ hj ⟨rfl, qs, ⟨q1, q2, q3⟩, ow⟩
      have ow : Own hh ((p, .cells (lcells sq last m) ro 0) :: (A ++ (qs.flatMap Qd.Q ++ (G ++ F)))) := ow
      have rs : Rds hh 1 s X.length (iz .i64 X) := hs hh fun x hx => ow.get x (by simp [hx])
      obtain ⟨a, a1, a2⟩ := rs.int (L := X) hj
      have hb := hX.2.2 _ (List.getElem_mem hj)
      obtain ⟨i, hi⟩ : ∃ i : Nat, X[j] = (i : Int) := ⟨X[j].toNat, by omega⟩
      have hiN : i < qs.length := by omega
      have rq : Rds hh 1 sq N (qs.map Qd.cell) := by rw [q2]; exact hsq.sow hh fun x hx => ow.get x (by simp [hx])
      obtain ⟨b, b1, b2⟩ := qcell rq q1 hiN
      obtain ⟨c1, c2⟩ := q3 i hiN
      have hni : ¬ (i : Int) ∈ X.take j := by
        intro hm
        rw [List.mem_take_iff_getElem] at hm
        obtain ⟨k, hk, e⟩ := hm
        have := List.pairwise_iff_getElem.1 hX.2.1 k j (by omega) hj (by omega)
        omega
      rw [if_neg hni] at c1 c2
      rw [List.append_nil] at c1
      have hql : (quu es (i : Int)).length ≤ 1000 := Nat.le_trans quu_len (by omega)
      have od : Own hh (qs[i].Q ++ ((qs.eraseIdx i).flatMap Qd.Q ++ ((p, .cells (lcells sq last m) ro 0) :: (A ++ (G ++ F))))) := ow.to fun x => by
        have := fm_at Qd.Q hiN x
        simp only [cnt_append, cnt_cons, cnt_nil]; omega
      obtain ⟨h1, Q1, e1, e2, o1⟩ := put_ok (n := n) (sp := none) (t := t) c1 od hql
      have htl : ¬ t ≤ qs[i].last := by omega
      rw [if_neg htl] at e1
      rw [if_neg htl, if_neg htl] at e2
      refine .inl ⟨((((j + 1 : Nat) : Int), ()), h1), ?_, rfl, qs.set i ⟨qs[i].q, t, Q1⟩, ⟨by simpa using q1, ?_, fun k hk => ?_⟩, ?_⟩
      · have ld : ldT .any hh (some ⟨p, 0, none⟩) = some sq := by rw [ldT_of ow.head]; rfl
        rw [hi] at a2
        have hlt : (j : Int) < (X.length : Int) := by omega
        simp only [f_lock_Locks_Lay_L22, hlt, decide_true, cond_true, a1, a2, Option.bind_some, fa_mk, Nat.zero_add, ld, b1, b2, e1, wrap_succ (j := j) (by omega)]
      · rw [← q2, List.map_set]
        have : Qd.cell ⟨qs[i].q, t, Q1⟩ = (qs.map Qd.cell)[i]'(by simpa using hiN) := by simp [Qd.cell]
        rw [this, List.set_getElem_self]
      · rw [List.length_set] at hk
        have htk : ∀ k : Nat, (k : Int) ∈ X.take (j + 1) ↔ (k : Int) ∈ X.take j ∨ k = i := by
          intro k
          rw [take_snoc hj, List.mem_append, List.mem_singleton, hi]
          constructor
          · rintro (h | h)
            · exact .inl h
            · exact .inr (by omega)
          · rintro (h | h)
            · exact .inl h
            · exact .inr (by omega)
        by_cases hki : k = i
        · subst hki
          rw [List.getElem_set_self]
          have : (k : Int) ∈ X.take (j + 1) := (htk k).2 (.inr rfl)
          rw [if_pos this, if_pos this]
          exact ⟨e2, Int.le_refl _⟩
        · rw [List.getElem_set_ne (fun e => hki e.symm)]
          have h3 := q3 k hk
          by_cases hm : (k : Int) ∈ X.take j
          · rw [if_pos ((htk k).2 (.inl hm)), if_pos ((htk k).2 (.inl hm))]
            rw [if_pos hm, if_pos hm] at h3; exact h3
          · have hm' : ¬ (k : Int) ∈ X.take (j + 1) := fun h => ((htk k).1 h).elim hm hki
            rw [if_neg hm', if_neg hm']
            rw [if_neg hm, if_neg hm] at h3; exact h3
      · exact o1.to fun x => by
          have := fm_set Qd.Q (y := (⟨qs[i].q, t, Q1⟩ : Qd)) hiN x
          simp only [cnt_append, cnt_cons, cnt_nil] at this ⊢; omega) (by
      rintro ⟨⟨z, _⟩, hh⟩ ⟨rfl, qs, hm, ow⟩
      rw [List.take_length] at hm
      exact ⟨((), hh), by simp [f_lock_Locks_Lay_L22], qs, hm, ow⟩)
  exact ⟨h', qs, e1, g1, g2⟩
end
end Go.Proofs.Ytadkkmingfajdaa

/- Locks: Lay, Next, Held. -/
namespace Go.Proofs.Ytadkkmingfajdaa
open Go
set_option linter.unusedVariables false
set_option linter.unusedSimpArgs false

section
variable {p N n : Nat} {es : List Hd} {last t : Int} {L F : Ch} {h : Heap} {X : List Int} {s : Value} {G : Ch}

theorem Ls.mid {qs : List Qd} (hl : Ls N es last qs) : Mid N es last t [] (qs.map Qd.cell) qs := ⟨hl.nq, rfl, fun i hi => by
  have := hl.q i hi
  simpa using this⟩

theorem mapUp_new {r : Nat} {kvs : List (Value × Value)} {v : Value} (h1 : h.get r = some (.map kvs)) (hf : findKv .u64 t kvs 0 = some none) (hv : isTuple v = false) : mapUpdateK h .u64 (.map (some r)) (.int .u64 t) v = some (undef, h.put r (.map (kvs ++ [(.int .u64 t, v)]))) := by
  simp [mapUpdateK, h1, hf, hv]

theorem lay_ok (hd : Lk p N es last L) (hs : Sow 1 s X.length (iz .i64 X) G) (hX : SetOk N X) (ht : last < t) (hes : es.length < 900) (ho : Own h (L ++ (G ++ F))) (hn : 2000 ≤ n) :
    ∃ h' s' A' L', f_lock_Locks_Lay n (some ⟨p, 0, none⟩) t s h = some ((0, ()), h') ∧ Lk p N (es ++ [⟨t, X, 0, s', A'⟩]) t L' ∧ Own h' (L' ++ (G ++ F)) := by
  obtain ⟨sq, A, m, qs, hsq, hl, rfl⟩ := hd
  have hlen := hX.len
  have hN := hl.small
  have o0 : Own h ((p, .cells (lcells sq last m) false 0) :: (A ++ (qs.flatMap Qd.Q ++ (G ++ ((m, .map (es.map Hd.kv)) :: (es.flatMap Hd.A ++ F)))))) := ho.to fun x => by simp only [cnt_append, cnt_cons, cnt_nil]; omega
  have rs : Rds h 1 s X.length (iz .i64 X) := hs h fun x hx => o0.get x (by simp [hx])
  obtain ⟨b, e1, hb⟩ := rises_ok (n := n) rs (by omega) hn
  obtain rfl : b = true := hb.2 ⟨hX.1, hX.2.1⟩
  have hpos : 0 < X.length := by have := hX.1; cases X with | nil => exact absurd rfl this | cons => simp
  obtain ⟨a, a1, a2⟩ := rs.int (L := X) hpos
  obtain ⟨c, c1, c2⟩ := rs.int (L := X) (i := X.length - 1) (by omega)
  have hw : IntKind.i64.wrap ((X.length : Int) - 1) = ((X.length - 1 : Nat) : Int) := by rw [wrap_i64 (by omega) (by omega)]; omega
  have hlo := (hX.2.2 _ (List.getElem_mem hpos)).1
  have hhi := (hX.2.2 _ (List.getElem_mem (show X.length - 1 < X.length by omega))).2
  have ld0 : ldT .any h (some ⟨p, 0, none⟩) = some sq := by rw [ldT_of o0.head]; rfl
  have ld1 : ldT (.int .u64) h (some ⟨p, 1, none⟩) = some last := by rw [ldT_of o0.head]; rfl
  have rsq : Rds h 1 sq N (qs.map Qd.cell) := hsq.sow h fun x hx => o0.get x (by simp [hx])
  obtain ⟨h1, qs', e2, hm, o1⟩ := lay_loop (n := n) hsq (hl.mid (t := t)) hX ht hs hl.few hN o0 hn
  have st : stB 1 (.int .u64 t) h1 (some ⟨p, 1, none⟩) = some (h1.put p (.cells (lcells sq t m) false 0)) := by
    rw [stB1_of o1.head rfl rfl (by simp [lcells])]; rfl
  have o2 := o1.put (.cells (lcells sq t m) false 0)
  generalize hh2 : h1.put p (.cells (lcells sq t m) false 0) = h2 at o2
  have ld2 : ldT .any h2 (some ⟨p, 2, none⟩) = some (.map (some m)) := by rw [ldT_of o2.head]; rfl
  obtain ⟨s', h3, A', e3, l3, o3⟩ := clone_ok (n := n) hs (F := (p, .cells (lcells sq t m) true 0) :: (A ++ (qs'.flatMap Qd.Q ++ ((m, .map (es.map Hd.kv)) :: (es.flatMap Hd.A ++ F))))) (o2.ro.to fun x => by simp only [cnt_append, cnt_cons, cnt_nil]; omega) (by omega)
  have o4 := Own.back (h0 := h2) (ro := false) (X := A' ++ (G ++ (A ++ (qs'.flatMap Qd.Q ++ ((m, .map (es.map Hd.kv)) :: (es.flatMap Hd.A ++ F)))))) (o3.to fun x => by simp only [cnt_append, cnt_cons, cnt_nil]; omega) o2.head
  generalize hh4 : h3.putBack h2 [p] = h4 at o4
  have o5 : Own h4 ((m, .map (es.map Hd.kv)) :: ((p, .cells (lcells sq t m) false 0) :: (A ++ (qs'.flatMap Qd.Q ++ (A' ++ (es.flatMap Hd.A ++ (G ++ F))))))) := o4.to fun x => by simp only [cnt_append, cnt_cons, cnt_nil]; omega
  have hnone : findKv .u64 t (es.map Hd.kv) 0 = some none := findKv_none fun e he => by have := hl.le e he; omega
  have e4 := mapUp_new (v := .agg ⟨[s', .int .i64 0]⟩) o5.head hnone rfl
  have o6 := o5.put (.map (es.map Hd.kv ++ [(.int .u64 t, .agg ⟨[s', .int .i64 0]⟩)]))
  refine ⟨_, s', A', _, ?_, ⟨sq, A, m, qs', hm.2.1 ▸ hsq, ⟨hm.1, fun i hi => ?_, ?_, fun e he => ?_, fun e he => ?_, by simp; omega, hN⟩, rfl⟩, o6.to fun x => by simp only [List.map_append, List.map_cons, List.map_nil, List.flatMap_append, List.flatMap_cons, List.flatMap_nil, Hd.kv, Hd.cells, Int.natCast_zero, cnt_append, cnt_cons, cnt_nil, List.cons_append]; omega⟩
  · have f1 : fillL [.slice none 0 0, .int .i64 0] [(0, 1, s')] = some [s', .int .i64 0] := by simp [fillL, l3.cellsOf, l3.isCell]; rfl
    have g1 : ¬ X[0] < 0 := by omega
    have g2 : ¬ (N : Int) ≤ X[X.length - 1] := by omega
    have g3 : ¬ t ≤ last := by omega
    have a1 : ixB 1 s 0 = some a := a1
    simp only [f_lock_Locks_Lay, Option.isNone_some, cond_false, e1, Option.bind_some, Bool.not_true, a1, a2, g1, decide_false, cond_false, rs.lenB, Option.bind_some, hw, c1, c2, fa_mk, Nat.zero_add, ld0, rsq.lenB, g2, ld1, g3, e2, st, hh2, ld2, List.nil_append, e3, bnd_eq, hh4, f1, e4]
  · have := hm.2.2 i hi
    rw [quu_snoc]
    refine ⟨this.1, ?_⟩
    have h2 := this.2
    split at h2 <;> omega
  · rw [List.pairwise_append]
    refine ⟨hl.up, by simp, fun a ha b hb => ?_⟩
    simp only [List.mem_singleton] at hb; subst hb
    have := hl.le a ha; simp; omega
  · rcases List.mem_append.1 he with h1 | h1
    · have := hl.le e h1; omega
    · simp only [List.mem_singleton] at h1; subst h1; exact Int.le_refl _
  · rcases List.mem_append.1 he with h1 | h1
    · exact hl.set e h1
    · simp only [List.mem_singleton] at h1; subst h1; exact ⟨hX, Nat.zero_le _, l3⟩
end
end Go.Proofs.Ytadkkmingfajdaa

/- Locks: what is looked up: Next, Held, Ready, Contains. -/
namespace Go.Proofs.Ytadkkmingfajdaa
open Go
set_option linter.unusedVariables false
set_option linter.unusedSimpArgs false

section
variable {p N n : Nat} {es : List Hd} {last t : Int} {L F : Ch} {h : Heap} {X : List Int} {s : Value} {G : Ch}

theorem Slc.pre {es m i : Nat} {s : Value} {cs : List Value} {A : Ch} {k : IntKind} (hs : Slc es s m cs A) (hes : 1 ≤ es) (hi : i ≤ m) : ∃ s', sliceK h es none (some (.int k (i : Int))) none s = some (s', h) ∧ Sow es s' i (cs.take (i * es)) A := by
  cases hs with
  | nil =>
    obtain rfl : i = 0 := by omega
    exact ⟨.slice none 0 0, rfl, by simpa using Slc.nil.sow⟩
  | @mk b off sp _ c pre _ rest hp hl hr =>
    have hc : i ≤ c := by
      have : m * es ≤ c * es := by omega
      have := Nat.le_of_mul_le_mul_right this (by omega)
      omega
    have hie : i * es ≤ m * es := Nat.mul_le_mul_right es hi
    refine ⟨_, sliceK_h hc, ?_⟩
    have := (Slc.mk (b := b) (sp := sp) (n := i) (c := c) (es := es) (pre := pre) (cs := cs.take (i * es)) (rest := cs.drop (i * es) ++ rest) hp (by simp; omega) (by simp; omega)).sow
    have he : cs.take (i * es) ++ (cs.drop (i * es) ++ rest) = cs ++ rest := by rw [← List.append_assoc, List.take_append_drop]
    rw [he] at this; exact this

theorem bnext_ok {k : Nat} (hs : Rds h 1 s X.length (iz .i64 X)) : f_blocks_Next n s (k : Int) h = some ((X[k]?.getD 0, decide (k < X.length), ()), h) := by
  have h1 : ¬ ((k : Int) < 0) := by omega
  by_cases hk : k < X.length
  · obtain ⟨a, a1, a2⟩ := hs.int (L := X) hk
    have h2 : ¬ ((X.length : Int) ≤ (k : Int)) := by omega
    simp only [f_blocks_Next, h1, decide_false, cond_false, hs.lenB, Option.bind_some, h2, a1, a2, hk, decide_true, List.getElem?_eq_getElem hk, Option.getD_some]
  · have h2 : (X.length : Int) ≤ (k : Int) := by omega
    simp only [f_blocks_Next, h1, decide_false, cond_false, hs.lenB, Option.bind_some, h2, decide_true, cond_true, hk, List.getElem?_eq_none (Nat.not_lt.1 hk), Option.getD_none]

theorem contains_ok {b : Int} (hs : Rds h 1 s X.length (iz .i64 X)) (hlen : X.length ≤ 1000) (hn : 2000 ≤ n) : f_slices_Contains_int_int n s b h = some ((decide (b ∈ X), ()), h) := by
  obtain ⟨r, e1, e2⟩ := loopT_up (f := fun a : (Int × Unit) × Heap => f_slices_Index_int_int_L5 n b s X.length a.1.1 a.2)
    (I := fun j a => a = (((j : Int), ()), h) ∧ b ∉ X.take j) (Q := fun r => (∃ k : Nat, r = (((k : Int), ()), h) ∧ b ∈ X) ∨ (r = ((-1, ()), h) ∧ b ∉ X)) (N := X.length) (k := n) (j := 0) (a := ((0, ()), h)) (by omega) (Nat.zero_le _) ⟨rfl, by simp⟩ (by
      rintro j a hj ⟨rfl, hno⟩
      obtain ⟨q, a1, a2⟩ := hs.int (L := X) hj
      have hlt : (j : Int) < (X.length : Int) := by omega
      by_cases hb : b = X[j]
      · refine .inr ⟨(((j : Int), ()), h), ?_, .inl ⟨j, rfl, hb ▸ List.getElem_mem hj⟩⟩
        simp only [f_slices_Index_int_int_L5, hlt, decide_true, cond_true, a1, a2, Option.bind_some]
        simp [hb]
      · refine .inl ⟨((((j + 1 : Nat) : Int), ()), h), ?_, rfl, ?_⟩
        · simp only [f_slices_Index_int_int_L5, hlt, decide_true, cond_true, a1, a2, Option.bind_some, hb, decide_false, cond_false, wrap_succ (j := j) (by omega)]
        · rw [take_snoc hj, List.mem_append, List.mem_singleton]; exact fun h => h.elim hno hb) (by
      rintro a ⟨rfl, hno⟩
      rw [List.take_length] at hno
      exact ⟨((-1, ()), h), by simp [f_slices_Index_int_int_L5], .inr ⟨rfl, hno⟩⟩)
  have e1' : loopT (fun a : (Int × Unit) × Heap => f_slices_Index_int_int_L5 n b s X.length a.1.1 a.2) n ((0, ()), h) = some r := e1
  rcases e2 with ⟨k, rfl, hb⟩ | ⟨rfl, hb⟩
  · have : (0 : Int) ≤ (k : Int) := by omega
    simp [f_slices_Contains_int_int, f_slices_Index_int_int, hs.lenB, e1', hb]
  · simp [f_slices_Contains_int_int, f_slices_Index_int_int, hs.lenB, e1', hb]

/-- What a ticket's entry is, if it has one. -/
def ent (es : List Hd) (t : Int) : Option Hd := es.find? fun e => e.t == t
def setOf (o : Option Hd) : List Int := match o with | some e => e.X | none => []
def hldOf (o : Option Hd) : Nat := match o with | some e => e.held | none => 0

theorem ent_none (hn : ∀ e ∈ es, e.t ≠ t) : ent es t = none := by
  unfold ent; rw [List.find?_eq_none]; intro x hx; simpa using hn x hx
theorem ent_at : ∀ {es : List Hd} {j : Nat} (hj : j < es.length), es[j].t = t → (∀ e ∈ es.take j, e.t < t) → ent es t = some es[j] := by
  intro es
  induction es with
  | nil => intro j hj; simp at hj
  | cons e es ih =>
    intro j hj h1 h2
    cases j with
    | zero =>
      simp only [List.getElem_cons_zero] at h1 ⊢
      simp [ent, List.find?, h1]
    | succ j =>
      simp only [List.getElem_cons_succ] at h1 ⊢
      have h3 := h2 e (by simp)
      have : ent (e :: es) t = ent es t := by
        have h4 : (e.t == t) = false := by simpa using (by omega : e.t ≠ t)
        simp [ent, List.find?, h4]
      rw [this]; exact ih (by simpa using hj) h1 fun x hx => h2 x (by simp [hx])

/-- The look at the holders, in one. -/
theorem looked {m : Nat} {qs : List Qd} (hl : Ls N es last qs) (hm : h.get m = some (.map (es.map Hd.kv))) (t : Int) :
    ∃ s A, lkT .any h .u64 (.agg ⟨z2⟩) (.map (some m)) t = some (.agg ⟨[s, .int .i64 (hldOf (ent es t) : Int)]⟩, (ent es t).isSome) ∧ Slc 1 s (setOf (ent es t)).length (iz .i64 (setOf (ent es t))) A ∧ (∀ x ∈ A, x ∈ es.flatMap Hd.A) ∧
      hldOf (ent es t) ≤ (setOf (ent es t)).length ∧ (setOf (ent es t)).length ≤ 64 := by
  rcases look_ok hm hl.up t with ⟨h1, h2⟩ | ⟨j, hj, h1, h2, h3, h4, h5⟩
  · rw [ent_none h1]
    exact ⟨.slice none 0 0, [], h2, .nil, fun _ h => absurd h List.not_mem_nil, Nat.le_refl _, Nat.zero_le _⟩
  · rw [ent_at hj h1 h2]
    have hs := hl.set _ (List.getElem_mem hj)
    refine ⟨es[j].s, es[j].A, h5, hs.2.2, fun x hx => List.mem_flatMap.2 ⟨_, List.getElem_mem hj, hx⟩, hs.2.1, ?_⟩
    have := hs.1.len
    have := hl.small
    simp only [setOf]; omega

/-- Next. -/
def nxt (o : Option Hd) : Int × Bool := ((setOf o)[hldOf o]?.getD 0, decide (hldOf o < (setOf o).length))
theorem next_ok (hd : Lk p N es last L) (ho : Own h (L ++ F)) :
    ∃ h', f_lock_Locks_Next n (some ⟨p, 0, none⟩) t h = some (((nxt (ent es t)).1, (nxt (ent es t)).2, ()), h') ∧ Own h' (L ++ F) := by
  obtain ⟨sq, A, m, qs, hsq, hl, rfl⟩ := hd
  have gm : h.get m = some (.map (es.map Hd.kv)) := ho.get (m, _) (by simp)
  have gp : h.get p = some (.cells (lcells sq last m) false 0) := ho.get (p, _) (by simp)
  have ld2 : ldT .any h (some ⟨p, 2, none⟩) = some (.map (some m)) := by rw [ldT_of gp]; rfl
  obtain ⟨s, As, e1, l1, hA, hh, _⟩ := looked hl gm t
  generalize ent es t = o at e1 l1 hh ⊢
  obtain ⟨h1, e2, o1⟩ := tmp2 (z := z2) (cs := [s, .int .i64 (hldOf o : Int)]) (m := 2) ho rfl rfl (by simp [l1.isCell])
  generalize hb : h.next = b at e2 o1
  generalize hh1 : h.new (.cells z2 false 0) = h0 at e2
  have ld0 : ldT .any h1 (some ⟨b, 0, none⟩) = some s := by rw [ldT_of o1.head]; rfl
  have ld1 : ldT (.int .i64) h1 (some ⟨b, 1, none⟩) = some (hldOf o : Int) := by rw [ldT_of o1.head]; rfl
  have rs : Rds h1 1 s (setOf o).length (iz .i64 (setOf o)) := l1.sow h1 fun x hx => o1.get x (by simp [hA x hx])
  refine ⟨h1, ?_, o1.tail⟩
  simp only [f_lock_Locks_Next, Option.isNone_some, cond_false, Option.bind_some, fa_mk, Nat.zero_add, ld2, e1, bnd_eq, hh1, nwA_eq, hb, e2, ld0, ld1, bnext_ok rs, nxt]

theorem held_ok (hd : Lk p N es last L) (ho : Own h (L ++ F)) :
    ∃ s' h' A', f_lock_Locks_Held n (some ⟨p, 0, none⟩) t h = some ((s', ()), h') ∧ Slc 1 s' (hldOf (ent es t)) (iz .i64 ((setOf (ent es t)).take (hldOf (ent es t)))) A' ∧ Own h' (A' ++ (L ++ F)) := by
  obtain ⟨sq, A, m, qs, hsq, hl, rfl⟩ := hd
  have gm : h.get m = some (.map (es.map Hd.kv)) := ho.get (m, _) (by simp)
  have gp : h.get p = some (.cells (lcells sq last m) false 0) := ho.get (p, _) (by simp)
  have ld2 : ldT .any h (some ⟨p, 2, none⟩) = some (.map (some m)) := by rw [ldT_of gp]; rfl
  obtain ⟨s, As, e1, l1, hA, hh, h64⟩ := looked hl gm t
  generalize ent es t = o at e1 l1 hh h64 ⊢
  obtain ⟨h1, e2, o1⟩ := tmp2 (z := z2) (cs := [s, .int .i64 (hldOf o : Int)]) (m := 2) ho rfl rfl (by simp [l1.isCell])
  generalize hb : h.next = b at e2 o1
  generalize hh1 : h.new (.cells z2 false 0) = h0 at e2
  have ld0 : ldT .any h1 (some ⟨b, 0, none⟩) = some s := by rw [ldT_of o1.head]; rfl
  have ld1 : ldT (.int .i64) h1 (some ⟨b, 1, none⟩) = some (hldOf o : Int) := by rw [ldT_of o1.head]; rfl
  obtain ⟨s2, e3, l3⟩ := l1.pre (h := h1) (k := .i64) (i := hldOf o) (by decide) hh
  have e : (iz .i64 (setOf o)).take (hldOf o * 1) = iz .i64 ((setOf o).take (hldOf o)) := by simp [iz, List.map_take]
  rw [e] at l3
  have hlen : ((setOf o).take (hldOf o)).length = hldOf o := by rw [List.length_take]; omega
  have l4 : Sow 1 s2 ((setOf o).take (hldOf o)).length (iz .i64 ((setOf o).take (hldOf o))) ((p, .cells (lcells sq last m) false 0) :: (m, .map (es.map Hd.kv)) :: (A ++ (qs.flatMap Qd.Q ++ es.flatMap Hd.A))) := by
    rw [hlen]; intro hx hg; exact l3 hx fun y hy => hg y (by simp [hA y hy])
  obtain ⟨s', h', A', e4, l5, o2⟩ := clone_ok (n := n) l4 (F := F) o1.tail (by omega)
  rw [hlen] at l5
  refine ⟨s', h', A', ?_, l5, o2⟩
  simp only [f_lock_Locks_Held, Option.isNone_some, cond_false, Option.bind_some, fa_mk, Nat.zero_add, ld2, e1, bnd_eq, hh1, nwA_eq, hb, e2, ld0, ld1, e3, e4, l5.notT, Bool.not_false, cond_true]

/-- Is a ticket first at its next block? -/
def rdy (es : List Hd) (t : Int) : Bool := (nxt (ent es t)).2 && decide ((quu es (nxt (ent es t)).1).head? = some t)
theorem ent_mem {e : Hd} (h : ent es t = some e) : e ∈ es ∧ e.t = t := by
  unfold ent at h
  exact ⟨List.mem_of_find?_eq_some h, by simpa using List.find?_some h⟩
theorem nxt_in {qs : List Qd} (hl : Ls N es last qs) (h : (nxt (ent es t)).2 = true) : ∃ i : Nat, i < qs.length ∧ (nxt (ent es t)).1 = (i : Int) := by
  simp only [nxt, decide_eq_true_eq] at h ⊢
  cases he : ent es t with
  | none => rw [he] at h; simp [setOf, hldOf] at h
  | some e =>
    rw [he] at h
    simp only [setOf, hldOf] at h ⊢
    have := (hl.set e (ent_mem he).1).1.2.2 _ (List.getElem_mem h)
    rw [List.getElem?_eq_getElem h, Option.getD_some]
    exact ⟨e.X[e.held].toNat, by have := hl.nq; omega, by omega⟩
theorem ready_ok (hd : Lk p N es last L) (ho : Own h (L ++ F)) :
    ∃ h', f_lock_Locks_Ready n (some ⟨p, 0, none⟩) t h = some ((rdy es t, ()), h') ∧ Own h' (L ++ F) := by
  obtain ⟨h1, e1, o1⟩ := next_ok (n := n) (t := t) hd ho
  obtain ⟨sq, A, m, qs, hsq, hl, rfl⟩ := hd
  refine ⟨h1, ?_, o1⟩
  cases hn : (nxt (ent es t)).2 with
  | false => rw [hn] at e1; simp only [f_lock_Locks_Ready, e1, Option.bind_some, Bool.not_false, cond_true, rdy, hn, Bool.false_and]
  | true =>
    rw [hn] at e1
    obtain ⟨i, hi, hix⟩ := nxt_in hl hn
    rw [hix] at e1
    have rsq : Rds h1 1 sq N (qs.map Qd.cell) := hsq.sow h1 fun x hx => o1.get x (by simp [hx])
    obtain ⟨a, a1, a2⟩ := qcell rsq hl.nq hi
    have gp : h1.get p = some (.cells (lcells sq last m) false 0) := o1.get (p, _) (by simp)
    have ld0 : ldT .any h1 (some ⟨p, 0, none⟩) = some sq := by rw [ldT_of gp]; rfl
    have e2 := first_ok (n := n) (sp := none) (hl.q i hi).1 (h := h1) (F := (qs.eraseIdx i).flatMap Qd.Q ++ F) (o1.to fun x => by
      have := fm_at Qd.Q hi x
      simp only [cnt_append, cnt_cons, cnt_nil, List.cons_append]; omega)
    simp only [f_lock_Locks_Ready, e1, Option.bind_some, Bool.not_true, cond_false, fa_mk, Nat.zero_add, ld0, a1, a2, e2, rdy, hn, hix, Bool.true_and]
    cases hq : quu es (i : Int) with
    | nil => simp
    | cons x xs => by_cases hx : x = t <;> simp [Go.Proofs.Ytadkkmingfajdaa.hd, hx]
end
end Go.Proofs.Ytadkkmingfajdaa

/- Locks: Take, Drop. -/
namespace Go.Proofs.Ytadkkmingfajdaa
open Go
set_option linter.unusedVariables false
set_option linter.unusedSimpArgs false

/-- A block more. -/
def bump (es : List Hd) (t : Int) : List Hd := es.map fun e => if e.t = t then { e with held := e.held + 1 } else e
/-- Without a ticket. -/
def rem (es : List Hd) (t : Int) : List Hd := es.filter fun e => decide (e.t ≠ t)
/-- What Take answers. -/
def tkn (es : List Hd) (t : Int) : Int × Int := match ent es t with
  | none => (0, 110)
  | some e => if e.held < e.X.length then (if rdy es t then (e.X[e.held]?.getD 0, 0) else (0, 130)) else (0, 180)
def tks (es : List Hd) (t : Int) : List Hd := if (tkn es t).2 = 0 then bump es t else es

section
variable {p N n : Nat} {es : List Hd} {last t : Int} {L F : Ch} {h : Heap} {X : List Int} {s : Value} {G : Ch}

theorem map_id {f : Hd → Hd} (h : ∀ e ∈ es, f e = e) : es.map f = es := by
  conv => rhs; rw [← List.map_id es]
  exact List.map_congr_left h
theorem cut_at {j : Nat} (hj : j < es.length) : es = es.take j ++ es[j] :: es.drop (j + 1) := by rw [List.getElem_cons_drop, List.take_append_drop]
theorem bump_at {j : Nat} (hj : j < es.length) (h1 : es[j].t = t) (h2 : ∀ e ∈ es.take j, e.t < t) (h3 : ∀ e ∈ es.drop (j + 1), t < e.t) : bump es t = es.set j { es[j] with held := es[j].held + 1 } := by
  have e : es.set j { es[j] with held := es[j].held + 1 } = es.take j ++ { es[j] with held := es[j].held + 1 } :: es.drop (j + 1) := by rw [List.set_eq_take_append_cons_drop, if_pos hj]
  rw [e]
  conv => lhs; unfold bump; rw [cut_at hj]
  rw [List.map_append, List.map_cons, if_pos h1, map_id, map_id]
  · intro e he; rw [if_neg]; have := h3 e he; omega
  · intro e he; rw [if_neg]; have := h2 e he; omega
theorem rem_at {j : Nat} (hj : j < es.length) (h1 : es[j].t = t) (h2 : ∀ e ∈ es.take j, e.t < t) (h3 : ∀ e ∈ es.drop (j + 1), t < e.t) : rem es t = es.eraseIdx j := by
  rw [List.eraseIdx_eq_take_drop_succ]
  conv => lhs; unfold rem; rw [cut_at hj]
  rw [List.filter_append, List.filter_cons, if_neg (by simp [h1]), List.filter_eq_self.2, List.filter_eq_self.2]
  · intro e he; have := h3 e he; simp; omega
  · intro e he; have := h2 e he; simp; omega
theorem quu_bump {b : Int} : quu (bump es t) b = quu es b := by
  unfold quu bump
  induction es with
  | nil => rfl
  | cons e es ih =>
    simp only [List.map_cons]
    by_cases he : e.t = t
    · simp only [he, if_true, List.filter_cons]
      split <;> simp [ih, he]
    · simp only [he, if_false, List.filter_cons]
      split <;> simp [ih]
theorem quu_rem {b : Int} : quu (rem es t) b = (quu es b).filter fun x => decide (x ≠ t) := by
  unfold quu rem
  induction es with
  | nil => rfl
  | cons e es ih =>
    simp only [List.filter_cons]
    by_cases he : e.t = t <;> by_cases hb : b ∈ e.X <;> simp [he, hb, List.filter_cons] at ih ⊢ <;> exact ih
theorem quu_up {b : Int} (up : es.Pairwise fun a b => a.t < b.t) : (quu es b).Pairwise (· < ·) := by
  unfold quu
  rw [List.pairwise_map]
  exact up.sublist List.filter_sublist
theorem bump_flat : (bump es t).flatMap Hd.A = es.flatMap Hd.A := by
  unfold bump
  induction es with
  | nil => rfl
  | cons e es ih =>
    simp only [List.map_cons, List.flatMap_cons, ih]
    split <;> rfl
theorem Ls.bump {qs : List Qd} (hl : Ls N es last qs) (hlt : ∀ e ∈ es, e.t = t → e.held < e.X.length) : Ls N (bump es t) last qs := by
  refine ⟨hl.nq, fun i hi => by rw [quu_bump]; exact hl.q i hi, ?_, fun e he => ?_, fun e he => ?_, by simpa [Go.Proofs.Ytadkkmingfajdaa.bump] using hl.few, hl.small⟩
  · unfold Go.Proofs.Ytadkkmingfajdaa.bump
    rw [List.pairwise_map]
    refine hl.up.imp fun {a b} hab => ?_
    split <;> split <;> exact hab
  · obtain ⟨e0, h0, rfl⟩ := List.mem_map.1 he
    have := hl.le e0 h0
    split <;> exact this
  · obtain ⟨e0, h0, rfl⟩ := List.mem_map.1 he
    have h1 := hl.set e0 h0
    split
    · rename_i h2
      have := hlt e0 h0 h2
      exact ⟨h1.1, by simp; omega, h1.2.2⟩
    · exact h1

theorem mapUp_set {r i : Nat} {kvs : List (Value × Value)} {v u : Value} (h1 : h.get r = some (.map kvs)) (hf : findKv .u64 t kvs 0 = some (some (i, u))) (hv : isTuple v = false) : mapUpdateK h .u64 (.map (some r)) (.int .u64 t) v = some (undef, h.put r (.map (kvs.set i (.int .u64 t, v)))) := by
  simp [mapUpdateK, h1, hf, hv]

theorem take_ok (hd : Lk p N es last L) (ho : Own h (L ++ F)) :
    ∃ h' L', f_lock_Locks_Take n (some ⟨p, 0, none⟩) t h = some (((tkn es t).1, (tkn es t).2, ()), h') ∧ Lk p N (tks es t) last L' ∧ Own h' (L' ++ F) := by
  have hd0 := hd
  obtain ⟨sq, A, m, qs, hsq, hl, hL⟩ := hd
  have ho0 := ho
  rw [hL] at ho
  have gm : h.get m = some (.map (es.map Hd.kv)) := ho.get (m, _) (by simp)
  have gp : h.get p = some (.cells (lcells sq last m) false 0) := ho.get (p, _) (by simp)
  have ld2 : ldT .any h (some ⟨p, 2, none⟩) = some (.map (some m)) := by rw [ldT_of gp]; rfl
  rcases look_ok gm hl.up t with ⟨h1, h2⟩ | ⟨j, hj, h1, h2, h3, h4, h5⟩
  · have he := ent_none h1
    obtain ⟨hx, e2, o1⟩ := tmp2 (z := z2) (cs := z2) (m := 2) ho0 rfl rfl rfl
    generalize hb : h.next = b at e2 o1
    generalize hh1 : h.new (.cells z2 false 0) = h0 at e2
    have ld0 : ldT .any hx (some ⟨b, 0, none⟩) = some (.slice none 0 0) := by rw [ldT_of o1.head]; rfl
    have ld1 : ldT (.int .i64) hx (some ⟨b, 1, none⟩) = some 0 := by rw [ldT_of o1.head]; rfl
    have e3 := bnext_ok (n := n) (h := hx) (s := .slice none 0 0) (X := []) (k := 0) (Slc.nil.sow hx fun x hx => absurd hx List.not_mem_nil)
    refine ⟨hx, L, ?_, ?_, o1.tail⟩
    · have e3 : f_blocks_Next n (.slice none 0 0) 0 hx = some ((0, false, ()), hx) := e3
      have htk : tkn es t = (0, 110) := by unfold tkn; rw [he]
      simp only [f_lock_Locks_Take, Option.isNone_some, cond_false, Option.bind_some, fa_mk, Nat.zero_add, ld2, h2, bnd_eq, hh1, nwA_eq, hb, e2, ld0, ld1, e3, Bool.not_false, cond_true, htk]
    · have : tks es t = es := by unfold tks tkn; rw [he]; rfl
      rw [this]; exact hd0
  · have he := ent_at hj h1 h2
    have hset := hl.set _ (List.getElem_mem hj)
    obtain ⟨hx, e2, o1⟩ := tmp2 (z := z2) (cs := es[j].cells) (m := 2) ho0 rfl rfl (by simp [Hd.cells, hset.2.2.isCell])
    generalize hb : h.next = b at e2 o1
    generalize hh1 : h.new (.cells z2 false 0) = h0 at e2
    have ld0 : ldT .any hx (some ⟨b, 0, none⟩) = some es[j].s := by rw [ldT_of o1.head]; rfl
    have ld1 : ldT (.int .i64) hx (some ⟨b, 1, none⟩) = some (es[j].held : Int) := by rw [ldT_of o1.head]; rfl
    have rs : Rds hx 1 es[j].s es[j].X.length (iz .i64 es[j].X) := hset.2.2.sow hx fun x hm => o1.get x (by rw [hL]; simp; exact .inr (.inr (.inr (.inr (.inr (.inl ⟨_, List.getElem_mem hj, hm⟩))))))
    have e3 := bnext_ok (n := n) (k := es[j].held) rs
    by_cases hmore : es[j].held < es[j].X.length
    · obtain ⟨hy, e4, o2⟩ := ready_ok (n := n) (t := t) hd0 (h := hx) (F := (b, .cells es[j].cells false 0) :: F) (o1.to fun x => by simp only [cnt_append, cnt_cons, cnt_nil]; omega)
      cases hr : rdy es t with
      | false =>
        refine ⟨hy, L, ?_, ?_, o2.to fun x => by simp only [cnt_append, cnt_cons, cnt_nil]; omega⟩
        · have htk : tkn es t = (0, 130) := by unfold tkn; rw [he]; simp [hmore, hr]
          rw [hr] at e4
          simp only [f_lock_Locks_Take, Option.isNone_some, cond_false, Option.bind_some, fa_mk, Nat.zero_add, ld2, h5, bnd_eq, hh1, nwA_eq, hb, e2, ld0, ld1, e3, Bool.not_true, hmore, decide_true, e4, Bool.not_false, cond_true, htk]
        · have : tks es t = es := by unfold tks tkn; rw [he]; simp [hmore, hr]
          rw [this]; exact hd0
      | true =>
        have hlen := hset.1.len
        have hsm := hl.small
        have o3 : Own hy ((b, .cells es[j].cells false 0) :: (L ++ F)) := o2.to fun x => by simp only [cnt_append, cnt_cons, cnt_nil]; omega
        have ld3 : ldT (.int .i64) hy (some ⟨b, 1, none⟩) = some (es[j].held : Int) := by rw [ldT_of o3.head]; rfl
        have st : stB 1 (.int .i64 ((es[j].held + 1 : Nat) : Int)) hy (some ⟨b, 1, none⟩) = some (hy.put b (.cells [es[j].s, .int .i64 ((es[j].held + 1 : Nat) : Int)] false 0)) := by
          rw [stB1_of o3.head rfl rfl (by simp [Hd.cells])]; rfl
        have o4 := o3.put (.cells [es[j].s, .int .i64 ((es[j].held + 1 : Nat) : Int)] false 0)
        generalize hz : hy.put b (.cells [es[j].s, .int .i64 ((es[j].held + 1 : Nat) : Int)] false 0) = hz0 at o4
        have gp2 : hz0.get p = some (.cells (lcells sq last m) false 0) := o4.get (p, _) (by rw [hL]; simp)
        have ld4 : ldT .any hz0 (some ⟨p, 2, none⟩) = some (.map (some m)) := by rw [ldT_of gp2]; rfl
        have ld5 : ldA 2 hz0 (some ⟨b, 0, none⟩) = some [es[j].s, .int .i64 ((es[j].held + 1 : Nat) : Int)] := by rw [ldA_of o4.head (by simp)]; rfl
        have o5 : Own hz0 ((m, .map (es.map Hd.kv)) :: ((p, .cells (lcells sq last m) false 0) :: (A ++ (qs.flatMap Qd.Q ++ (es.flatMap Hd.A ++ F))))) := o4.to fun x => by
          rw [hL]; simp only [cnt_append, cnt_cons, cnt_nil, List.cons_append]; omega
        have e6 := mapUp_set (v := .agg ⟨[es[j].s, .int .i64 ((es[j].held + 1 : Nat) : Int)]⟩) o5.head h4 rfl
        have o6 := o5.put (.map ((es.map Hd.kv).set j (.int .u64 t, .agg ⟨[es[j].s, .int .i64 ((es[j].held + 1 : Nat) : Int)]⟩)))
        have hbm := bump_at hj h1 h2 h3
        have hkv : (es.map Hd.kv).set j (.int .u64 t, .agg ⟨[es[j].s, .int .i64 ((es[j].held + 1 : Nat) : Int)]⟩) = (bump es t).map Hd.kv := by
          rw [hbm, List.map_set]; simp only [Hd.kv, Hd.cells, h1]
        rw [hkv] at o6
        have htk : tkn es t = (es[j].X[es[j].held]?.getD 0, 0) := by unfold tkn; rw [he]; simp [hmore, hr]
        refine ⟨_, (p, .cells (lcells sq last m) false 0) :: (m, .map ((bump es t).map Hd.kv)) :: (A ++ (qs.flatMap Qd.Q ++ (bump es t).flatMap Hd.A)), ?_, ?_, o6.to fun x => by rw [bump_flat]; simp only [cnt_append, cnt_cons, cnt_nil, List.cons_append]; omega⟩
        · rw [hr] at e4
          simp only [f_lock_Locks_Take, Option.isNone_some, cond_false, Option.bind_some, fa_mk, Nat.zero_add, ld2, h5, bnd_eq, hh1, nwA_eq, hb, e2, ld0, ld1, e3, Bool.not_true, hmore, decide_true, e4, ld3, wrap_succ (j := es[j].held) (by omega), st, hz, ld4, ld5, e6, htk, hkv]
        · have : tks es t = bump es t := by unfold tks; rw [htk]; rfl
          rw [this]
          refine ⟨sq, A, m, qs, hsq, hl.bump fun e hm het => ?_, rfl⟩
          have : e = es[j] := by
            have hc := cut_at hj
            rw [hc] at hm
            rcases List.mem_append.1 hm with h | h
            · have := h2 e h; omega
            · rcases List.mem_cons.1 h with h | h
              · exact h
              · have := h3 e h; omega
          rw [this]; exact hmore
    · refine ⟨hx, L, ?_, ?_, o1.tail⟩
      · have htk : tkn es t = (0, 180) := by unfold tkn; rw [he]; simp [hmore]
        simp only [f_lock_Locks_Take, Option.isNone_some, cond_false, Option.bind_some, fa_mk, Nat.zero_add, ld2, h5, bnd_eq, hh1, nwA_eq, hb, e2, ld0, ld1, e3, Bool.not_true, hmore, decide_false, Bool.not_false, cond_true, htk]
      · have : tks es t = es := by unfold tks tkn; rw [he]; simp [hmore]
        rw [this]; exact hd0
end
end Go.Proofs.Ytadkkmingfajdaa

/- Locks: Drop, Queue, Holder. -/
namespace Go.Proofs.Ytadkkmingfajdaa
open Go
set_option linter.unusedVariables false
set_option linter.unusedSimpArgs false

section
variable {p N n : Nat} {es : List Hd} {last t : Int} {L F : Ch} {h : Heap} {X : List Int} {s : Value} {G : Ch}

/-- The queues while a ticket is dropped. -/
def Mid2 (N : Nat) (es : List Hd) (last t : Int) (X : List Int) (cells : List Value) (qs : List Qd) : Prop :=
  qs.length = N ∧ qs.map Qd.cell = cells ∧ ∀ i (hi : i < qs.length), Qx qs[i].q (if (i : Int) ∈ X then (quu es (i : Int)).erase t else quu es (i : Int)) qs[i].last qs[i].Q ∧ qs[i].last ≤ last

theorem drop_loop {sq : Value} {A : Ch} {cells : List Value} {qs0 : List Qd} {m : Nat} (hsq : Slc 1 sq N cells A) (h0 : Mid2 N es last t [] cells qs0) (hX : SetOk N X) (hs : Sow 1 s X.length (iz .i64 X) G)
    (hes : es.length ≤ 900) (hN : N ≤ 64) (ho : Own h ((p, .cells (lcells sq last m) false 0) :: (A ++ (qs0.flatMap Qd.Q ++ (G ++ F))))) (hn : 2000 ≤ n) :
    ∃ h' qs, loopT (fun a : (Int × Unit) × Heap => f_lock_Locks_Drop_L16 n t (some ⟨p, 0, none⟩) s X.length a.1.1 a.2) n ((0, ()), h) = some ((), h') ∧ Mid2 N es last t X cells qs ∧ Own h' ((p, .cells (lcells sq last m) false 0) :: (A ++ (qs.flatMap Qd.Q ++ (G ++ F)))) := by
  have hlen := hX.len
  obtain ⟨⟨⟨⟩, h'⟩, e1, qs, g1, g2⟩ := loopT_up (f := fun a : (Int × Unit) × Heap => f_lock_Locks_Drop_L16 n t (some ⟨p, 0, none⟩) s X.length a.1.1 a.2)
    (I := fun j a => a.1.1 = (j : Int) ∧ ∃ qs, Mid2 N es last t (X.take j) cells qs ∧ Own a.2 ((p, .cells (lcells sq last m) false 0) :: (A ++ (qs.flatMap Qd.Q ++ (G ++ F)))))
    (Q := fun r => ∃ qs, Mid2 N es last t X cells qs ∧ Own r.2 ((p, .cells (lcells sq last m) false 0) :: (A ++ (qs.flatMap Qd.Q ++ (G ++ F))))) (N := X.length) (k := n) (j := 0) (a := ((0, ()), h)) (by omega) (Nat.zero_le _)
    ⟨rfl, qs0, by simpa using h0, ho⟩ (by
      rintro j ⟨⟨z, _⟩, hh⟩ hj ⟨rfl, qs, ⟨q1, q2, q3⟩, ow⟩
      have ow : Own hh ((p, .cells (lcells sq last m) false 0) :: (A ++ (qs.flatMap Qd.Q ++ (G ++ F)))) := ow
      have rs : Rds hh 1 s X.length (iz .i64 X) := hs hh fun x hx => ow.get x (by simp [hx])
      obtain ⟨a, a1, a2⟩ := rs.int (L := X) hj
      have hb := hX.2.2 _ (List.getElem_mem hj)
      obtain ⟨i, hi⟩ : ∃ i : Nat, X[j] = (i : Int) := ⟨X[j].toNat, by omega⟩
      have hiN : i < qs.length := by omega
      have rq : Rds hh 1 sq N (qs.map Qd.cell) := by rw [q2]; exact hsq.sow hh fun x hx => ow.get x (by simp [hx])
      obtain ⟨b, b1, b2⟩ := qcell rq q1 hiN
      obtain ⟨c1, c2⟩ := q3 i hiN
      have hni : ¬ (i : Int) ∈ X.take j := by
        intro hm
        rw [List.mem_take_iff_getElem] at hm
        obtain ⟨k, hk, e⟩ := hm
        have := List.pairwise_iff_getElem.1 hX.2.1 k j (by omega) hj (by omega)
        omega
      rw [if_neg hni] at c1
      have hql : (quu es (i : Int)).length ≤ 1000 := Nat.le_trans quu_len (by omega)
      have od : Own hh (qs[i].Q ++ ((qs.eraseIdx i).flatMap Qd.Q ++ ((p, .cells (lcells sq last m) false 0) :: (A ++ (G ++ F))))) := ow.to fun x => by
        have := fm_at Qd.Q hiN x
        simp only [cnt_append, cnt_cons, cnt_nil]; omega
      obtain ⟨h1, Q1, e1, e2, o1⟩ := drop_ok (n := n) (t := t) c1 od hql hn
      refine .inl ⟨((((j + 1 : Nat) : Int), ()), h1), ?_, rfl, qs.set i ⟨qs[i].q, qs[i].last, Q1⟩, ⟨by simpa using q1, ?_, fun k hk => ?_⟩, ?_⟩
      · have ld : ldT .any hh (some ⟨p, 0, none⟩) = some sq := by rw [ldT_of ow.head]; rfl
        rw [hi] at a2
        have hlt : (j : Int) < (X.length : Int) := by omega
        simp only [f_lock_Locks_Drop_L16, hlt, decide_true, cond_true, a1, a2, Option.bind_some, fa_mk, Nat.zero_add, ld, b1, b2, e1, wrap_succ (j := j) (by omega)]
      · rw [← q2, List.map_set]
        have : Qd.cell ⟨qs[i].q, qs[i].last, Q1⟩ = (qs.map Qd.cell)[i]'(by simpa using hiN) := by simp [Qd.cell]
        rw [this, List.set_getElem_self]
      · rw [List.length_set] at hk
        have htk : ∀ k : Nat, (k : Int) ∈ X.take (j + 1) ↔ (k : Int) ∈ X.take j ∨ k = i := by
          intro k
          rw [take_snoc hj, List.mem_append, List.mem_singleton, hi]
          constructor
          · rintro (h | h)
            · exact .inl h
            · exact .inr (by omega)
          · rintro (h | h)
            · exact .inl h
            · exact .inr (by omega)
        by_cases hki : k = i
        · subst hki
          rw [List.getElem_set_self]
          have : (k : Int) ∈ X.take (j + 1) := (htk k).2 (.inr rfl)
          rw [if_pos this]
          exact ⟨e2, c2⟩
        · rw [List.getElem_set_ne (fun e => hki e.symm)]
          have h3 := q3 k hk
          by_cases hm : (k : Int) ∈ X.take j
          · rw [if_pos ((htk k).2 (.inl hm))]
            rw [if_pos hm] at h3; exact h3
          · have hm' : ¬ (k : Int) ∈ X.take (j + 1) := fun h => ((htk k).1 h).elim hm hki
            rw [if_neg hm']
            rw [if_neg hm] at h3; exact h3
      · exact o1.to fun x => by
          have := fm_set Qd.Q (y := (⟨qs[i].q, qs[i].last, Q1⟩ : Qd)) hiN x
          simp only [cnt_append, cnt_cons, cnt_nil] at this ⊢; omega) (by
      rintro ⟨⟨z, _⟩, hh⟩ ⟨rfl, qs, hm, ow⟩
      rw [List.take_length] at hm
      exact ⟨((), hh), by simp [f_lock_Locks_Drop_L16], qs, hm, ow⟩)
  exact ⟨h', qs, e1, g1, g2⟩

theorem erase_filter {xs : List Int} (h : xs.Pairwise (· < ·)) : xs.erase t = xs.filter fun x => decide (x ≠ t) := by
  rw [List.Nodup.erase_eq_filter (h.imp fun h => by omega)]
  exact List.filter_congr fun x _ => by by_cases hx : x = t <;> simp [hx]
theorem quu_not {b : Int} (hb : ∀ e ∈ es, e.t = t → b ∉ e.X) : (quu es b).filter (fun x => decide (x ≠ t)) = quu es b := by
  rw [List.filter_eq_self]
  intro x hx
  unfold quu at hx
  obtain ⟨e, he, rfl⟩ := List.mem_map.1 hx
  rw [List.mem_filter] at he
  have := he.2
  simp only [decide_eq_true_eq] at this ⊢
  exact fun h => hb e he.1 h this

theorem del_ok {r i : Nat} {kvs : List (Value × Value)} {u : Value} (h1 : h.get r = some (.map kvs)) (hf : findKv .u64 t kvs 0 = some (some (i, u))) : deleteK h .u64 (.map (some r)) (.int .u64 t) = some (.tuple #[], h.put r (.map (kvs.eraseIdx i))) := by
  simp [deleteK, h1, hf]

/-- What Drop answers. -/
def drn (es : List Hd) (t : Int) : Int × Int := match ent es t with | none => (0, 110) | some e => ((e.held : Int), 0)
theorem rem_none (h : ent es t = none) : rem es t = es := by
  unfold rem
  rw [List.filter_eq_self]
  intro e he
  unfold ent at h
  rw [List.find?_eq_none] at h
  have := h e he
  simpa using this

theorem ldrop_ok (hd : Lk p N es last L) (ho : Own h (L ++ F)) (hn : 2000 ≤ n) :
    ∃ h' L', f_lock_Locks_Drop n (some ⟨p, 0, none⟩) t h = some (((drn es t).1, (drn es t).2, ()), h') ∧ Lk p N (rem es t) last L' ∧ Own h' (L' ++ F) := by
  have hd0 := hd
  obtain ⟨sq, A, m, qs, hsq, hl, hL⟩ := hd
  have ho0 := ho
  rw [hL] at ho
  have gm : h.get m = some (.map (es.map Hd.kv)) := ho.get (m, _) (by simp)
  have gp : h.get p = some (.cells (lcells sq last m) false 0) := ho.get (p, _) (by simp)
  have ld2 : ldT .any h (some ⟨p, 2, none⟩) = some (.map (some m)) := by rw [ldT_of gp]; rfl
  rcases look_ok gm hl.up t with ⟨h1, h2⟩ | ⟨j, hj, h1, h2, h3, h4, h5⟩
  · have he := ent_none h1
    obtain ⟨hx, e2, o1⟩ := tmp2 (z := z2) (cs := z2) (m := 2) ho0 rfl rfl rfl
    generalize hb : h.next = b at e2 o1
    generalize hh1 : h.new (.cells z2 false 0) = h0 at e2
    refine ⟨hx, L, ?_, by rw [rem_none he]; exact hd0, o1.tail⟩
    have hdr : drn es t = (0, 110) := by unfold drn; rw [he]
    simp only [f_lock_Locks_Drop, Option.isNone_some, cond_false, Option.bind_some, fa_mk, Nat.zero_add, ld2, h2, bnd_eq, hh1, nwA_eq, hb, e2, Bool.not_false, cond_true, hdr]
  · have he := ent_at hj h1 h2
    have hset := hl.set _ (List.getElem_mem hj)
    obtain ⟨hx, e2, o1⟩ := tmp2 (z := z2) (cs := es[j].cells) (m := 2) ho0 rfl rfl (by simp [Hd.cells, hset.2.2.isCell])
    generalize hb : h.next = b at e2 o1
    generalize hh1 : h.new (.cells z2 false 0) = h0 at e2
    have ld0 : ldT .any hx (some ⟨b, 0, none⟩) = some es[j].s := by rw [ldT_of o1.head]; rfl
    have o2 : Own hx ((p, .cells (lcells sq last m) false 0) :: (A ++ (qs.flatMap Qd.Q ++ (es.flatMap Hd.A ++ ((m, .map (es.map Hd.kv)) :: (b, .cells es[j].cells false 0) :: F))))) := o1.to fun x => by
      rw [hL]; simp only [cnt_append, cnt_cons, cnt_nil, List.cons_append]; omega
    have hsw : Sow 1 es[j].s es[j].X.length (iz .i64 es[j].X) (es.flatMap Hd.A) := fun hh hg => hset.2.2.sow hh fun x hm => hg x (List.mem_flatMap.2 ⟨_, List.getElem_mem hj, hm⟩)
    have rs : Rds hx 1 es[j].s es[j].X.length (iz .i64 es[j].X) := hsw hx fun x hm => o2.get x (by simp only [List.mem_cons, List.mem_append]; exact .inr (.inr (.inr (.inl hm))))
    obtain ⟨hy, qs', e3, ⟨g1, g2, g3⟩, o3⟩ := drop_loop (n := n) (t := t) hsq (cells := qs.map Qd.cell) (qs0 := qs) (es := es) ⟨hl.nq, rfl, fun i hi => by simpa using hl.q i hi⟩ hset.1 hsw hl.few hl.small o2 hn
    have o4 : Own hy ((m, .map (es.map Hd.kv)) :: ((p, .cells (lcells sq last m) false 0) :: (A ++ (qs'.flatMap Qd.Q ++ (es.flatMap Hd.A ++ ((b, .cells es[j].cells false 0) :: F)))))) := o3.to fun x => by simp only [cnt_append, cnt_cons, cnt_nil]; omega
    have gp2 : hy.get p = some (.cells (lcells sq last m) false 0) := o4.get (p, _) (by simp)
    have ld4 : ldT .any hy (some ⟨p, 2, none⟩) = some (.map (some m)) := by rw [ldT_of gp2]; rfl
    have e5 := del_ok o4.head h4
    have o5 := o4.put (.map ((es.map Hd.kv).eraseIdx j))
    have hrm := rem_at hj h1 h2 h3
    have hkv : (es.map Hd.kv).eraseIdx j = (rem es t).map Hd.kv := by rw [hrm, List.eraseIdx_eq_take_drop_succ, List.eraseIdx_eq_take_drop_succ]; simp [List.map_take, List.map_drop]
    rw [hkv] at o5 e5
    generalize hz : hy.put m (.map ((rem es t).map Hd.kv)) = hz0 at o5 e5
    have gb : hz0.get b = some (.cells es[j].cells false 0) := o5.get (b, _) (by simp)
    have ld5 : ldT (.int .i64) hz0 (some ⟨b, 1, none⟩) = some (es[j].held : Int) := by rw [ldT_of gb]; rfl
    refine ⟨hz0, (p, .cells (lcells sq last m) false 0) :: (m, .map ((rem es t).map Hd.kv)) :: (A ++ (qs'.flatMap Qd.Q ++ (rem es t).flatMap Hd.A)), ?_, ⟨sq, A, m, qs', g2 ▸ hsq, ⟨g1, fun i hi => ?_, hl.up.sublist List.filter_sublist, fun e he => hl.le e (List.mem_filter.1 he).1, fun e he => hl.set e (List.mem_filter.1 he).1, Nat.le_trans (List.length_filter_le ..) hl.few, hl.small⟩, rfl⟩, ?_⟩
    · have hdr : drn es t = ((es[j].held : Int), 0) := by unfold drn; rw [he]
      simp only [f_lock_Locks_Drop, Option.isNone_some, cond_false, Option.bind_some, fa_mk, Nat.zero_add, ld2, h5, bnd_eq, hh1, nwA_eq, hb, e2, Bool.not_true, ld0, rs.lenB, e3, ld4, e5, ld5, hdr]
    · have := g3 i hi
      rw [quu_rem]
      by_cases hi2 : (i : Int) ∈ es[j].X
      · rw [if_pos hi2, erase_filter (quu_up hl.up)] at this; exact this
      · rw [if_neg hi2] at this
        rw [quu_not fun e hm het => ?_]; exact this
        have : e = es[j] := by
          have hc := cut_at hj
          rw [hc] at hm
          rcases List.mem_append.1 hm with h | h
          · have := h2 e h; omega
          · rcases List.mem_cons.1 h with h | h
            · exact h
            · have := h3 e h; omega
        rw [this]; exact hi2
    · refine o5.to fun x => ?_
      have h6 : cnt x ((rem es t).flatMap Hd.A) ≤ cnt x (es.flatMap Hd.A) := by
        rw [hrm]
        have := fm_at Hd.A hj x
        omega
      simp only [cnt_append, cnt_cons, cnt_nil, List.cons_append]; omega
end
end Go.Proofs.Ytadkkmingfajdaa

/- Locks: Queue, Holder; comparisons. -/
namespace Go.Proofs.Ytadkkmingfajdaa
open Go
set_option linter.unusedVariables false
set_option linter.unusedSimpArgs false

section
variable {p N n : Nat} {es : List Hd} {last t : Int} {L F : Ch} {h : Heap} {X Y : List Int} {s u : Value} {G : Ch}


theorem queue_ok {b : Nat} (hd : Lk p N es last L) (ho : Own h (L ++ F)) (hb : b < N) (hn : 2000 ≤ n) :
    ∃ s h' A', f_lock_Locks_Queue n (some ⟨p, 0, none⟩) (b : Int) h = some ((s, ()), h') ∧ Slc 1 s (quu es (b : Int)).length (iz .u64 (quu es (b : Int))) A' ∧ Own h' (A' ++ (L ++ F)) := by
  obtain ⟨sq, A, m, qs, hsq, hl, hL⟩ := hd
  have ho0 := ho
  rw [hL] at ho
  have gp : h.get p = some (.cells (lcells sq last m) false 0) := ho.get (p, _) (by simp)
  have ld0 : ldT .any h (some ⟨p, 0, none⟩) = some sq := by rw [ldT_of gp]; rfl
  have rs0 : Rds h 1 sq N (qs.map Qd.cell) := hsq.sow h fun x hx => ho.get x (by simp [hx])
  have hbq : b < qs.length := by rw [hl.nq]; exact hb
  have hq := (hl.q b hbq).1
  have hlen : (quu es (b : Int)).length ≤ 1000 := Nat.le_trans quu_len (Nat.le_trans hl.few (by omega))
  generalize hxs : quu es (b : Int) = xs at hq hlen ⊢
  have o1 := ho0.new (.cells [.slice none 0 0] false 0)
  generalize hb0 : h.next = b0 at o1
  generalize hh0 : h.new (.cells [.slice none 0 0] false 0) = h0 at o1
  have gp0 : h0.get p = some (.cells (lcells sq last m) false 0) := o1.get (p, _) (by rw [hL]; simp)
  have ld1 : ldT .any h0 (some ⟨p, 0, none⟩) = some sq := by rw [ldT_of gp0]; rfl
  have rs1 : Rds h0 1 sq N (qs.map Qd.cell) := hsq.sow h0 fun x hx => o1.get x (by rw [hL]; simp [hx])
  obtain ⟨a, a1, a2⟩ := qcell rs1 hl.nq hbq
  obtain ⟨e6, o6⟩ := qall_ok (n := n) (q := qs[b].q) o1
  generalize hbx : h0.next = bx at e6 o6
  generalize hh4 : h0.new (.cells [.pointer (some ⟨qs[b].q, 0, none⟩)] false 0) = h4 at e6 o6
  -- all else
  let Z : Ch := (qs.eraseIdx b).flatMap Qd.Q ++ ((p, .cells (lcells sq last m) false 0) :: (m, .map (es.map Hd.kv)) :: (A ++ (es.flatMap Hd.A ++ F)))
  have hZ : ∀ x, cnt x (L ++ F) = cnt x (qs[b].Q ++ Z) := fun x => by
    rw [hL]
    have := fm_at Qd.Q hbq x
    simp only [Z, cnt_append, cnt_cons, cnt_nil, List.cons_append]; omega
  have o7 : Own h4 ((bx, .cells [.pointer (some ⟨qs[b].q, 0, none⟩)] false 0) :: (qs[b].Q ++ ((b0, .cells [.slice none 0 0] false 0) :: Z))) := o6.to fun x => by
    have := hZ x
    simp only [cnt_append, cnt_cons, cnt_nil] at this ⊢; omega
  obtain ⟨s0, ⟨A0, hLq⟩, seen0⟩ := hq.seen o7
  have seenW : ∀ {hh : Heap} {X : Ch}, Own hh ((bx, .cells [.pointer (some ⟨qs[b].q, 0, none⟩)] false 0) :: (qs[b].Q ++ X)) → SeenQ hh bx s0 xs := by
    intro hh X o
    obtain ⟨s', ⟨A', hL'⟩, hseen⟩ := hq.seen o
    rw [hLq] at hL'
    simp only [List.cons.injEq, Prod.mk.injEq, AObj.cells.injEq, true_and, and_true] at hL'
    rw [hL'.1]; exact hseen
  obtain ⟨⟨h5, q⟩, e7, h7⟩ := all1_ok (xs := xs) (n := n) (bx := bx) (s := s0) (hp := fun v : Heap × Nat => v.1) (up := fun v h => (h, v.2)) (y := fun a v => f_lock_Locks_Queue_B17 n ((false, ()), h) a.1 v) (w := (h4.hole.hole, 0))
    (J := fun i v => v.2 = 0 ∧ ∃ s' A', Slc 1 s' i (iz .u64 (xs.take i)) A' ∧ Own v.1 ((b0, .cells [s'] false 0) :: (bx, .cells [.pointer (some ⟨qs[b].q, 0, none⟩)] false 0) :: (A' ++ (qs[b].Q ++ Z))))
    (Q := fun v => False) (by omega) hlen ⟨rfl, .slice none 0 0, [], .nil, o7.hole.hole.to fun x => by simp only [cnt_append, cnt_cons, cnt_nil, List.nil_append]; omega⟩
    (by
      rintro i v ⟨_, s', A', _, ow⟩
      exact seenW (X := (b0, .cells [s'] false 0) :: (A' ++ Z)) (ow.to fun x => by simp only [cnt_append, cnt_cons, cnt_nil]; omega)) (by
      rintro i ⟨hh, q⟩ hi ⟨rfl, s', A', hs', ow⟩
      simp only at ow
      obtain ⟨s2, h2, A2, e1, e2, o3⟩ := hs'.push (new := [.int .u64 xs[i]]) (F := (b0, .cells [s'] false 0) :: (bx, .cells [.pointer (some ⟨qs[b].q, 0, none⟩)] false 0) :: (qs[b].Q ++ Z)) (ow.to fun x => by simp only [cnt_append, cnt_cons, cnt_nil]; omega) (by decide) rfl (bytes := 8) (by omega)
      have o4 : Own h2 ((b0, .cells [s'] false 0) :: (bx, .cells [.pointer (some ⟨qs[b].q, 0, none⟩)] false 0) :: (A2 ++ (qs[b].Q ++ Z))) := o3.to fun x => by simp only [cnt_append, cnt_cons, cnt_nil]; omega
      refine ⟨true, (h2.put b0 (.cells [s2] false 0), 0), ?_, fun _ => ⟨rfl, s2, A2, ?_, o4.put _⟩, (fun h => by cases h)⟩
      · have st := stB1_of (o := 0) (sp := none) o4.head e2.cellsOf e2.isCell (by simp)
        have ld : ldT .any hh (some ⟨b0, 0, none⟩) = some s' := by rw [ldT_of ow.head]; rfl
        have f1 : fillL [.int .u64 0] [(0, 1, .int .u64 xs[i])] = some [.int .u64 xs[i]] := rfl
        simp only [f_lock_Locks_Queue_B17, nwA_eq, hb0, Nat.beq_refl, cond_true, ld, Option.bind_some, f1, bnd_eq, e1, st]; rfl
      · rw [take_snoc hi, iz_append]; exact e2)
  have e7' : f_ticket_Queue_All_1 (V := Heap × Nat) (fun v => v.1) (fun v h => (h, v.2)) (fun a v => f_lock_Locks_Queue_B17 n ((false, ()), h) a.1 v) n (some ⟨bx, 0, none⟩) (h4.hole.hole, 0) = some (h5, q) := e7
  obtain ⟨hq0, s', A', hs', ow⟩ : q = 0 ∧ ∃ s' A', Slc 1 s' xs.length (iz .u64 xs) A' ∧ Own h5 ((b0, .cells [s'] false 0) :: (bx, .cells [.pointer (some ⟨qs[b].q, 0, none⟩)] false 0) :: (A' ++ (qs[b].Q ++ Z))) := by
    rcases h7 with ⟨h1, s', A', h2, h3⟩ | h
    · exact ⟨h1, s', A', by simpa using h2, h3⟩
    · exact h.elim
  subst hq0
  have ld5 : ldT .any h5 (some ⟨b0, 0, none⟩) = some s' := by rw [ldT_of ow.head]; rfl
  refine ⟨s', h5, A', ?_, hs', ow.to fun x => by
    have := hZ x
    simp only [cnt_append, cnt_cons, cnt_nil] at this ⊢; omega⟩
  have g1 : ¬ ((b : Int) < 0) := by omega
  have g2 : ¬ ((N : Int) ≤ (b : Int)) := by omega
  simp only [f_lock_Locks_Queue, Option.isNone_some, cond_false, g1, decide_false, Option.bind_some, fa_mk, Nat.zero_add, ld0, rs0.lenB, g2, bnd_eq, hh0, ld1, a1, a2, e6, e7', nwA_eq, hb0, Nat.beq_refl, cond_true, ld5, hs'.notT, Bool.not_false]

/-- Who has a block. -/
def hol (es : List Hd) (b : Int) : Int × Bool := match quu es b with
  | [] => (0, false)
  | t :: _ => if b ∈ (setOf (ent es t)).take (hldOf (ent es t)) then (t, true) else (0, false)
theorem holder_ok {b : Nat} (hd : Lk p N es last L) (ho : Own h (L ++ F)) (hb : b < N) (hn : 2000 ≤ n) :
    ∃ h', f_lock_Locks_Holder n (some ⟨p, 0, none⟩) (b : Int) h = some (((hol es (b : Int)).1, (hol es (b : Int)).2, ()), h') ∧ Own h' (L ++ F) := by
  have hd0 := hd
  obtain ⟨sq, A, m, qs, hsq, hl, hL⟩ := hd
  have ho0 := ho
  rw [hL] at ho
  have gp : h.get p = some (.cells (lcells sq last m) false 0) := ho.get (p, _) (by simp)
  have ld0 : ldT .any h (some ⟨p, 0, none⟩) = some sq := by rw [ldT_of gp]; rfl
  have rs0 : Rds h 1 sq N (qs.map Qd.cell) := hsq.sow h fun x hx => ho.get x (by simp [hx])
  have hbq : b < qs.length := by rw [hl.nq]; exact hb
  obtain ⟨a, a1, a2⟩ := qcell rs0 hl.nq hbq
  have e1 := first_ok (n := n) (sp := none) (hl.q b hbq).1 (h := h) (F := (qs.eraseIdx b).flatMap Qd.Q ++ F) (ho.to fun x => by
      have := fm_at Qd.Q hbq x
      simp only [cnt_append, cnt_cons, cnt_nil, List.cons_append]; omega)
  have g1 : ¬ ((b : Int) < 0) := by omega
  have g2 : ¬ ((N : Int) ≤ (b : Int)) := by omega
  cases hq : quu es (b : Int) with
  | nil =>
    refine ⟨h, ?_, ho0⟩
    have hh : hol es (b : Int) = (0, false) := by unfold hol; rw [hq]
    rw [hq] at e1
    simp only [Go.Proofs.Ytadkkmingfajdaa.hd, ne_eq, not_true, decide_false] at e1
    simp only [f_lock_Locks_Holder, Option.isNone_some, cond_false, g1, decide_false, Option.bind_some, fa_mk, Nat.zero_add, ld0, rs0.lenB, g2, a1, a2, e1, Bool.not_false, cond_true, hh]
  | cons x xs =>
    rw [hq] at e1
    have e1' : f_ticket_Queue_First n (some ⟨qs[b].q, 0, none⟩) h = some ((x, true, ()), h) := by rw [e1]; rfl
    obtain ⟨s', h1, A', e2, l2, o2⟩ := held_ok (n := n) (t := x) hd0 ho0
    have h64 : ((setOf (ent es x)).take (hldOf (ent es x))).length ≤ 1000 ∧ ((setOf (ent es x)).take (hldOf (ent es x))).length = hldOf (ent es x) := by
      rw [List.length_take]
      cases hx : ent es x with
      | none => simp [setOf, hldOf]
      | some e =>
        have := (hl.set e (ent_mem hx).1)
        have h2 := this.1.len
        have := hl.small
        simp only [setOf, hldOf]; omega
    have e3 := contains_ok (n := n) (b := (b : Int)) (h := h1) (X := (setOf (ent es x)).take (hldOf (ent es x))) (s := s') (by rw [h64.2]; exact l2.rds o2) h64.1 hn
    refine ⟨h1, ?_, o2.right⟩
    by_cases hm : (b : Int) ∈ (setOf (ent es x)).take (hldOf (ent es x))
    · have hh : hol es (b : Int) = (x, true) := by unfold hol; rw [hq]; simp [hm]
      simp only [f_lock_Locks_Holder, Option.isNone_some, cond_false, g1, decide_false, Option.bind_some, fa_mk, Nat.zero_add, ld0, rs0.lenB, g2, a1, a2, e1', Bool.not_true, e2, e3, hm, decide_true, hh]
    · have hh : hol es (b : Int) = (0, false) := by unfold hol; rw [hq]; simp [hm]
      simp only [f_lock_Locks_Holder, Option.isNone_some, cond_false, g1, decide_false, Option.bind_some, fa_mk, Nat.zero_add, ld0, rs0.lenB, g2, a1, a2, e1', Bool.not_true, e2, e3, hm, decide_false, Bool.not_false, cond_true, hh]

theorem sameI_ok (hs : Rds h 1 s X.length (iz .i64 X)) (hu : Rds h 1 u Y.length (iz .i64 Y)) (hlen : X.length ≤ 1000) (hn : 2000 ≤ n) : f_wicketlaw14_sameInts n s u h = some ((decide (X = Y), ()), h) := by
  by_cases hl : X.length = Y.length
  · obtain ⟨r, e1, e2⟩ := loopT_up (f := fun a : (Int × Unit) × Heap => f_wicketlaw14_sameInts_L9 n u s X.length a.1.1 a.2) (I := fun j a => a = (((j : Int), ()), h) ∧ X.take j = Y.take j) (Q := fun r => r = ((decide (X = Y), ()), h)) (N := X.length) (k := n) (j := 0) (a := ((0, ()), h)) (by omega) (Nat.zero_le _) ⟨rfl, rfl⟩ (by
        rintro j a hj ⟨rfl, ht⟩
        have hj2 : j < Y.length := by omega
        obtain ⟨p, e1, e2⟩ := hs.int hj
        obtain ⟨p', e1', e2'⟩ := hu.int hj2
        have hlt : (j : Int) < (X.length : Int) := by omega
        by_cases hx : X[j] = Y[j]
        · refine .inl ⟨((((j + 1 : Nat) : Int), ()), h), ?_, rfl, by rw [take_snoc hj, take_snoc hj2, ht, hx]⟩
          simp only [f_wicketlaw14_sameInts_L9, hlt, decide_true, cond_true, e1, e2, e1', e2', Option.bind_some, hx, Bool.not_true, cond_false, wrap_succ (j := j) (by omega)]
        · refine .inr ⟨((decide (X = Y), ()), h), ?_, rfl⟩
          have : X ≠ Y := fun e => hx (by subst e; rfl)
          simp only [f_wicketlaw14_sameInts_L9, hlt, decide_true, cond_true, e1, e2, e1', e2', Option.bind_some, hx, decide_false, Bool.not_false, this]) (by
        rintro a ⟨rfl, ht⟩
        have : X = Y := by rw [List.take_length, hl, List.take_length] at ht; exact ht
        exact ⟨((decide (X = Y), ()), h), by simp [f_wicketlaw14_sameInts_L9, this], rfl⟩)
    subst e2
    have e1' : loopT (fun a : (Int × Unit) × Heap => f_wicketlaw14_sameInts_L9 n u s X.length a.1.1 a.2) n ((0, ()), h) = some ((decide (X = Y), ()), h) := e1
    have hl' : ((X.length : Int) = (Y.length : Int)) := by omega
    simp only [f_wicketlaw14_sameInts, hs.lenB, hu.lenB, Option.bind_some, hl', decide_true, Bool.not_true, cond_false]
    rw [← hl', ← hl] at *
    exact e1'
  · have : X ≠ Y := fun e => hl (by rw [e])
    have hl' : ¬ ((X.length : Int) = (Y.length : Int)) := by omega
    simp only [f_wicketlaw14_sameInts, hs.lenB, hu.lenB, Option.bind_some, hl', decide_false, Bool.not_false, cond_true, this]

theorem sameT_ok (hs : Rds h 1 s X.length (iz .u64 X)) (hu : Rds h 1 u Y.length (iz .u64 Y)) (hlen : X.length ≤ 1000) (hn : 2000 ≤ n) : f_wicketlaw14_sameTickets n s u h = some ((decide (X = Y), ()), h) := by
  by_cases hl : X.length = Y.length
  · obtain ⟨r, e1, e2⟩ := loopT_up (f := fun a : (Int × Unit) × Heap => f_wicketlaw14_sameTickets_L9 n u s X.length a.1.1 a.2) (I := fun j a => a = (((j : Int), ()), h) ∧ X.take j = Y.take j) (Q := fun r => r = ((decide (X = Y), ()), h)) (N := X.length) (k := n) (j := 0) (a := ((0, ()), h)) (by omega) (Nat.zero_le _) ⟨rfl, rfl⟩ (by
        rintro j a hj ⟨rfl, ht⟩
        have hj2 : j < Y.length := by omega
        obtain ⟨p, e1, e2⟩ := hs.int hj
        obtain ⟨p', e1', e2'⟩ := hu.int hj2
        have hlt : (j : Int) < (X.length : Int) := by omega
        by_cases hx : X[j] = Y[j]
        · refine .inl ⟨((((j + 1 : Nat) : Int), ()), h), ?_, rfl, by rw [take_snoc hj, take_snoc hj2, ht, hx]⟩
          simp only [f_wicketlaw14_sameTickets_L9, hlt, decide_true, cond_true, e1, e2, e1', e2', Option.bind_some, hx, Bool.not_true, cond_false, wrap_succ (j := j) (by omega)]
        · refine .inr ⟨((decide (X = Y), ()), h), ?_, rfl⟩
          have : X ≠ Y := fun e => hx (by subst e; rfl)
          simp only [f_wicketlaw14_sameTickets_L9, hlt, decide_true, cond_true, e1, e2, e1', e2', Option.bind_some, hx, decide_false, Bool.not_false, this]) (by
        rintro a ⟨rfl, ht⟩
        have : X = Y := by rw [List.take_length, hl, List.take_length] at ht; exact ht
        exact ⟨((decide (X = Y), ()), h), by simp [f_wicketlaw14_sameTickets_L9, this], rfl⟩)
    subst e2
    have e1' : loopT (fun a : (Int × Unit) × Heap => f_wicketlaw14_sameTickets_L9 n u s X.length a.1.1 a.2) n ((0, ()), h) = some ((decide (X = Y), ()), h) := e1
    have hl' : ((X.length : Int) = (Y.length : Int)) := by omega
    simp only [f_wicketlaw14_sameTickets, hs.lenB, hu.lenB, Option.bind_some, hl', decide_true, Bool.not_true, cond_false]
    rw [← hl', ← hl] at *
    exact e1'
  · have : X ≠ Y := fun e => hl (by rw [e])
    have hl' : ¬ ((X.length : Int) = (Y.length : Int)) := by omega
    simp only [f_wicketlaw14_sameTickets, hs.lenB, hu.lenB, Option.bind_some, hl', decide_false, Bool.not_false, cond_true, this]
end
end Go.Proofs.Ytadkkmingfajdaa

/- The law's sets, its crowd. -/
namespace Go.Proofs.Ytadkkmingfajdaa
open Go
set_option linter.unusedVariables false
set_option linter.unusedSimpArgs false

theorem shr_some (a : Int) (j : Nat) : ∃ x, bitB .shr .u64 a .i64 (j : Int) = some x := by
  unfold bitB binOp Op.shift
  simp only
  rw [if_neg (by omega)]
  exact ⟨_, rfl⟩
theorem and_some (a b : Int) : ∃ x, bitB .and .u64 a .u64 b = some x := by
  unfold bitB binOp Op.intBits
  exact ⟨_, rfl⟩

section
variable {p N n : Nat} {es : List Hd} {last t : Int} {L F G : Ch} {h : Heap} {u : Value}

theorem set_ok {bits : Int} (ho : Own h F) (hb : 0 ≤ bits) (h1 : 1 ≤ N) (h2 : N ≤ 64) (hn : 2000 ≤ n) :
    ∃ s h' A X, f_wicketlaw14_set n bits (N : Int) h = some ((s, ()), h') ∧ SetOk N X ∧ Slc 1 s X.length (iz .i64 X) A ∧ Own h' (A ++ F) := by
  obtain ⟨⟨⟨v, _⟩, h'⟩, e1, X, A, g1, g2, g3, g4, g5⟩ := loopT_up (f := fun a : (Value × Int × Unit) × Heap => f_wicketlaw14_set_L9 n (N : Int) bits a.1.1 a.1.2.1 a.2)
    (I := fun j a => a.1.2.1 = (j : Int) ∧ ∃ X A, X.Pairwise (· < ·) ∧ (∀ x ∈ X, 0 ≤ x ∧ x < (j : Int)) ∧ X.length ≤ j ∧ Slc 1 a.1.1 X.length (iz .i64 X) A ∧ Own a.2 (A ++ F))
    (Q := fun r => ∃ X A, X.Pairwise (· < ·) ∧ (∀ x ∈ X, 0 ≤ x ∧ x < (N : Int)) ∧ X.length ≤ N ∧ Slc 1 r.1.1 X.length (iz .i64 X) A ∧ Own r.2 (A ++ F)) (N := N) (k := n) (j := 0) (a := ((.slice none 0 0, 0, ()), h)) (by omega) (Nat.zero_le _)
    ⟨rfl, [], [], .nil, fun _ h => absurd h List.not_mem_nil, Nat.le_refl _, .nil, ho⟩ (by
      rintro j ⟨⟨v, z, _⟩, hh⟩ hj ⟨rfl, X, A, a1, a2, a3, a4, ow⟩
      obtain ⟨x, b1⟩ := shr_some bits j
      obtain ⟨y, b2⟩ := and_some x 1
      have hlt : (j : Int) < (N : Int) := by omega
      left
      by_cases hy : y = 1
      · obtain ⟨v2, h2, A2, e1, e2, o2⟩ := a4.push (new := [.int .i64 (j : Int)]) ow (by decide) rfl (bytes := 8) (by omega)
        refine ⟨((v2, ((j + 1 : Nat) : Int), ()), h2), ?_, rfl, X ++ [(j : Int)], A2, ?_, fun x hx => ?_, by simp; omega, ?_, o2⟩
        · have f1 : fillL [.int .i64 0] [(0, 1, .int .i64 (j : Int))] = some [.int .i64 (j : Int)] := rfl
          simp only [f_wicketlaw14_set_L9, hlt, decide_true, cond_true, b1, b2, Option.bind_some, hy, f1, bnd_eq, e1, wrap_succ (j := j) (by omega)]
        · rw [List.pairwise_append]
          refine ⟨a1, by simp, fun a ha b hb => ?_⟩
          simp only [List.mem_singleton] at hb
          have := a2 a ha; omega
        · rcases List.mem_append.1 hx with hx | hx
          · have := a2 x hx; omega
          · simp only [List.mem_singleton] at hx; omega
        · rw [iz_append, List.length_append]; exact e2
      · refine ⟨((v, ((j + 1 : Nat) : Int), ()), hh), ?_, rfl, X, A, a1, fun x hx => ?_, by omega, a4, ow⟩
        · simp only [f_wicketlaw14_set_L9, hlt, decide_true, cond_true, b1, b2, Option.bind_some, hy, decide_false, cond_false, wrap_succ (j := j) (by omega)]
        · have := a2 x hx; omega) (by
      rintro ⟨⟨v, z, _⟩, hh⟩ ⟨rfl, X, A, a1, a2, a3, a4, ow⟩
      exact ⟨((v, ()), hh), by simp [f_wicketlaw14_set_L9], X, A, a1, a2, a3, a4, ow⟩)
  have e1' : loopT (fun a : (Value × Int × Unit) × Heap => f_wicketlaw14_set_L9 n (N : Int) bits a.1.1 a.1.2.1 a.2) n ((.slice none 0 0, 0, ()), h) = some ((v, ()), h') := e1
  have g4 : Slc 1 v X.length (iz .i64 X) A := g4
  have g5 : Own h' (A ++ F) := g5
  by_cases hX : X = []
  · subst hX
    have hw : IntKind.u64.wrap (N : Int) = (N : Int) := by
      have : (N : Int) % 18446744073709551616 = N := Int.emod_eq_of_lt (by omega) (by omega)
      simpa [IntKind.wrap, IntKind.signed, IntKind.bits] using this
    have m1 := Int.tmod_lt_of_pos bits (b := (N : Int)) (by omega)
    have m2 := Int.tmod_nonneg (N : Int) hb
    have hw2 : IntKind.i64.wrap (Int.tmod bits (N : Int)) = Int.tmod bits (N : Int) := wrap_i64 (by omega) (by omega)
    have o6 := g5.right.new (.cells [.int .i64 (Int.tmod bits (N : Int))] false 1)
    refine ⟨.slice (some ⟨h'.next, 0, some 0⟩) 1 1, _, [(h'.next, .cells ([] ++ ([.int .i64 (Int.tmod bits (N : Int))] ++ [])) false 1)], [Int.tmod bits (N : Int)], ?_, ⟨by simp, by simp, fun x hx => ?_⟩, Slc.mk (pre := []) (rest := []) rfl rfl rfl, o6⟩
    · have f1 : fillL [.int .i64 0] [(0, 1, .int .i64 (Int.tmod bits (N : Int)))] = some [.int .i64 (Int.tmod bits (N : Int))] := rfl
      have hl0 : lenB v = some 0 := g4.lenB
      have hnz : ¬ ((N : Int) = 0) := by omega
      simp only [f_wicketlaw14_set, e1', Option.bind_some, hl0, Int.natCast_zero, decide_true, cond_true, hw, hnz, decide_false, cond_false, hw2, f1, bnd_eq]
    · simp only [List.mem_singleton] at hx; omega
  · have hl : X.length ≠ 0 := fun e => hX (List.eq_nil_of_length_eq_zero e)
    refine ⟨v, h', A, X, ?_, ⟨hX, g1, g2⟩, g4, g5⟩
    have hnz : ¬ ((X.length : Int) = 0) := by omega
    simp only [f_wicketlaw14_set, e1', Option.bind_some, g4.lenB, hnz, decide_false, cond_false, g4.notT, Bool.not_false, cond_true]

/-- A set that the law keeps. -/
structure Ws where
  s : Value
  X : List Int
  A : Ch
def WsOk (N : Nat) (w : Ws) : Prop := SetOk N w.X ∧ Slc 1 w.s w.X.length (iz .i64 w.X) w.A
def core (e : Hd) : Int × List Int × Nat := (e.t, e.X, e.held)
def start (W : List Ws) : List (Int × List Int × Nat) := (List.range W.length).map fun (k : Nat) => (((k + 1 : Nat) : Int), (W.getD k ⟨.slice none 0 0, [], []⟩).X, 0)
theorem start_snoc {W : List Ws} {w : Ws} : start (W ++ [w]) = start W ++ [(((W.length + 1 : Nat) : Int), w.X, 0)] := by
  unfold start
  rw [List.length_append, List.length_singleton, List.range_succ, List.map_append]
  congr 1
  · refine List.map_congr_left fun k hk => ?_
    rw [List.mem_range] at hk
    simp only [List.getD_eq_getElem?_getD, List.getElem?_append_left hk]
  · simp [List.getD_eq_getElem?_getD]

theorem crowd_ok {S : List Int} (hu : Sow 1 u S.length (iz .u64 S) G) (hS : ∀ x ∈ S, 0 ≤ x) (ho : Own h (G ++ F)) (h1 : 1 ≤ N) (h2 : N ≤ 64) (hn : 2000 ≤ n) :
    ∃ p v h' L A W es, f_wicketlaw14_crowd n (N : Int) u h = some ((some ⟨p, 0, none⟩, v, ()), h') ∧ Lk p N es (W.length : Int) L ∧ es.map core = start W ∧ W.length ≤ 10 ∧ (∀ w ∈ W, WsOk N w) ∧ Slc 1 v W.length (W.map Ws.s) A ∧ Own h' (L ++ (A ++ (W.flatMap Ws.A ++ (G ++ F)))) := by
  obtain ⟨p, h0, L0, e0, l0, o0⟩ := new_ok (n := n) ho h1 h2 hn
  generalize hK : min S.length 10 = K
  obtain ⟨r, e1, v, h', rfl, L, A, W, es, g1, g2, g3, g4, g5, g6⟩ := loopT_up (f := fun a : (Value × Int × Unit) × Heap => f_wicketlaw14_crowd_L20 n u (N : Int) ((some ⟨p, 0, none⟩, 0, ()), h0) a.1.1 a.1.2.1 a.2)
    (I := fun j a => a.1.2.1 = (j : Int) ∧ ∃ L A W es, W.length = j ∧ Lk p N es (W.length : Int) L ∧ es.map core = start W ∧ (∀ w ∈ W, WsOk N w) ∧ Slc 1 a.1.1 W.length (W.map Ws.s) A ∧ Own a.2 (L ++ (A ++ (W.flatMap Ws.A ++ (G ++ F)))))
    (Q := fun r => ∃ v h', r = .inl ((v, ()), h') ∧ ∃ L A W es, W.length = K ∧ Lk p N es (W.length : Int) L ∧ es.map core = start W ∧ (∀ w ∈ W, WsOk N w) ∧ Slc 1 v W.length (W.map Ws.s) A ∧ Own h' (L ++ (A ++ (W.flatMap Ws.A ++ (G ++ F))))) (N := K) (k := n) (j := 0) (a := ((.slice none 0 0, 0, ()), h0)) (by omega) (Nat.zero_le _)
    ⟨rfl, L0, [], [], [], rfl, l0, rfl, fun _ h => absurd h List.not_mem_nil, .nil, o0⟩ (by
      rintro j ⟨⟨v, z, _⟩, hh⟩ hj ⟨rfl, L, A, W, es, c0, c1, c2, c3, c4, ow⟩
      have ow : Own hh (L ++ (A ++ (W.flatMap Ws.A ++ (G ++ F)))) := ow
      have hjS : j < S.length := by omega
      have rs : Rds hh 1 u S.length (iz .u64 S) := hu hh fun x hx => ow.get x (by simp [hx])
      obtain ⟨q, a1, a2⟩ := rs.int (L := S) hjS
      obtain ⟨s, ha, As, X, e2, hX, ls, oa⟩ := set_ok (n := n) ow (hS _ (List.getElem_mem hjS)) h1 h2 hn
      have ob := oa.new (.cells [] false 1)
      obtain ⟨s2, hb, A2, e3, l3, oc⟩ := ls.sow.app (h := ha.new (.cells [] false 1)) (F := L ++ (A ++ (W.flatMap Ws.A ++ (G ++ F)))) (s := .slice (some ⟨ha.next, 0, some 0⟩) 0 0) (cs := []) (n := 0) (A := [(ha.next, .cells ([] ++ ([] ++ [])) false 1)]) (bytes := 8) (.mk rfl rfl rfl) ob (by decide) (by have := hX.len; omega)
      rw [Nat.zero_add, List.nil_append] at l3
      have hesl : es.length = j := by
        have := congrArg List.length c2
        rw [List.length_map, start, List.length_map, List.length_range] at this
        omega
      obtain ⟨hc, s3, A3, L3, e4, l4, od⟩ := lay_ok (n := n) (t := ((j + 1 : Nat) : Int)) c1 l3.sow hX (by omega) (by omega) (h := hb) (F := As ++ (A ++ (W.flatMap Ws.A ++ (G ++ F)))) (oc.to fun x => by simp only [cnt_append, cnt_cons, cnt_nil]; omega) hn
      obtain ⟨v2, hd, A4, e5, l5, oe⟩ := c4.push (new := [s]) (h := hc) (F := L3 ++ (As ++ (W.flatMap Ws.A ++ (G ++ F)))) (od.to fun x => by simp only [cnt_append, cnt_cons, cnt_nil]; omega) (by decide) rfl (bytes := 24) (by omega)
      refine .inl ⟨((v2, ((j + 1 : Nat) : Int), ()), hd), ?_, rfl, L3, A4, W ++ [⟨s, X, As⟩], es ++ [⟨((j + 1 : Nat) : Int), X, 0, s3, A3⟩], by simp [c0], ?_, ?_, ?_, ?_, oe.to fun x => by simp only [List.flatMap_append, List.flatMap_cons, List.flatMap_nil, cnt_append, cnt_cons, cnt_nil]; omega⟩
      · have hlt : (j : Int) < (S.length : Int) := by omega
        have hlt2 : (j : Int) < 10 := by omega
        have w1 : IntKind.i64.wrap ((j : Int) + 1) = ((j + 1 : Nat) : Int) := wrap_succ (by omega)
        have w2 : IntKind.u64.wrap ((j + 1 : Nat) : Int) = ((j + 1 : Nat) : Int) := wrap_u64 (by omega) (by omega)
        have f1 : fillL [] [] = some [] := rfl
        have f2 : fillL [.slice none 0 0] [(0, 1, s)] = some [s] := by simp [fillL, ls.cellsOf, ls.isCell]; rfl
        simp only [f_wicketlaw14_crowd_L20, rs.lenB, Option.bind_some, hlt, hlt2, decide_true, cond_true, a1, a2, e2, f1, bnd_eq, e3, w1, w2, e4, f_wicketlaw14_num, Bool.not_true, cond_false, f2, e5]
      · rw [List.length_append, List.length_singleton, c0]; exact l4
      · rw [List.map_append, start_snoc, c2, c0]; rfl
      · intro w hw
        rcases List.mem_append.1 hw with h | h
        · exact c3 w h
        · simp only [List.mem_singleton] at h; subst h; exact ⟨hX, ls⟩
      · rw [List.length_append, List.length_singleton, List.map_append]; exact l5) (by
      rintro ⟨⟨v, z, _⟩, hh⟩ ⟨rfl, L, A, W, es, c0, c1, c2, c3, c4, ow⟩
      refine ⟨.inl ((v, ()), hh), ?_, v, hh, rfl, L, A, W, es, c0, c1, c2, c3, c4, ow⟩
      have ow : Own hh (L ++ (A ++ (W.flatMap Ws.A ++ (G ++ F)))) := ow
      have rs : Rds hh 1 u S.length (iz .u64 S) := hu hh fun x hx => ow.get x (by simp [hx])
      by_cases hk : K < S.length
      · have hlt : (K : Int) < (S.length : Int) := by omega
        have hlt2 : ¬ (K : Int) < 10 := by omega
        simp only [f_wicketlaw14_crowd_L20, rs.lenB, Option.bind_some, hlt, hlt2, decide_true, decide_false, cond_true, cond_false]
      · have hlt : ¬ (K : Int) < (S.length : Int) := by omega
        simp only [f_wicketlaw14_crowd_L20, rs.lenB, Option.bind_some, hlt, decide_false, cond_false])
  refine ⟨p, v, h', L, A, W, es, ?_, g2, g3, by omega, g4, g5, g6⟩
  have e1' : loopT (fun a : (Value × Int × Unit) × Heap => f_wicketlaw14_crowd_L20 n u (N : Int) ((some ⟨p, 0, none⟩, 0, ()), h0) a.1.1 a.1.2.1 a.2) n ((.slice none 0 0, 0, ()), h0) = some (.inl ((v, ()), h')) := e1
  simp only [f_wicketlaw14_crowd, e0, Option.bind_some, Option.isNone_some, cond_false, f_wicketlaw14_num, decide_true, Bool.not_true, f_wicketlaw14_crowd_C21, e1', thenB_inl, g5.notT, Bool.not_false, cond_true]
end
end Go.Proofs.Ytadkkmingfajdaa

/- What the law knows of the locks: the plain part. -/
namespace Go.Proofs.Ytadkkmingfajdaa
open Go
set_option linter.unusedVariables false
set_option linter.unusedSimpArgs false

/-- The law's own notes are the locks' state. -/
structure Stt (es : List Hd) (W : List Ws) (D : List Int) (Gn : List Bool) : Prop where
  d : D.length = W.length
  g : Gn.length = W.length
  here : ∀ k (hk : k < W.length), Gn[k]? = some false → ∃ e ∈ es, e.t = ((k + 1 : Nat) : Int) ∧ e.X = W[k].X ∧ D[k]? = some (e.held : Int)
  only : ∀ e ∈ es, ∃ k, k < W.length ∧ e.t = ((k + 1 : Nat) : Int) ∧ Gn[k]? = some false
  dn : ∀ x ∈ D, 0 ≤ x ∧ x ≤ 64
  inv : ∀ e ∈ es, ∀ b ∈ e.X.take e.held, ∀ e' ∈ es, b ∈ e'.X → e.t ≤ e'.t

section
variable {es : List Hd} {W : List Ws} {D : List Int} {Gn : List Bool} {b t : Int}

theorem head_min {xs : List Int} (h1 : xs.Pairwise (· < ·)) (h2 : t ∈ xs) (h3 : ∀ x ∈ xs, t ≤ x) : xs.head? = some t := by
  cases xs with
  | nil => cases h2
  | cons x xs =>
    rw [List.pairwise_cons] at h1
    rcases List.mem_cons.1 h2 with h | h
    · subst h; rfl
    · have := h1.1 t h
      have := h3 x (List.mem_cons_self ..)
      omega
theorem mem_quu : t ∈ quu es b ↔ ∃ e ∈ es, e.t = t ∧ b ∈ e.X := by
  unfold quu
  rw [List.mem_map]
  constructor
  · rintro ⟨e, he, rfl⟩
    rw [List.mem_filter] at he
    exact ⟨e, he.1, rfl, by simpa using he.2⟩
  · rintro ⟨e, he, rfl, hb⟩
    exact ⟨e, List.mem_filter.2 ⟨he, by simpa using hb⟩, rfl⟩
theorem ent_of {e : Hd} (up : es.Pairwise fun a b => a.t < b.t) (he : e ∈ es) : ent es e.t = some e := by
  obtain ⟨j, hj, rfl⟩ := List.mem_iff_getElem.1 he
  refine ent_at hj rfl fun x hx => ?_
  rw [List.mem_take_iff_getElem] at hx
  obtain ⟨i, hi, rfl⟩ := hx
  exact List.pairwise_iff_getElem.1 up i j (by omega) hj (by omega)
theorem ent_uniq {e e' : Hd} (up : es.Pairwise fun a b => a.t < b.t) (he : e ∈ es) (he' : e' ∈ es) (h : e.t = e'.t) : e = e' := by
  have h1 := ent_of up he
  have h2 := ent_of up he'
  rw [h, h2] at h1
  exact (Option.some.inj h1).symm

/-- The least ticket can always take. -/
theorem rdy_least {e : Hd} (up : es.Pairwise fun a b => a.t < b.t) (he : e ∈ es) (hm : ∀ e' ∈ es, e.t ≤ e'.t) (hh : e.held < e.X.length) : rdy es e.t = true := by
  have h1 := ent_of up he
  unfold rdy nxt
  rw [h1]
  simp only [setOf, hldOf, List.getElem?_eq_getElem hh, Option.getD_some, hh, decide_true, Bool.true_and, decide_eq_true_eq]
  refine head_min (quu_up up) (mem_quu.2 ⟨e, he, rfl, List.getElem_mem hh⟩) fun x hx => ?_
  obtain ⟨e', he', rfl, _⟩ := mem_quu.1 hx
  exact hm e' he'

/-- A list that the law makes: who stands there. -/
def wX (W : List Ws) (k : Nat) : List Int := (W.getD k ⟨.slice none 0 0, [], []⟩).X
def dk (D : List Int) (k : Nat) : Nat := (D.getD k 0).toNat
def hereB (Gn : List Bool) (k : Nat) : Bool := Gn[k]? == some false
def standL (W : List Ws) (Gn : List Bool) (b : Int) : Nat → List Int
  | 0 => []
  | k + 1 => standL W Gn b k ++ (if hereB Gn k = true ∧ b ∈ wX W k then [((k + 1 : Nat) : Int)] else [])
def holdL (W : List Ws) (D : List Int) (Gn : List Bool) (b : Int) : Nat → Int
  | 0 => 0
  | k + 1 => if hereB Gn k = true ∧ b ∈ (wX W k).take (dk D k) then ((k + 1 : Nat) : Int) else holdL W D Gn b k

theorem stand_mem : ∀ {K : Nat}, t ∈ standL W Gn b K ↔ ∃ k, k < K ∧ t = ((k + 1 : Nat) : Int) ∧ hereB Gn k = true ∧ b ∈ wX W k := by
  intro K
  induction K with
  | zero => simp [standL]
  | succ K ih =>
    simp only [standL, List.mem_append, ih]
    constructor
    · rintro (⟨k, h1, h2⟩ | h)
      · exact ⟨k, by omega, h2⟩
      · split at h
        · rename_i hc
          simp only [List.mem_singleton] at h
          exact ⟨K, by omega, h, hc⟩
        · cases h
    · rintro ⟨k, h1, h2, h3⟩
      by_cases hk : k = K
      · subst hk; right; rw [if_pos h3]; simp [h2]
      · exact .inl ⟨k, by omega, h2, h3⟩
theorem stand_len : ∀ {K : Nat}, (standL W Gn b K).length ≤ K := by
  intro K
  induction K with
  | zero => simp [standL]
  | succ K ih => simp only [standL, List.length_append]; split <;> simp <;> omega
theorem stand_up : ∀ {K : Nat}, (standL W Gn b K).Pairwise (· < ·) := by
  intro K
  induction K with
  | zero => simp [standL]
  | succ K ih =>
    simp only [standL]
    rw [List.pairwise_append]
    refine ⟨ih, by split <;> simp, fun x hx y hy => ?_⟩
    obtain ⟨k, h1, rfl, _⟩ := stand_mem.1 hx
    split at hy
    · simp only [List.mem_singleton] at hy; subst hy; omega
    · cases hy
theorem up_ext : ∀ {xs ys : List Int}, xs.Pairwise (· < ·) → ys.Pairwise (· < ·) → (∀ t, t ∈ xs ↔ t ∈ ys) → xs = ys := by
  intro xs
  induction xs with
  | nil =>
    intro ys _ _ h
    cases ys with
    | nil => rfl
    | cons y ys => exact absurd ((h y).2 (List.mem_cons_self ..)) List.not_mem_nil
  | cons x xs ih =>
    intro ys h1 h2 h
    have hx : ys.head? = some x := head_min h2 ((h x).1 (List.mem_cons_self ..)) fun y hy => by
      rcases List.mem_cons.1 ((h y).2 hy) with e | e
      · omega
      · exact Int.le_of_lt ((List.pairwise_cons.1 h1).1 y e)
    cases ys with
    | nil => cases hx
    | cons y ys =>
      simp only [List.head?_cons, Option.some.injEq] at hx
      subst hx
      rw [List.pairwise_cons] at h1 h2
      rw [ih h1.2 h2.2 fun t => ?_]
      constructor
      · intro ht
        rcases List.mem_cons.1 ((h t).1 (List.mem_cons_of_mem _ ht)) with e | e
        · have := h1.1 t ht; omega
        · exact e
      · intro ht
        rcases List.mem_cons.1 ((h t).2 (List.mem_cons_of_mem _ ht)) with e | e
        · have := h2.1 t ht; omega
        · exact e

theorem Stt.ent (hs : Stt es W D Gn) {k : Nat} (hk : k < W.length) (hg : hereB Gn k = true) : ∃ e ∈ es, e.t = ((k + 1 : Nat) : Int) ∧ e.X = wX W k ∧ e.held = dk D k := by
  obtain ⟨e, h1, h2, h3, h4⟩ := hs.here k hk (by simpa [hereB] using hg)
  refine ⟨e, h1, h2, ?_, ?_⟩
  · rw [h3, wX, List.getD_eq_getElem?_getD, List.getElem?_eq_getElem hk]; rfl
  · simp [dk, List.getD_eq_getElem?_getD, h4]
theorem Stt.only' (hs : Stt es W D Gn) {e : Hd} (he : e ∈ es) : ∃ k, k < W.length ∧ e.t = ((k + 1 : Nat) : Int) ∧ hereB Gn k = true := by
  obtain ⟨k, h1, h2, h3⟩ := hs.only e he
  exact ⟨k, h1, h2, by simp [hereB, h3]⟩
theorem stand_eq (hs : Stt es W D Gn) (up : es.Pairwise fun a b => a.t < b.t) : standL W Gn b W.length = quu es b := by
  refine up_ext stand_up (quu_up up) fun t => ?_
  rw [stand_mem, mem_quu]
  constructor
  · rintro ⟨k, h1, rfl, h2, h3⟩
    obtain ⟨e, g1, g2, g3, _⟩ := hs.ent h1 h2
    exact ⟨e, g1, g2, g3 ▸ h3⟩
  · rintro ⟨e, he, rfl, hb⟩
    obtain ⟨k, h1, h2, h3⟩ := hs.only' he
    obtain ⟨e', g1, g2, g3, _⟩ := hs.ent h1 h3
    have := ent_uniq up he g1 (by omega)
    subst this
    exact ⟨k, h1, h2, h3, g3 ▸ hb⟩

/-- Nobody else has it. -/
theorem hold_zero (hs : Stt es W D Gn) {k : Nat} (hk : k < W.length) (hg : hereB Gn k = true) (hb : b ∈ (wX W k).take (dk D k)) : ∀ {j : Nat}, j ≤ k → holdL W D Gn b j = 0 := by
  intro j
  induction j with
  | zero => intro _; rfl
  | succ j ih =>
    intro hj
    simp only [holdL]
    rw [if_neg, ih (by omega)]
    rintro ⟨h1, h2⟩
    obtain ⟨e, g1, g2, g3, g4⟩ := hs.ent hk hg
    obtain ⟨e', g1', g2', g3', g4'⟩ := hs.ent (k := j) (by omega) h1
    have := hs.inv e g1 b (by rw [g3, g4]; exact hb) e' g1' (by rw [g3']; exact List.mem_of_mem_take h2)
    omega
theorem hold_some : ∀ {K : Nat}, (holdL W D Gn b K = 0 ∧ ∀ k, k < K → ¬ (hereB Gn k = true ∧ b ∈ (wX W k).take (dk D k))) ∨ ∃ k, k < K ∧ holdL W D Gn b K = ((k + 1 : Nat) : Int) ∧ hereB Gn k = true ∧ b ∈ (wX W k).take (dk D k) := by
  intro K
  induction K with
  | zero => exact .inl ⟨rfl, fun k hk => by omega⟩
  | succ K ih =>
    simp only [holdL]
    by_cases hc : hereB Gn K = true ∧ b ∈ (wX W K).take (dk D K)
    · rw [if_pos hc]; exact .inr ⟨K, by omega, rfl, hc⟩
    · rw [if_neg hc]
      rcases ih with ⟨h1, h2⟩ | ⟨k, h1, h2⟩
      · refine .inl ⟨h1, fun k hk => ?_⟩
        by_cases e : k = K
        · subst e; exact hc
        · exact h2 k (by omega)
      · exact .inr ⟨k, by omega, h2⟩
theorem hol_eq (hs : Stt es W D Gn) (up : es.Pairwise fun a b => a.t < b.t) : hol es b = (holdL W D Gn b W.length, decide (holdL W D Gn b W.length ≠ 0)) ∧ (holdL W D Gn b W.length ≠ 0 → (quu es b).head? = some (holdL W D Gn b W.length)) := by
  rcases hold_some (W := W) (D := D) (Gn := Gn) (b := b) (K := W.length) with ⟨h1, h2⟩ | ⟨k, h1, h2, h3, h4⟩
  · rw [h1]
    refine ⟨?_, fun h => absurd rfl h⟩
    unfold hol
    cases hq : quu es b with
    | nil => rfl
    | cons t ts =>
      simp only
      rw [if_neg]
      · rfl
      · intro hb
        obtain ⟨e, he, het, _⟩ := mem_quu.1 (show t ∈ quu es b by rw [hq]; exact List.mem_cons_self ..)
        rw [← het, ent_of up he] at hb
        simp only [setOf, hldOf] at hb
        obtain ⟨k, g1, g2, g3⟩ := hs.only' he
        obtain ⟨e', k1, k2, k3, k4⟩ := hs.ent g1 g3
        have := ent_uniq up he k1 (by omega)
        subst this
        exact h2 k g1 ⟨g3, by rw [← k3, ← k4]; exact hb⟩
  · obtain ⟨e, g1, g2, g3, g4⟩ := hs.ent h1 h3
    have hb : b ∈ e.X.take e.held := by rw [g3, g4]; exact h4
    have hhd : (quu es b).head? = some e.t := head_min (quu_up up) (mem_quu.2 ⟨e, g1, rfl, List.mem_of_mem_take hb⟩) fun x hx => by
      obtain ⟨e', he', rfl, hb'⟩ := mem_quu.1 hx
      exact hs.inv e g1 b hb e' he' hb'
    rw [h2]
    refine ⟨?_, fun _ => by rw [hhd, g2]⟩
    unfold hol
    cases hq : quu es b with
    | nil => rw [hq] at hhd; cases hhd
    | cons t ts =>
      rw [hq] at hhd
      simp only [List.head?_cons, Option.some.injEq] at hhd
      subst hhd
      simp only
      rw [ent_of up g1]
      have hb' : b ∈ (setOf (some e)).take (hldOf (some e)) := hb
      rw [if_pos hb', g2]
      rw [decide_eq_true (by omega : ((k + 1 : Nat) : Int) ≠ 0)]

/- steps -/
theorem Stt.drop (hs : Stt es W D Gn) {k : Nat} (hk : k < W.length) : Stt (rem es ((k + 1 : Nat) : Int)) W D (Gn.set k true) := by
  refine ⟨hs.d, by simpa using hs.g, fun j hj hg => ?_, fun e he => ?_, hs.dn, fun e he b hb e' he' => hs.inv e (List.mem_filter.1 he).1 b hb e' (List.mem_filter.1 he').1⟩
  · by_cases hjk : j = k
    · subst hjk
      rw [List.getElem?_set_self (by have := hs.g; omega)] at hg; cases hg
    · rw [List.getElem?_set_ne (fun e => hjk e.symm)] at hg
      obtain ⟨e, h1, h2, h3⟩ := hs.here j hj hg
      exact ⟨e, List.mem_filter.2 ⟨h1, by simp; omega⟩, h2, h3⟩
  · rw [rem, List.mem_filter] at he
    obtain ⟨j, h1, h2, h3⟩ := hs.only e he.1
    have : e.t ≠ ((k + 1 : Nat) : Int) := by simpa using he.2
    refine ⟨j, h1, h2, ?_⟩
    rw [List.getElem?_set_ne (by omega)]; exact h3
theorem Stt.take (hs : Stt es W D Gn) (up : es.Pairwise fun a b => a.t < b.t) (h64 : ∀ e ∈ es, e.X.length ≤ 64) {k : Nat} (hk : k < W.length) {e : Hd} (he : e ∈ es) (het : e.t = ((k + 1 : Nat) : Int)) (hh : e.held < e.X.length) (hr : rdy es e.t = true) :
    Stt (bump es ((k + 1 : Nat) : Int)) W (D.set k ((e.held + 1 : Nat) : Int)) Gn := by
  have hb : ∀ e' ∈ bump es ((k + 1 : Nat) : Int), ∃ e0 ∈ es, e'.t = e0.t ∧ e'.X = e0.X ∧ ((e0 = e ∧ e'.held = e.held + 1) ∨ (e0.t ≠ e.t ∧ e'.held = e0.held)) := by
    intro e' he'
    obtain ⟨e0, h0, rfl⟩ := List.mem_map.1 he'
    by_cases h1 : e0.t = ((k + 1 : Nat) : Int)
    · have := ent_uniq up h0 he (by omega)
      subst this
      exact ⟨e0, h0, by rw [if_pos h1], by rw [if_pos h1], .inl ⟨rfl, by rw [if_pos h1]⟩⟩
    · exact ⟨e0, h0, by rw [if_neg h1], by rw [if_neg h1], .inr ⟨by omega, by rw [if_neg h1]⟩⟩
  refine ⟨by simpa using hs.d, hs.g, fun j hj hg => ?_, fun e' he' => ?_, fun x hx => ?_, fun e1 h1 b hb1 e2 h2 hb2 => ?_⟩
  · obtain ⟨e0, h1, h2, h3, h4⟩ := hs.here j hj hg
    refine ⟨_, List.mem_map_of_mem h1, ?_, ?_, ?_⟩
    · split <;> exact h2
    · split <;> exact h3
    · by_cases hjk : j = k
      · subst hjk
        have := ent_uniq up h1 he (by omega)
        subst this
        rw [if_pos h2, List.getElem?_set_self (by have := hs.d; omega)]
      · rw [if_neg (by omega), List.getElem?_set_ne (fun e => hjk e.symm)]; exact h4
  · obtain ⟨e0, h0, h1, _⟩ := hb e' he'
    rw [h1]; exact hs.only e0 h0
  · rcases List.mem_or_eq_of_mem_set hx with hx | rfl
    · exact hs.dn x hx
    · have := h64 e he; omega
  · obtain ⟨a1, a0, at_, aX, ah⟩ := hb e1 h1
    obtain ⟨c1, c0, ct, cX, _⟩ := hb e2 h2
    rw [at_, ct]
    rw [cX] at hb2
    rw [aX] at hb1
    rcases ah with ⟨rfl, ah⟩ | ⟨hne, ah⟩
    · rw [ah, take_snoc hh, List.mem_append, List.mem_singleton] at hb1
      rcases hb1 with hb1 | rfl
      · exact hs.inv _ a0 b hb1 _ c0 hb2
      · have h1 := ent_of up a0
        unfold rdy nxt at hr
        rw [h1] at hr
        simp only [setOf, hldOf, List.getElem?_eq_getElem hh, Option.getD_some, hh, decide_true, Bool.true_and, decide_eq_true_eq] at hr
        have hm := mem_quu.2 ⟨c1, c0, rfl, hb2⟩
        have hup := quu_up (b := a1.X[a1.held]) up
        cases hq : quu es a1.X[a1.held] with
        | nil => rw [hq] at hm; cases hm
        | cons y ys =>
          rw [hq] at hr hm hup
          simp only [List.head?_cons, Option.some.injEq] at hr
          rcases List.mem_cons.1 hm with h | h
          · omega
          · have := (List.pairwise_cons.1 hup).1 _ h; omega
    · rw [ah] at hb1
      exact hs.inv _ a0 b hb1 _ c0 hb2
end
end Go.Proofs.Ytadkkmingfajdaa

/- The law's look at the locks: 'fair'. -/
namespace Go.Proofs.Ytadkkmingfajdaa
open Go
set_option linter.unusedVariables false
set_option linter.unusedSimpArgs false

section
variable {p N n : Nat} {es : List Hd} {last t : Int} {L F G Av Ad Ag : Ch} {h : Heap} {v dv gv : Value} {W : List Ws} {D : List Int} {Gn : List Bool}

theorem wcell (hs : Rds h 1 v W.length (W.map Ws.s)) {k : Nat} (hk : k < W.length) : ∃ a, ixB 1 v (k : Int) = some a ∧ ldT .any h (some a) = some W[k].s := by
  obtain ⟨a, e1, e2⟩ := hs.ix k hk
  refine ⟨a, e1, ?_⟩
  rw [e2.ldT0 (v := W[k].s) ?_]
  · rfl
  · rw [Nat.mul_one, List.getElem?_take, if_pos (by omega), List.getElem?_drop, Nat.add_zero, List.getElem?_map, List.getElem?_eq_getElem hk]; rfl

/-- What the law looks at. -/
structure Lw (N : Nat) (v dv gv : Value) (W : List Ws) (D : List Int) (Gn : List Bool) (Av Ad Ag : Ch) : Prop where
  v : Slc 1 v W.length (W.map Ws.s) Av
  d : Slc 1 dv W.length (iz .i64 D) Ad
  g : Slc 1 gv W.length (Gn.map .bool) Ag
  ok : ∀ w ∈ W, WsOk N w
  few : W.length ≤ 10

/-- All of it. -/
def All (L : Ch) (W : List Ws) (Av Ad Ag F : Ch) : Ch := L ++ (Av ++ (Ad ++ (Ag ++ (W.flatMap Ws.A ++ F))))

theorem here_bool {k : Nat} (hg : k < Gn.length) : hereB Gn k = !Gn[k] := by
  unfold hereB; rw [List.getElem?_eq_getElem hg]; cases Gn[k] <;> rfl

theorem first_loop (hd : Lk p N es last L) (hw : Lw N v dv gv W D Gn Av Ad Ag) (hs : Stt es W D Gn) (ho : Own h (All L W Av Ad Ag F)) (hn : 2000 ≤ n) :
    ∃ h', f_wicketlaw14_fair_C26 n gv dv v (some ⟨p, 0, none⟩) h = some (.inl ((), h')) ∧ Own h' (All L W Av Ad Ag F) := by
  have hup : es.Pairwise fun a b => a.t < b.t := by obtain ⟨_, _, _, _, _, hl, _⟩ := hd; exact hl.up
  have hN : N ≤ 64 := by obtain ⟨_, _, _, _, _, hl, _⟩ := hd; exact hl.small
  have hfew := hw.few
  obtain ⟨r, e1, h', rfl, o1⟩ := loopT_up (f := fun a : (Bool × Int × Unit) × Heap => f_wicketlaw14_fair_L25 n gv dv v (some ⟨p, 0, none⟩) W.length a.1.1 a.1.2.1 a.2)
    (I := fun j a => a.1.2.1 = (j : Int) ∧ (a.1.1 = true → ∀ k, k < j → hereB Gn k = false) ∧ Own a.2 (All L W Av Ad Ag F))
    (Q := fun r => ∃ h', r = .inl ((), h') ∧ Own h' (All L W Av Ad Ag F)) (N := W.length) (k := n) (j := 0) (a := ((true, 0, ()), h)) (by omega) (Nat.zero_le _)
    ⟨rfl, fun _ k hk => by omega, ho⟩ (by
      rintro k ⟨⟨lb, z, _⟩, hh⟩ hk ⟨rfl, hlb, ow⟩
      have ow : Own hh (All L W Av Ad Ag F) := ow
      have hlb : lb = true → ∀ j, j < k → hereB Gn j = false := hlb
      have hkd : k < D.length := by rw [hs.d]; exact hk
      have hkg : k < Gn.length := by rw [hs.g]; exact hk
      have rg : Rds hh 1 gv Gn.length (Gn.map .bool) := by rw [hs.g]; exact hw.g.sow hh fun x hx => ow.get x (by simp [All, hx])
      have rd : Rds hh 1 dv D.length (iz .i64 D) := by rw [hs.d]; exact hw.d.sow hh fun x hx => ow.get x (by simp [All, hx])
      have rv : Rds hh 1 v W.length (W.map Ws.s) := hw.v.sow hh fun x hx => ow.get x (by simp [All, hx])
      obtain ⟨q1, a1, a2⟩ := rg.bool hkg
      have hlt : (k : Int) < (W.length : Int) := by omega
      have hsucc : IntKind.i64.wrap ((k : Int) + 1) = ((k + 1 : Nat) : Int) := wrap_succ (by omega)
      left
      cases hg : Gn[k] with
      | true =>
        rw [hg] at a2
        refine ⟨((lb, ((k + 1 : Nat) : Int), ()), hh), ?_, rfl, fun h j hj => ?_, ow⟩
        · simp only [f_wicketlaw14_fair_L25, hlt, decide_true, cond_true, f_wicketlaw14_fair_C23, a1, a2, Option.bind_some, thenB_inl, hsucc]
        · by_cases hjk : j = k
          · subst hjk; rw [here_bool hkg, hg]; rfl
          · exact hlb h j (by omega)
      | false =>
        rw [hg] at a2
        have hhere : hereB Gn k = true := by rw [here_bool hkg, hg]; rfl
        obtain ⟨e, g1, g2, g3, g4⟩ := hs.ent hk hhere
        have hwk : wX W k = W[k].X := by simp [wX, List.getD_eq_getElem?_getD, List.getElem?_eq_getElem hk]
        have hdk : D[k] = (e.held : Int) := by
          obtain ⟨e', k1, k2, k3, k4⟩ := hs.here k hk (by rw [List.getElem?_eq_getElem hkg, hg])
          have := ent_uniq hup g1 k1 (by omega)
          subst this
          rw [List.getElem?_eq_getElem hkd] at k4
          exact Option.some.inj k4
        have hheld : e.held ≤ e.X.length := by obtain ⟨_, _, _, _, _, hl, _⟩ := hd; exact (hl.set e g1).2.1
        have hXl : W[k].X.length ≤ 64 := by have := (hw.ok _ (List.getElem_mem hk)).1.len; omega
        have hwc := (hw.ok _ (List.getElem_mem hk)).2
        obtain ⟨q2, b1, b2⟩ := wcell rv hk
        obtain ⟨q3, c1, c2⟩ := rd.int hkd
        rw [hdk] at c2
        rw [g3, hwk] at hheld
        obtain ⟨s', e2, sw⟩ := hwc.pre (h := hh) (k := .i64) (i := e.held) (by decide) hheld
        have e0 : (iz .i64 W[k].X).take (e.held * 1) = iz .i64 (W[k].X.take e.held) := by simp [iz, List.map_take]
        rw [e0] at sw
        have oA : Own hh (Ad ++ (Av ++ (L ++ (Ag ++ (W.flatMap Ws.A ++ F))))) := ow.to fun x => by simp only [All, cnt_append]; omega
        obtain ⟨A1, B1, oh, back⟩ := hid_ix2 hw.d hw.v oA c1 b1
        have w2 : IntKind.u64.wrap ((k + 1 : Nat) : Int) = ((k + 1 : Nat) : Int) := wrap_u64 (by omega) (by omega)
        obtain ⟨s2, h2, A2, e3, l3, o3⟩ := held_ok (n := n) (t := ((k + 1 : Nat) : Int)) hd (h := hid hh [] [q3.block, q2.block]) (F := A1 ++ (B1 ++ (Ag ++ (W.flatMap Ws.A ++ F)))) (oh.to fun x => by simp only [cnt_append]; omega)
        rw [← g2, ent_of hup g1] at l3
        simp only [setOf, hldOf, g3, hwk] at l3
        have o4 := back h2 (A2 ++ (L ++ (Ag ++ (W.flatMap Ws.A ++ F)))) (o3.to fun x => by simp only [cnt_append]; omega)
        rw [List.nil_append] at o4
        generalize hh3 : h2.putBack hh [q3.block, q2.block] = h3 at o4
        have hlen : (W[k].X.take e.held).length = e.held := by rw [List.length_take]; omega
        have r1 : Rds h3 1 s2 (W[k].X.take e.held).length (iz .i64 (W[k].X.take e.held)) := by rw [hlen]; exact l3.sow h3 fun x hx => o4.get x (by simp [hx])
        have r2 : Rds h3 1 s' (W[k].X.take e.held).length (iz .i64 (W[k].X.take e.held)) := by
          rw [hlen]; refine sw h3 fun x hx => o4.get x ?_
          have : x ∈ W.flatMap Ws.A := List.mem_flatMap.2 ⟨_, List.getElem_mem hk, hx⟩
          simp only [List.mem_append]; exact .inr (.inr (.inr (.inr (.inr (.inl this)))))
        have e4 := sameI_ok (n := n) r1 r2 (by omega) hn
        have o5 : Own h3 (All L W Av Ad Ag F) := o4.to fun x => by simp only [All, cnt_append]; omega
        have fin : ∀ {hz : Heap}, Own hz (All L W Av Ad Ag F) → ∃ a' : (Bool × Int × Unit) × Heap, a' = ((false, ((k + 1 : Nat) : Int), ()), hz) ∧ a'.1.2.1 = ((k + 1 : Nat) : Int) ∧ (a'.1.1 = true → ∀ j, j < k + 1 → hereB Gn j = false) ∧ Own a'.2 (All L W Av Ad Ag F) :=
          fun o => ⟨_, rfl, rfl, (fun h => by cases h), o⟩
        cases lb with
        | false =>
          obtain ⟨a', rfl, f1⟩ := fin o5
          refine ⟨_, ?_, f1⟩
          simp only [f_wicketlaw14_fair_L25, hlt, decide_true, cond_true, f_wicketlaw14_fair_C23, a1, a2, b1, b2, c1, c2, e2, Option.bind_some, cond_false, hsucc, w2, e3, bnd_eq, List.nil_append, hh3, e4, Bool.not_true, thenB_inl]
        | true =>
          have rd3 : Rds h3 1 dv D.length (iz .i64 D) := by rw [hs.d]; exact hw.d.sow h3 fun x hx => o5.get x (by simp [All, hx])
          have rv3 : Rds h3 1 v W.length (W.map Ws.s) := hw.v.sow h3 fun x hx => o5.get x (by simp [All, hx])
          obtain ⟨q4, d1, d2⟩ := wcell rv3 hk
          obtain ⟨q5, f1, f2⟩ := rd3.int hkd
          rw [hdk] at f2
          obtain rfl : q2 = q4 := Option.some.inj (b1.symm.trans d1)
          obtain rfl : q3 = q5 := Option.some.inj (c1.symm.trans f1)
          by_cases hmore : e.held < W[k].X.length
          · obtain ⟨h4, e5, o6⟩ := ready_ok (n := n) (t := ((k + 1 : Nat) : Int)) hd (h := h3) (F := Av ++ (Ad ++ (Ag ++ (W.flatMap Ws.A ++ F)))) o5
            have hr : rdy es ((k + 1 : Nat) : Int) = true := by
              rw [← g2]
              refine rdy_least hup g1 (fun e' he' => ?_) (by rw [g3, hwk]; exact hmore)
              obtain ⟨j, j1, j2, j3⟩ := hs.only' he'
              rcases Nat.lt_or_ge j k with hjk | hjk
              · rw [hlb rfl j hjk] at j3; cases j3
              · omega
            rw [hr] at e5
            obtain ⟨a', rfl, f3⟩ := fin (hz := h4) o6
            refine ⟨_, ?_, f3⟩
            have hm : (e.held : Int) < (W[k].X.length : Int) := by omega
            simp only [f_wicketlaw14_fair_L25, hlt, decide_true, cond_true, f_wicketlaw14_fair_C23, a1, a2, b1, b2, c1, c2, e2, Option.bind_some, cond_false, hsucc, w2, e3, bnd_eq, List.nil_append, hh3, e4, Bool.not_true, d1, d2, f1, f2, hwc.lenB, hm, e5, thenB_inl]
          · obtain ⟨a', rfl, f3⟩ := fin (hz := h3) o5
            refine ⟨_, ?_, f3⟩
            have hm : ¬ (e.held : Int) < (W[k].X.length : Int) := by omega
            simp only [f_wicketlaw14_fair_L25, hlt, decide_true, cond_true, f_wicketlaw14_fair_C23, a1, a2, b1, b2, c1, c2, e2, Option.bind_some, cond_false, hsucc, w2, e3, bnd_eq, List.nil_append, hh3, e4, Bool.not_true, d1, d2, f1, f2, hwc.lenB, hm, decide_false, thenB_inl]) (by
      rintro ⟨⟨lb, z, _⟩, hh⟩ ⟨rfl, hlb, ow⟩
      exact ⟨.inl ((), hh), by simp [f_wicketlaw14_fair_L25], hh, rfl, ow⟩)
  exact ⟨h', by simp only [f_wicketlaw14_fair_C26, hw.v.lenB, Option.bind_some]; exact e1, o1⟩
end
end Go.Proofs.Ytadkkmingfajdaa

/- The law's look at the locks: the queues. -/
namespace Go.Proofs.Ytadkkmingfajdaa
open Go
set_option linter.unusedVariables false
set_option linter.unusedSimpArgs false

section
variable {p N n : Nat} {es : List Hd} {last t : Int} {L F G Av Ad Ag : Ch} {h : Heap} {v dv gv : Value} {W : List Ws} {D : List Int} {Gn : List Bool}

/-- One set: who stands, who has it. -/
def stI (W : List Ws) (Gn : List Bool) (b : Int) (k i : Nat) : List Int := standL W Gn b k ++ (if hereB Gn k = true ∧ b ∈ (wX W k).take i then [((k + 1 : Nat) : Int)] else [])
def hoI (W : List Ws) (D : List Int) (Gn : List Bool) (b : Int) (k i : Nat) : Int := if hereB Gn k = true ∧ b ∈ (wX W k).take (min i (dk D k)) then ((k + 1 : Nat) : Int) else holdL W D Gn b k

theorem not_take {X : List Int} {i : Nat} (up : X.Pairwise (· < ·)) (hi : i < X.length) : X[i] ∉ X.take i := by
  intro hm
  rw [List.mem_take_iff_getElem] at hm
  obtain ⟨j, hj, e⟩ := hm
  have := List.pairwise_iff_getElem.1 up j i (by omega) hi (by omega)
  omega

theorem inner_ok {b : Nat} {k : Nat} {sv : Value} {As : Ch} (hd : Lk p N es last L) (hw : Lw N v dv gv W D Gn Av Ad Ag) (hs : Stt es W D Gn) (hk : k < W.length) (hsv : Slc 1 sv (standL W Gn (b : Int) k).length (iz .u64 (standL W Gn (b : Int) k)) As)
    (ho : Own h (As ++ All L W Av Ad Ag F)) (hn : 2000 ≤ n) :
    ∃ sv' As' h', f_wicketlaw14_fair_C62 n gv dv v (b : Int) (k : Int) (holdL W D Gn (b : Int) k) sv h = some (.inl ((sv', holdL W D Gn (b : Int) (k + 1), ()), h')) ∧
      Slc 1 sv' (standL W Gn (b : Int) (k + 1)).length (iz .u64 (standL W Gn (b : Int) (k + 1))) As' ∧ Own h' (As' ++ All L W Av Ad Ag F) := by
  have hfew := hw.few
  have hN : N ≤ 64 := by obtain ⟨_, _, _, _, _, hl, _⟩ := hd; exact hl.small
  have hkd : k < D.length := by rw [hs.d]; exact hk
  have hkg : k < Gn.length := by rw [hs.g]; exact hk
  have hwk : wX W k = W[k].X := by simp [wX, List.getD_eq_getElem?_getD, List.getElem?_eq_getElem hk]
  have hX := (hw.ok _ (List.getElem_mem hk)).1
  have hXl : W[k].X.length ≤ 64 := by have := hX.len; omega
  have hwc := (hw.ok _ (List.getElem_mem hk)).2
  have hdn := hs.dn _ (List.getElem_mem hkd)
  have hdk : D[k] = (dk D k : Int) := by
    simp only [dk, List.getD_eq_getElem?_getD, List.getElem?_eq_getElem hkd, Option.getD_some]; omega
  have rv : Rds h 1 v W.length (W.map Ws.s) := hw.v.sow h fun x hx => ho.get x (by simp [All, hx])
  obtain ⟨q2, b1, b2⟩ := wcell rv hk
  have i0 : stI W Gn (b : Int) k 0 = standL W Gn (b : Int) k := by simp [stI]
  have h0 : hoI W D Gn (b : Int) k 0 = holdL W D Gn (b : Int) k := by simp [hoI]
  have iN : stI W Gn (b : Int) k W[k].X.length = standL W Gn (b : Int) (k + 1) := by simp [stI, standL, hwk]
  have hNe : hoI W D Gn (b : Int) k W[k].X.length = holdL W D Gn (b : Int) (k + 1) := by
    unfold hoI
    have : (wX W k).take (min W[k].X.length (dk D k)) = (wX W k).take (dk D k) := by rw [hwk, Nat.min_comm, ← List.take_eq_take_min]
    rw [this]; rfl
  have sl : ∀ i, (stI W Gn (b : Int) k i).length ≤ 20 := fun i => by
    have := stand_len (W := W) (Gn := Gn) (b := (b : Int)) (K := k)
    simp only [stI, List.length_append]; split <;> simp <;> omega
  obtain ⟨r, e1, sv', As', h', rfl, g1, g2⟩ := loopT_up (f := fun a : (Value × Int × Int × Unit) × Heap => f_wicketlaw14_fair_L61 n gv dv v (b : Int) (k : Int) W[k].X.length a.1.1 a.1.2.1 a.1.2.2.1 a.2)
    (I := fun i a => a.1.2.2.1 = (i : Int) ∧ a.1.2.1 = hoI W D Gn (b : Int) k i ∧ ∃ As, Slc 1 a.1.1 (stI W Gn (b : Int) k i).length (iz .u64 (stI W Gn (b : Int) k i)) As ∧ Own a.2 (As ++ All L W Av Ad Ag F))
    (Q := fun r => ∃ sv' As' h', r = .inl ((sv', holdL W D Gn (b : Int) (k + 1), ()), h') ∧ Slc 1 sv' (standL W Gn (b : Int) (k + 1)).length (iz .u64 (standL W Gn (b : Int) (k + 1))) As' ∧ Own h' (As' ++ All L W Av Ad Ag F))
    (N := W[k].X.length) (k := n) (j := 0) (a := ((sv, holdL W D Gn (b : Int) k, 0, ()), h)) (by omega) (Nat.zero_le _) ⟨rfl, h0.symm, As, by rw [i0]; exact hsv, ho⟩ (by
      rintro i ⟨⟨s, z1, z2, _⟩, hh⟩ hi ⟨rfl, rfl, As, hs1, ow⟩
      have ow : Own hh (As ++ All L W Av Ad Ag F) := ow
      have rg : Rds hh 1 gv Gn.length (Gn.map .bool) := by rw [hs.g]; exact hw.g.sow hh fun x hx => ow.get x (by simp [All, hx])
      have rd : Rds hh 1 dv D.length (iz .i64 D) := by rw [hs.d]; exact hw.d.sow hh fun x hx => ow.get x (by simp [All, hx])
      have rv : Rds hh 1 v W.length (W.map Ws.s) := hw.v.sow hh fun x hx => ow.get x (by simp [All, hx])
      have rx : Rds hh 1 W[k].s W[k].X.length (iz .i64 W[k].X) := hwc.sow hh fun x hx => by
        refine ow.get x ?_
        have : x ∈ W.flatMap Ws.A := List.mem_flatMap.2 ⟨_, List.getElem_mem hk, hx⟩
        simp only [All, List.mem_append]; exact .inr (.inr (.inr (.inr (.inr (.inl this)))))
      obtain ⟨q1, a1, a2⟩ := rg.bool hkg
      obtain ⟨q3, c1, c2⟩ := wcell rv hk
      obtain ⟨q4, d1, d2⟩ := rx.int hi
      have hlt : (i : Int) < (W[k].X.length : Int) := by omega
      have hsucc : IntKind.i64.wrap ((i : Int) + 1) = ((i + 1 : Nat) : Int) := wrap_succ (by omega)
      have hsucck : IntKind.i64.wrap ((k : Int) + 1) = ((k + 1 : Nat) : Int) := wrap_succ (by omega)
      have w2 : IntKind.u64.wrap ((k + 1 : Nat) : Int) = ((k + 1 : Nat) : Int) := wrap_u64 (by omega) (by omega)
      have hge := here_bool hkg
      have tk : ∀ m : Nat, m ≤ i → (b : Int) = W[k].X[i] → ¬ (b : Int) ∈ W[k].X.take m := fun m hm e hmem => by
        have h1 := not_take hX.2.1 hi
        rw [← e] at h1
        exact h1 ((List.take_subset_take_left _ hm) hmem)
      left
      by_cases hc : Gn[k] = false ∧ W[k].X[i] = (b : Int)
      · obtain ⟨hg, hx⟩ := hc
        rw [hg] at a2 hge
        have hge : hereB Gn k = true := hge
        rw [hx] at d2
        have st0 : stI W Gn (b : Int) k i = standL W Gn (b : Int) k := by
          unfold stI; rw [if_neg, List.append_nil]; rw [hwk]; exact fun h => tk i (Nat.le_refl _) hx.symm h.2
        have st1 : stI W Gn (b : Int) k (i + 1) = standL W Gn (b : Int) k ++ [((k + 1 : Nat) : Int)] := by
          unfold stI; rw [if_pos]; rw [hwk]; exact ⟨hge, by rw [take_snoc hi, List.mem_append, hx]; simp⟩
        have ho0 : hoI W D Gn (b : Int) k i = holdL W D Gn (b : Int) k := by
          unfold hoI; rw [if_neg]; rw [hwk]; exact fun h => tk _ (Nat.min_le_left _ _) hx.symm h.2
        rw [st0] at hs1
        have hl := sl 0
        rw [i0] at hl
        obtain ⟨s2, h2, A2, e2, l2, o2⟩ := hs1.push (new := [.int .u64 ((k + 1 : Nat) : Int)]) ow (by decide) rfl (bytes := 8) (by omega)
        have rd2 : Rds h2 1 dv D.length (iz .i64 D) := by rw [hs.d]; exact hw.d.sow h2 fun x hx => o2.get x (by simp [All, hx])
        obtain ⟨q5, f1, f2⟩ := rd2.int hkd
        rw [hdk] at f2
        have fl : fillL [.int .u64 0] [(0, 1, .int .u64 ((k + 1 : Nat) : Int))] = some [.int .u64 ((k + 1 : Nat) : Int)] := rfl
        have l2' : Slc 1 s2 (stI W Gn (b : Int) k (i + 1)).length (iz .u64 (stI W Gn (b : Int) k (i + 1))) A2 := by
          rw [st1, iz_append, List.length_append]; exact l2
        by_cases hid : i < dk D k
        · have ho1 : hoI W D Gn (b : Int) k (i + 1) = ((k + 1 : Nat) : Int) := by
            unfold hoI; rw [if_pos]; rw [hwk, Nat.min_eq_left (by omega)]; exact ⟨hge, by rw [take_snoc hi, List.mem_append, hx]; simp⟩
          have hz : holdL W D Gn (b : Int) k = 0 := hold_zero hs hk hge (by
            rw [hwk]
            have : (b : Int) ∈ W[k].X.take (i + 1) := by rw [take_snoc hi, List.mem_append, hx]; simp
            exact (List.take_subset_take_left _ (by omega)) this) (Nat.le_refl _)
          refine ⟨((s2, ((k + 1 : Nat) : Int), ((i + 1 : Nat) : Int), ()), h2), ?_, rfl, ho1.symm, A2, l2', o2⟩
          have hm : (i : Int) < (dk D k : Int) := by omega
          simp only [f_wicketlaw14_fair_L61, hlt, decide_true, cond_true, f_wicketlaw14_fair_C59, a1, a2, c1, c2, d1, d2, Option.bind_some, Bool.not_false, hsucc, hsucck, w2, fl, bnd_eq, e2, f1, f2, hm, ho0, hz, Bool.not_true, cond_false, thenB_inl]
        · have ho1 : hoI W D Gn (b : Int) k (i + 1) = holdL W D Gn (b : Int) k := by
            unfold hoI; rw [if_neg]; rw [hwk, Nat.min_eq_right (by omega)]; exact fun h => tk _ (by omega) hx.symm h.2
          refine ⟨((s2, holdL W D Gn (b : Int) k, ((i + 1 : Nat) : Int), ()), h2), ?_, rfl, ho1.symm, A2, l2', o2⟩
          have hm : ¬ (i : Int) < (dk D k : Int) := by omega
          simp only [f_wicketlaw14_fair_L61, hlt, decide_true, cond_true, f_wicketlaw14_fair_C59, a1, a2, c1, c2, d1, d2, Option.bind_some, Bool.not_false, hsucc, hsucck, w2, fl, bnd_eq, e2, f1, f2, hm, ho0, decide_false, cond_false, thenB_inl]
      · have same : ∀ m m' : Nat, (m = m' ∨ (m' = i + 1 ∧ m = i)) → ((hereB Gn k = true ∧ (b : Int) ∈ (wX W k).take m') ↔ (hereB Gn k = true ∧ (b : Int) ∈ (wX W k).take m)) := by
          rintro m m' (rfl | ⟨rfl, rfl⟩)
          · exact Iff.rfl
          · rw [hwk, take_snoc hi]
            constructor
            · rintro ⟨h1, h2⟩
              refine ⟨h1, ?_⟩
              rcases List.mem_append.1 h2 with h | h
              · exact h
              · simp only [List.mem_singleton] at h
                rw [hge] at h1
                exact absurd ⟨by simpa using h1, h.symm⟩ hc
            · rintro ⟨h1, h2⟩; exact ⟨h1, List.mem_append_left _ h2⟩
        have st1 : stI W Gn (b : Int) k (i + 1) = stI W Gn (b : Int) k i := by
          unfold stI; simp only [same i (i + 1) (.inr ⟨rfl, rfl⟩)]
        have ho1 : hoI W D Gn (b : Int) k (i + 1) = hoI W D Gn (b : Int) k i := by
          unfold hoI
          simp only [same (min i (dk D k)) (min (i + 1) (dk D k)) (by omega)]
        refine ⟨((s, hoI W D Gn (b : Int) k i, ((i + 1 : Nat) : Int), ()), hh), ?_, rfl, ho1.symm, As, by rw [st1]; exact hs1, ow⟩
        cases hg : Gn[k] with
        | true =>
          rw [hg] at a2
          simp only [f_wicketlaw14_fair_L61, hlt, decide_true, cond_true, f_wicketlaw14_fair_C59, a1, a2, Option.bind_some, Bool.not_true, cond_false, hsucc, thenB_inl]
        | false =>
          rw [hg] at a2
          have hx : ¬ W[k].X[i] = (b : Int) := fun e => hc ⟨hg, e⟩
          simp only [f_wicketlaw14_fair_L61, hlt, decide_true, cond_true, f_wicketlaw14_fair_C59, a1, a2, c1, c2, d1, d2, Option.bind_some, Bool.not_false, hx, decide_false, cond_false, hsucc, thenB_inl]) (by
      rintro ⟨⟨s, z1, z2, _⟩, hh⟩ ⟨rfl, rfl, As, hs1, ow⟩
      refine ⟨.inl ((s, holdL W D Gn (b : Int) (k + 1), ()), hh), ?_, s, As, hh, rfl, by rw [← iN]; exact hs1, ow⟩
      have hlt : ¬ (W[k].X.length : Int) < (W[k].X.length : Int) := by omega
      simp only [f_wicketlaw14_fair_L61, hlt, decide_false, cond_false, hNe])
  refine ⟨sv', As', h', ?_, g1, g2⟩
  simp only [f_wicketlaw14_fair_C62, b1, b2, Option.bind_some, hwc.lenB]
  exact e1
end
end Go.Proofs.Ytadkkmingfajdaa

/- The law's look at the locks, all of it. -/
namespace Go.Proofs.Ytadkkmingfajdaa
open Go
set_option linter.unusedVariables false
set_option linter.unusedSimpArgs false

section
variable {p N n : Nat} {es : List Hd} {last t : Int} {L F G Av Ad Ag : Ch} {h : Heap} {v dv gv : Value} {W : List Ws} {D : List Int} {Gn : List Bool}

theorem outer_ok {b : Nat} (hd : Lk p N es last L) (hw : Lw N v dv gv W D Gn Av Ad Ag) (hs : Stt es W D Gn) (ho : Own h (All L W Av Ad Ag F)) (hn : 2000 ≤ n) :
    ∃ sv As h', f_wicketlaw14_fair_C65 n gv dv v (b : Int) h = some (.inl ((sv, holdL W D Gn (b : Int) W.length, ()), h')) ∧
      Slc 1 sv (standL W Gn (b : Int) W.length).length (iz .u64 (standL W Gn (b : Int) W.length)) As ∧ Own h' (As ++ All L W Av Ad Ag F) := by
  have hfew := hw.few
  obtain ⟨r, e1, sv, As, h', rfl, g1, g2⟩ := loopT_up (f := fun a : (Value × Int × Int × Unit) × Heap => f_wicketlaw14_fair_L64 n gv dv v (b : Int) W.length a.1.1 a.1.2.1 a.1.2.2.1 a.2)
    (I := fun k a => a.1.2.2.1 = (k : Int) ∧ a.1.2.1 = holdL W D Gn (b : Int) k ∧ ∃ As, Slc 1 a.1.1 (standL W Gn (b : Int) k).length (iz .u64 (standL W Gn (b : Int) k)) As ∧ Own a.2 (As ++ All L W Av Ad Ag F))
    (Q := fun r => ∃ sv As h', r = .inl ((sv, holdL W D Gn (b : Int) W.length, ()), h') ∧ Slc 1 sv (standL W Gn (b : Int) W.length).length (iz .u64 (standL W Gn (b : Int) W.length)) As ∧ Own h' (As ++ All L W Av Ad Ag F))
    (N := W.length) (k := n) (j := 0) (a := ((.slice none 0 0, 0, 0, ()), h)) (by omega) (Nat.zero_le _) ⟨rfl, rfl, [], .nil, ho⟩ (by
      rintro k ⟨⟨s, z1, z2, _⟩, hh⟩ hk ⟨rfl, rfl, As, hs1, ow⟩
      obtain ⟨s2, A2, h2, e2, l2, o2⟩ := inner_ok (n := n) hd hw hs hk hs1 ow hn
      refine .inl ⟨((s2, holdL W D Gn (b : Int) (k + 1), ((k + 1 : Nat) : Int), ()), h2), ?_, rfl, rfl, A2, l2, o2⟩
      have hlt : (k : Int) < (W.length : Int) := by omega
      have hsucc : IntKind.i64.wrap ((k : Int) + 1) = ((k + 1 : Nat) : Int) := wrap_succ (by omega)
      simp only [f_wicketlaw14_fair_L64, hlt, decide_true, cond_true, e2, thenB_inl, hsucc]) (by
      rintro ⟨⟨s, z1, z2, _⟩, hh⟩ ⟨rfl, rfl, As, hs1, ow⟩
      refine ⟨.inl ((s, holdL W D Gn (b : Int) W.length, ()), hh), ?_, s, As, hh, rfl, hs1, ow⟩
      have hlt : ¬ (W.length : Int) < (W.length : Int) := by omega
      simp only [f_wicketlaw14_fair_L64, hlt, decide_false, cond_false])
  refine ⟨sv, As, h', ?_, g1, g2⟩
  simp only [f_wicketlaw14_fair_C65, hw.v.lenB, Option.bind_some]
  exact e1

theorem block_ok {b : Nat} (hd : Lk p N es last L) (hw : Lw N v dv gv W D Gn Av Ad Ag) (hs : Stt es W D Gn) (hb : b < N) (ho : Own h (All L W Av Ad Ag F)) (hn : 2000 ≤ n) :
    ∃ h', f_wicketlaw14_fair_C72 n gv dv v (some ⟨p, 0, none⟩) (b : Int) h = some (.inl ((), h')) ∧ Own h' (All L W Av Ad Ag F) := by
  have hup : es.Pairwise fun a b => a.t < b.t := by obtain ⟨_, _, _, _, _, hl, _⟩ := hd; exact hl.up
  have hfew : es.length ≤ 900 := by obtain ⟨_, _, _, _, _, hl, _⟩ := hd; exact hl.few
  obtain ⟨qv, h1, A1, e1, l1, o1⟩ := queue_ok (n := n) (b := b) hd (F := Av ++ (Ad ++ (Ag ++ (W.flatMap Ws.A ++ F)))) ho hb hn
  obtain ⟨sv, A2, h2, e2, l2, o2⟩ := outer_ok (n := n) (b := b) hd hw hs (h := h1) (F := A1 ++ F) (o1.to fun x => by simp only [All, cnt_append]; omega) hn
  obtain ⟨h3, e3, o3⟩ := holder_ok (n := n) (b := b) hd (h := h2) (F := A1 ++ (A2 ++ (Av ++ (Ad ++ (Ag ++ (W.flatMap Ws.A ++ F)))))) (o2.to fun x => by simp only [All, cnt_append]; omega) hb hn
  rw [stand_eq hs hup] at l2
  obtain ⟨c1, c2⟩ := hol_eq (b := (b : Int)) hs hup
  rw [c1] at e3
  have hql : (quu es (b : Int)).length ≤ 1000 := Nat.le_trans quu_len (by omega)
  have r1 : Rds h3 1 qv (quu es (b : Int)).length (iz .u64 (quu es (b : Int))) := l1.sow h3 fun x hx => o3.get x (by simp [hx])
  have r2 : Rds h3 1 sv (quu es (b : Int)).length (iz .u64 (quu es (b : Int))) := l2.sow h3 fun x hx => o3.get x (by simp [hx])
  have e4 := sameT_ok (n := n) r1 r2 hql hn
  generalize holdL W D Gn (b : Int) W.length = hz at e2 e3 c2
  refine ⟨h3, ?_, o3.to fun x => by simp only [All, cnt_append]; omega⟩
  by_cases h0 : hz = 0
  · subst h0
    simp only [f_wicketlaw14_fair_C72, e1, Option.bind_some, e2, thenB_inl, e3, e4, decide_true, Bool.not_true, cond_false, ne_eq, not_true, decide_false, beq_self_eq_true]
  · have hq := c2 h0
    obtain ⟨xs, hx⟩ : ∃ xs, quu es (b : Int) = hz :: xs := by
      cases hc : quu es (b : Int) with
      | nil => rw [hc] at hq; cases hq
      | cons y ys => rw [hc] at hq; simp only [List.head?_cons, Option.some.injEq] at hq; subst hq; exact ⟨_, rfl⟩
    obtain ⟨q, a1, a2⟩ := r1.int (L := quu es (b : Int)) (i := 0) (by rw [hx]; simp)
    have a1 : ixB 1 qv 0 = some q := a1
    have h00 : (quu es (b : Int))[0]'(by rw [hx]; simp) = hz := by simp [hx]
    rw [h00] at a2
    simp only [f_wicketlaw14_fair_C72, e1, Option.bind_some, e2, thenB_inl, e3, e4, decide_true, Bool.not_true, cond_false, ne_eq, h0, not_false_eq_true, decide_false, Bool.not_false, beq_self_eq_true, cond_true, a1, a2]

theorem fair_ok (hd : Lk p N es last L) (hw : Lw N v dv gv W D Gn Av Ad Ag) (hs : Stt es W D Gn) (ho : Own h (All L W Av Ad Ag F)) (hn : 2000 ≤ n) :
    ∃ h', f_wicketlaw14_fair n (some ⟨p, 0, none⟩) (N : Int) v dv gv h = some ((true, ()), h') ∧ Own h' (All L W Av Ad Ag F) := by
  have hN : N ≤ 64 := by obtain ⟨_, _, _, _, _, hl, _⟩ := hd; exact hl.small
  obtain ⟨h1, e1, o1⟩ := first_loop (n := n) hd hw hs ho hn
  obtain ⟨r, e2, h', rfl, o2⟩ := loopT_up (f := fun a : (Int × Unit) × Heap => f_wicketlaw14_fair_L74 n gv dv v (N : Int) (some ⟨p, 0, none⟩) a.1.1 a.2)
    (I := fun j a => a.1.1 = (j : Int) ∧ Own a.2 (All L W Av Ad Ag F)) (Q := fun r => ∃ h', r = ((true, ()), h') ∧ Own h' (All L W Av Ad Ag F)) (N := N) (k := n) (j := 0) (a := ((0, ()), h1)) (by omega) (Nat.zero_le _) ⟨rfl, o1⟩ (by
      rintro b ⟨⟨z, _⟩, hh⟩ hb ⟨rfl, ow⟩
      obtain ⟨h2, e3, o3⟩ := block_ok (n := n) hd hw hs hb ow hn
      refine .inl ⟨((((b + 1 : Nat) : Int), ()), h2), ?_, rfl, o3⟩
      have hlt : (b : Int) < (N : Int) := by omega
      simp only [f_wicketlaw14_fair_L74, hlt, decide_true, cond_true, e3, thenB_inl, wrap_succ (j := b) (by omega)]) (by
      rintro ⟨⟨z, _⟩, hh⟩ ⟨rfl, ow⟩
      exact ⟨((true, ()), hh), by simp [f_wicketlaw14_fair_L74], hh, rfl, ow⟩)
  refine ⟨h', ?_, o2⟩
  simp only [f_wicketlaw14_fair, e1, thenB_inl]
  exact e2
end
end Go.Proofs.Ytadkkmingfajdaa

/- what the law asks at first -/
namespace Go.Proofs.Ytadkkmingfajdaa
open Go
set_option linter.unusedVariables false
set_option linter.unusedSimpArgs false

theorem idx_of (y : Int) {K : Nat} (h1 : 0 < K) (h2 : K ≤ 1000) : ∃ k : Nat, k < K ∧ Int.tmod (IntKind.i64.wrap (Int.tmod y (K : Int) + (K : Int))) (K : Int) = (k : Int) := by
  have g1 := Int.tmod_lt_of_pos y (b := (K : Int)) (by omega)
  have g2 := Int.lt_tmod_of_pos y (b := (K : Int)) (by omega)
  rw [wrap_i64 (by omega) (by omega)]
  have g3 := Int.tmod_lt_of_pos (y.tmod K + K) (b := (K : Int)) (by omega)
  have g4 := Int.tmod_nonneg (a := y.tmod K + K) (K : Int) (by omega)
  exact ⟨((y.tmod K + K).tmod K).toNat, by omega, by omega⟩

theorem blocksOf_ok (x : Int) : ∃ N : Nat, 1 ≤ N ∧ N ≤ 9 ∧ IntKind.i64.wrap (1 + Int.tmod (IntKind.i64.wrap (Int.tmod x 9 + 9)) 9) = (N : Int) := by
  obtain ⟨k, h1, h2⟩ := idx_of x (K := 9) (by decide) (by decide)
  have h2 : Int.tmod (IntKind.i64.wrap (Int.tmod x 9 + 9)) 9 = (k : Int) := h2
  rw [h2]
  exact ⟨k + 1, by omega, by omega, by rw [wrap_i64 (by omega) (by omega)]; omega⟩

section
variable {es : List Hd} {W : List Ws}
theorem start_stt (hc : es.map core = start W) : Stt es W (List.replicate W.length 0) (List.replicate W.length false) := by
  have hlen : es.length = W.length := by have := congrArg List.length hc; simpa [start] using this
  have hat : ∀ k (hk : k < W.length), es[k].t = ((k + 1 : Nat) : Int) ∧ es[k].X = W[k].X ∧ es[k].held = 0 := by
    intro k hk
    have h1 : (es.map core)[k]? = (start W)[k]? := by rw [hc]
    rw [List.getElem?_map, List.getElem?_eq_getElem (by omega)] at h1
    simp only [start, List.getElem?_map, List.getElem?_range hk, Option.map_some, core, Option.some.injEq, Prod.mk.injEq, List.getD_eq_getElem?_getD, List.getElem?_eq_getElem hk, Option.getD_some] at h1
    exact h1
  refine ⟨by simp, by simp, fun k hk _ => ⟨es[k], List.getElem_mem (by omega), (hat k hk).1, (hat k hk).2.1, ?_⟩, fun e he => ?_, fun x hx => ?_, fun e he b hb => ?_⟩
  · rw [(hat k hk).2.2]; simp [List.getElem?_replicate, hk]
  · obtain ⟨k, hk, rfl⟩ := List.mem_iff_getElem.1 he
    exact ⟨k, by omega, (hat k (by omega)).1, by rw [List.getElem?_replicate, if_pos (by omega)]⟩
  · have := List.eq_of_mem_replicate hx; omega
  · obtain ⟨k, hk, rfl⟩ := List.mem_iff_getElem.1 he
    rw [(hat k (by omega)).2.2, List.take_zero] at hb; cases hb

end
end Go.Proofs.Ytadkkmingfajdaa
