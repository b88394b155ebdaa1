/- Ticket queues: the functions. -/
import Derived.Test.YtpcmjoghflllfaaS2
import Derived.Test.YtpcmjoghflllfaaLTicketPlays
namespace Go.Proofs.Ytpcmjoghflllfaa
open Go
set_option linter.unusedVariables false
set_option linter.unusedSimpArgs false

/-- A queue: its tickets, the greatest that has ever come. -/
def Qx (q : Nat) (xs : List Int) (last : Int) (L : Ch) : Prop := ∃ s A, Slc 1 s xs.length (iz .u64 xs) A ∧ L = (q, .cells [s, .int .u64 last] false 0) :: A

section
variable {n q : Nat} {sp : Option Nat} {xs : List Int} {last t : Int} {L F : Ch} {h : Heap}

theorem put_ok (hq : Qx q xs last L) (ho : Own h (L ++ F)) (hlen : xs.length ≤ 1000) :
    ∃ h' L', f_ticket_Queue_Put n (some ⟨q, 0, sp⟩) t h = some ((if t ≤ last then 110 else 0, ()), h') ∧ Qx q (if t ≤ last then xs else xs ++ [t]) (if t ≤ last then last else t) L' ∧ Own h' (L' ++ F) := by
  obtain ⟨s, A, hs, rfl⟩ := hq
  have ho : Own h ((q, .cells [s, .int .u64 last] false 0) :: (A ++ F)) := ho
  have hg := ho.head
  by_cases ht : t ≤ last
  · refine ⟨h, _, ?_, ⟨s, A, by simpa [ht] using hs, rfl⟩, by simpa [ht] using ho⟩
    simp [f_ticket_Queue_Put, ldT_of hg, ht]
  · obtain ⟨s', h1, A', e1, e2, e3⟩ := hs.push (new := [.int .u64 t]) (F := (q, .cells [s, .int .u64 last] false 0) :: F) (ho.to fun x => by simp only [cnt_append, cnt_cons, cnt_nil]; omega) (by decide) rfl (bytes := 8) (by omega)
    have e4 : Own h1 ((q, .cells [s, .int .u64 last] false 0) :: (A' ++ F)) := e3.to fun x => by simp only [cnt_append, cnt_cons, cnt_nil]; omega
    have e5 := e4.put (.cells [s', .int .u64 last] false 0)
    have e6 := e5.put (.cells [s', .int .u64 t] false 0)
    refine ⟨_, _, ?_, ⟨s', A', by simpa [ht] using e2, rfl⟩, by simpa [ht] using e6⟩
    simp [f_ticket_Queue_Put, ldT_of hg, ht, e1, stB_of e4.head, stB_of e5.head, e2.cellsOf, e2.isCell, writeAt]

theorem Qx.parts (hq : Qx q xs last L) (ho : Own h (L ++ F)) : ∃ s, h.get q = some (.cells [s, .int .u64 last] false 0) ∧ Rds h 1 s xs.length (iz .u64 xs) ∧ isTuple s = false := by
  obtain ⟨s, A, hs, rfl⟩ := hq
  exact ⟨s, ho.head, hs.rds (F := F) ho.tail, hs.notT⟩

theorem rput_ok (hq : Qx q xs last L) (ho : Own h (L ++ F)) (hlen : xs.length ≤ 1000) :
    ∃ h' L', f_wicketref11_Queue_Put n (some ⟨q, 0, sp⟩) t h = some ((if t ≤ last then 110 else 0, ()), h') ∧ Qx q (if t ≤ last then xs else xs ++ [t]) (if t ≤ last then last else t) L' ∧ Own h' (L' ++ F) := by
  obtain ⟨s, A, hs, rfl⟩ := hq
  have ho : Own h ((q, .cells [s, .int .u64 last] false 0) :: (A ++ F)) := ho
  have hg := ho.head
  by_cases ht : t ≤ last
  · refine ⟨h, _, ?_, ⟨s, A, by simpa [ht] using hs, rfl⟩, by simpa [ht] using ho⟩
    simp [f_wicketref11_Queue_Put, ldT_of hg, ht]
  · have e4 := ho.put (.cells [s, .int .u64 t] false 0)
    obtain ⟨s', h1, A', e1, e2, e3⟩ := hs.push (new := [.int .u64 t]) (F := (q, .cells [s, .int .u64 t] false 0) :: F) (e4.to fun x => by simp only [cnt_append, cnt_cons, cnt_nil]; omega) (by decide) rfl (bytes := 8) (by omega)
    rw [show (h.put q (.cells [s, .int .u64 t] false 0)).next = h.next from rfl] at e1
    have e5 : Own h1 ((q, .cells [s, .int .u64 t] false 0) :: (A' ++ F)) := e3.to fun x => by simp only [cnt_append, cnt_cons, cnt_nil]; omega
    have e6 := e5.put (.cells [s', .int .u64 t] false 0)
    refine ⟨_, _, ?_, ⟨s', A', by simpa [ht] using e2, rfl⟩, by simpa [ht] using e6⟩
    simp [f_wicketref11_Queue_Put, ldT_of hg, ht, stB_of hg, writeAt, ldT_of e4.head, e1, stB_of e5.head, e2.cellsOf, e2.isCell]

theorem len_ok (hq : Qx q xs last L) (ho : Own h (L ++ F)) : f_ticket_Queue_Len n (some ⟨q, 0, sp⟩) h = some (((xs.length : Int), ()), h) := by
  obtain ⟨s, hg, hr, _⟩ := hq.parts ho
  simp [f_ticket_Queue_Len, ldT_of hg, hr.lenB]

/-- The first one, if there is one. -/
def hd (xs : List Int) : Int := match xs with | [] => 0 | x :: _ => x
theorem first_ok (hq : Qx q xs last L) (ho : Own h (L ++ F)) : f_ticket_Queue_First n (some ⟨q, 0, sp⟩) h = some ((hd xs, (decide (xs ≠ []), ())), h) := by
  obtain ⟨s, hg, hr, _⟩ := hq.parts ho
  have hl := len_ok (n := n) (sp := sp) hq ho
  cases xs with
  | nil => simp [f_ticket_Queue_First, hl, hd]
  | cons x xs =>
    obtain ⟨p, e1, e2⟩ := hr.int (i := 0) (by simp)
    have hne : ¬ ((xs.length : Int) + 1 = 0) := by omega
    simp at e1
    simp [f_ticket_Queue_First, hl, hd, ldT_of hg, e1, e2, hne]
theorem rfirst_ok (hq : Qx q xs last L) (ho : Own h (L ++ F)) : f_wicketref11_Queue_First n (some ⟨q, 0, sp⟩) h = some ((hd xs, (decide (xs ≠ []), ())), h) := by
  obtain ⟨s, hg, hr, _⟩ := hq.parts ho
  cases xs with
  | nil => simp [f_wicketref11_Queue_First, ldT_of hg, hr.lenB, hd]
  | cons x xs =>
    obtain ⟨p, e1, e2⟩ := hr.int (i := 0) (by simp)
    have hne : ¬ ((xs.length : Int) + 1 = 0) := by omega
    simp at e1
    simp [f_wicketref11_Queue_First, ldT_of hg, hr.lenB, hd, e1, e2, hne]

/-- slices.Delete. -/
theorem delete_ok {s : Value} {A : Ch} {i j : Nat} (hs : Slc 1 s xs.length (iz .u64 xs) A) (ho : Own h (A ++ F)) (hij : i < j) (hj : j ≤ xs.length) (hlen : xs.length ≤ 1000) :
    ∃ s' h' A', f_slices_Delete_uint64_uint64 n s (i : Int) (j : Int) h = some ((s', ()), h') ∧ Slc 1 s' (i + (xs.length - j)) (iz .u64 (xs.take i ++ xs.drop j)) A' ∧ Own h' (A' ++ F) := by
  generalize hcs : iz .u64 xs = cs at hs
  have hcl : cs.length = xs.length := by rw [← hcs]; simp
  generalize hN : xs.length = N at *
  cases hs with
  | nil => omega
  | @mk b off sp _ c pre _ rest hp hl hr =>
    have hg : h.get b = some (.cells (pre ++ (cs ++ rest)) false 1) := ho.get (b, .cells (pre ++ (cs ++ rest)) false 1) (by simp)
    have hc : N ≤ c := by omega
    have hne : ¬ ((i : Int) = (j : Int)) := by omega
    have ecut := cut_mid (sp := sp) (bytes := 8) hg hp hcl (by omega : N + rest.length = c) hij hj (by omega)
    rw [Nat.mul_one] at ecut
    have eo := Own.put (F := F) ho (.cells (pre ++ (cs.take i ++ cs.drop j ++ (cs.drop (i + (N - j)) ++ rest))) false 1)
    generalize hh1 : h.put b (.cells (pre ++ (cs.take i ++ cs.drop j ++ (cs.drop (i + (N - j)) ++ rest))) false 1) = h1 at ecut eo
    have esl := sliceK_lh (h := h1) (es := 1) (b := b) (off := off) (sp := sp) (n := i + (N - j)) (c := c) (i := i + (N - j)) (j := N) (k := .i64) (k' := .i64) (by omega) hc
    have hclr := clearK_of (h := h1) (b := b) (off := off + (i + (N - j)) * 1) (sp := sp) (n := N - (i + (N - j))) (c := c - (i + (N - j))) (zs := [.int .u64 0]) eo.head (by simp; omega)
    have hk : (cs.take i ++ cs.drop j).length = i + (N - j) := by simp; omega
    have this : writeAt (pre ++ (cs.take i ++ cs.drop j ++ (cs.drop (i + (N - j)) ++ rest))) (off + (i + (N - j))) (List.replicate (N - (i + (N - j))) [Value.int .u64 0]).flatten = pre ++ (iz .u64 (xs.take i ++ xs.drop j) ++ (List.replicate (N - (i + (N - j))) (.int .u64 0) ++ rest)) := by
      have hf : (List.replicate (N - (i + (N - j))) [Value.int .u64 0]).flatten = List.replicate (N - (i + (N - j))) (.int .u64 0) := by
        generalize N - (i + (N - j)) = k
        induction k with
        | zero => rfl
        | succ k ih => simp [List.replicate_succ, ih]
      have hd : (cs.drop (i + (N - j))).length = N - (i + (N - j)) := by simp; omega
      rw [hf, writeAt_eq _ _ _ (by simp; omega), ← hp]
      have e1 : pre ++ (cs.take i ++ cs.drop j ++ (cs.drop (i + (N - j)) ++ rest)) = (pre ++ (cs.take i ++ cs.drop j)) ++ (cs.drop (i + (N - j)) ++ rest) := by simp
      have e2 : pre.length + (i + (N - j)) = (pre ++ (cs.take i ++ cs.drop j)).length := by simp; omega
      rw [e1, e2, List.take_left, ← List.drop_drop, List.drop_left, List.length_replicate, ← hd, List.drop_left]
      rw [← hcs]
      simp [iz, List.map_take, List.map_drop]
    refine ⟨.slice (some ⟨b, off, sp⟩) (i + (N - j)) c, h1.put b (.cells (pre ++ (iz .u64 (xs.take i ++ xs.drop j) ++ (List.replicate (N - (i + (N - j))) (.int .u64 0) ++ rest))) false 1), _, ?_, Slc.mk (b := b) (sp := sp) (pre := pre) (cs := iz .u64 (xs.take i ++ xs.drop j)) (rest := List.replicate (N - (i + (N - j))) (.int .u64 0) ++ rest) hp (by simp; omega) (c := c) (by simp; omega), ?_⟩
    · rw [f_slices_Delete_uint64_uint64]
      have hlc : ((i + (N - j) : Nat) : Int) = (i : Int) + ((N - j : Nat) : Int) := by omega
      simp only [lenB_slice, Option.bind_some, sliceK_lhm (Nat.le_of_lt hij) hj hc, hne, decide_false, cond_false, sliceK_h (show i ≤ c by omega), sliceK_l hj hc, Nat.mul_one, ecut]
      rw [Nat.mul_one] at esl
      simp only [esl, Option.bind_some]
      rw [Nat.mul_one] at hclr
      simp only [hclr, this, Option.bind_some]
      simp only [isTuple_slice, Bool.not_false, cond_true]
    · exact eo.put _

end
end Go.Proofs.Ytpcmjoghflllfaa
