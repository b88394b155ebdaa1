/- Ticket queues: copies, lists, comparison. -/
import Derived.Test.YtpcmjoghflllfaaTp2
namespace Go.Proofs.Ytpcmjoghflllfaa
open Go
set_option linter.unusedVariables false
set_option linter.unusedSimpArgs false

section
variable {n q : Nat} {sp : Option Nat} {xs ys : List Int} {last t : Int} {L F : Ch} {h : Heap}

theorem eqVals_slice_nil {a : Option Addr} {k c : Nat} : eqVals h .slice (.slice a k c) (.slice none 0 0) = some a.isNone := by cases a <;> rfl
theorem clone_ok {s : Value} {G : Ch} (hr : Sow 1 s xs.length (iz .u64 xs) G) (ho : Own h (G ++ F)) (hlen : xs.length ≤ 1000) :
    ∃ s' h' A', f_slices_Clone_uint64_uint64 n s h = some ((s', ()), h') ∧ Slc 1 s' xs.length (iz .u64 xs) A' ∧ Own h' (A' ++ (G ++ F)) := by
  obtain ⟨a, c, hf, hsrc⟩ := (hr.rds ho).src
  subst hf
  cases a with
  | none =>
    have hx : xs = [] := by
      have h1 : (some [] : Option (List Value)) = some (iz .u64 xs) := hsrc
      have h2 := congrArg (fun l => l.map List.length) h1
      have h3 : 0 = xs.length := by simpa using h2
      exact List.eq_nil_of_length_eq_zero h3.symm
    subst hx
    exact ⟨.slice none 0 0, h, [], by simp [f_slices_Clone_uint64_uint64, eqVals_slice_nil], .nil, ho⟩
  | some p =>
    have o1 := ho.new (.cells [] false 1)
    have hs : Slc 1 (.slice (some ⟨h.next, 0, some 0⟩) 0 0) 0 [] [(h.next, .cells ([] ++ ([] ++ [])) false 1)] := .mk rfl rfl rfl
    obtain ⟨s', h', A', e1, e2, e3⟩ := hr.app hs (F := F) o1 (by decide) (bytes := 8) (by omega)
    refine ⟨s', h', A', ?_, by simpa using e2, e3⟩
    have := e2.notT
    simp [f_slices_Clone_uint64_uint64, eqVals_slice_nil, e1, this]

theorem copy_ok (hq : Qx q xs last L) (ho : Own h (L ++ F)) (hlen : xs.length ≤ 1000) : ∃ q' h' L', f_ticket_Queue_Copy n (some ⟨q, 0, none⟩) h = some ((some ⟨q', 0, none⟩, ()), h') ∧ Qx q' xs last L' ∧ Own h' (L' ++ (L ++ F)) := by
  obtain ⟨s, A, hs, rfl⟩ := hq
  have o0 : Own h ((q, .cells [s, .int .u64 last] false 0) :: (A ++ F)) := ho
  have hg := o0.head
  have o1 := o0.ro
  obtain ⟨s', h1, A', e1, e2, o2⟩ := clone_ok (n := n) hs.sow (F := (q, .cells [s, .int .u64 last] true 0) :: F) (o1.to fun x => by simp only [cnt_append, cnt_cons, cnt_nil]; omega) hlen
  have o3 := Own.back (h0 := h) (ro := false) (X := A' ++ (A ++ F)) (o2.to fun x => by simp only [cnt_append, cnt_cons, cnt_nil]; omega) hg
  generalize hh2 : h1.putBack h [q] = h2 at o3
  have o4 := o3.new (.cells [s', .int .u64 last] false 0)
  refine ⟨h2.next, h2.new (.cells [s', .int .u64 last] false 0), _, ?_, ⟨s', A', e2, rfl⟩, o4.to fun x => by simp only [cnt_append, cnt_cons, cnt_nil, List.cons_append]; omega⟩
  simp only [f_ticket_Queue_Copy, Option.isNone_some, cond_false, Option.bind_some, fa_mk, Nat.zero_add]
  simp only [ldT_of hg, List.getElem?_cons_succ, List.getElem?_cons_zero, Option.bind_some, prj_any, prj_int, e1, bnd_eq, List.nil_append, hh2]
  simp [e2.cellsOf, e2.isCell, writeAt]

/-- Are two lists the same? -/
theorem same_ok {s u : Value} (hs : Rds h 1 s xs.length (iz .u64 xs)) (hu : Rds h 1 u ys.length (iz .u64 ys)) (hlen : xs.length ≤ 1000) (hn : 2000 ≤ n) : f_wicketlaw11_same n s u h = some ((decide (xs = ys), ()), h) := by
  by_cases hl : xs.length = ys.length
  · obtain ⟨r, e1, e2⟩ := loopT_up (f := fun a : (Int × Unit) × Heap => f_wicketlaw11_same_L9 n u s xs.length a.1.1 a.2) (I := fun j a => a.1.1 = (j : Int) ∧ a.2 = h ∧ xs.take j = ys.take j) (Q := fun r => r = ((decide (xs = ys), ()), h)) (N := xs.length) (k := n) (j := 0) (a := ((0, ()), h)) (by omega) (Nat.zero_le _) ⟨rfl, rfl, rfl⟩ (by
        rintro j ⟨⟨z, _⟩, hh⟩ hj ⟨rfl, rfl, ht⟩
        obtain ⟨p, a1, a2⟩ := hs.int hj
        obtain ⟨p', b1, b2⟩ := hu.int (i := j) (by omega)
        by_cases hx : xs[j] = ys[j]
        · refine .inl ⟨((((j + 1 : Nat) : Int), ()), hh), ?_, rfl, rfl, ?_⟩
          · simp [f_wicketlaw11_same_L9, hj, a1, a2, b1, b2, hx, wrap_succ (j := j) (by omega)]
          · rw [List.take_add_one, List.take_add_one, ht, List.getElem?_eq_getElem hj, List.getElem?_eq_getElem (by omega), hx]
        · refine .inr ⟨((false, ()), hh), by simp [f_wicketlaw11_same_L9, hj, a1, a2, b1, b2, hx], ?_⟩
          have : xs ≠ ys := by rintro rfl; exact hx rfl
          simp [this]) (by
        rintro ⟨⟨z, _⟩, hh⟩ ⟨rfl, rfl, ht⟩
        refine ⟨((true, ()), hh), by simp [f_wicketlaw11_same_L9], ?_⟩
        have : xs = ys := by
          have h1 : xs.take xs.length = ys.take xs.length := ht
          rw [List.take_length, hl, List.take_length] at h1; exact h1
        simp [this])
    subst e2
    have e1' : loopT (fun a => f_wicketlaw11_same_L9 n u s ys.length a.1.1 a.2) n ((0, ()), h) = some ((decide (xs = ys), ()), h) := by rw [← hl]; exact e1
    simp [f_wicketlaw11_same, hs.lenB, hu.lenB, hl, e1']
  · have : xs ≠ ys := by rintro rfl; exact hl rfl
    have h2 : ¬ ((xs.length : Int) = (ys.length : Int)) := by omega
    simp [f_wicketlaw11_same, hs.lenB, hu.lenB, h2, this, hl]

/-- What All gives; the first most of them. -/
def lst (m : Int) (xs : List Int) : List Int := if 0 ≤ m then xs.take m.toNat else xs
theorem listed_ok {m : Int} (hq : Qx q xs last L) (ho : Own h (L ++ F)) (hlen : xs.length ≤ 1000) (hn : 2000 ≤ n) :
    ∃ s' h' A', f_wicketlaw11_listed n (some ⟨q, 0, none⟩) m h = some ((s', (true, ())), h') ∧ Slc 1 s' (lst m xs).length (iz .u64 (lst m xs)) A' ∧ Own h' (A' ++ (L ++ F)) := by
  have o1 := ho.new (.cells [.int .i64 m] false 0)
  have o2 := o1.new (.cells [.slice none 0 0] false 0)
  generalize hb0 : h.next = b0 at o1 o2
  generalize hh0 : h.new (.cells [.int .i64 m] false 0) = h0 at o1 o2
  generalize hb1 : h0.next = b1 at o2
  generalize hh1 : h0.new (.cells [.slice none 0 0] false 0) = h1 at o2
  obtain ⟨e6, o6⟩ := qall_ok (n := n) (q := q) o2
  generalize hbx : h1.next = bx at e6 o6
  generalize hh4 : h1.new (.cells [.pointer (some ⟨q, 0, none⟩)] false 0) = h4 at e6 o6
  obtain ⟨s, ⟨A, hL⟩, seen0⟩ := hq.seen (bx := bx) (h := h4) (F := (b1, .cells [.slice none 0 0] false 0) :: (b0, .cells [.int .i64 m] false 0) :: F) (o6.to fun x => by simp only [cnt_append, cnt_cons, cnt_nil]; omega)
  have seenW : ∀ {hh : Heap} {X : Ch}, Own hh ((bx, .cells [.pointer (some ⟨q, 0, none⟩)] false 0) :: (L ++ X)) → SeenQ hh bx s xs := by
    intro hh X o
    obtain ⟨s', ⟨A', hL'⟩, hseen⟩ := hq.seen o
    rw [hL] at hL'
    simp only [List.cons.injEq, Prod.mk.injEq, AObj.cells.injEq, true_and, and_true] at hL'
    rw [hL'.1]; exact hseen
  obtain ⟨⟨h5, p⟩, e7, h7⟩ := all1_ok (xs := xs) (n := n) (bx := bx) (s := s) (hp := fun v : Heap × Nat => v.1) (up := fun v h => (h, v.2)) (y := fun a v => f_wicketlaw11_listed_B18 n h h0 a.1 v) (w := (h4.hole.hole, 0))
    (J := fun i v => v.2 = 0 ∧ (0 ≤ m → (i : Int) ≤ m) ∧ ∃ s' A', Slc 1 s' i (iz .u64 (xs.take i)) A' ∧ Own v.1 ((bx, .cells [.pointer (some ⟨q, 0, none⟩)] false 0) :: (b1, .cells [s'] false 0) :: (b0, .cells [.int .i64 m] false 0) :: (A' ++ (L ++ F))))
    (Q := fun v => v.2 = 1 ∧ ∃ s' A', Slc 1 s' (lst m xs).length (iz .u64 (lst m xs)) A' ∧ Own v.1 ((b1, .cells [s'] false 0) :: (A' ++ (L ++ F)))) (by omega) hlen
    ⟨rfl, fun h => by simpa using h, .slice none 0 0, [], .nil, o6.hole.hole⟩
    (by
      rintro i v ⟨_, _, s', A', hs', ow⟩
      exact seenW (X := (b1, .cells [s'] false 0) :: (b0, .cells [.int .i64 m] false 0) :: (A' ++ F)) (ow.to fun x => by simp only [cnt_append, cnt_cons, cnt_nil]; omega)) (by
      rintro i ⟨hh, p⟩ hi ⟨rfl, hm, s', A', hs', ow⟩
      have g0 : hh.get b0 = some (.cells [.int .i64 m] false 0) := ow.get (b0, _) (by simp)
      have g1 : hh.get b1 = some (.cells [s'] false 0) := ow.get (b1, _) (by simp)
      by_cases hstop : 0 ≤ m ∧ m ≤ (i : Int)
      · have hmi : m = (i : Int) := by have := hm hstop.1; omega
        have hl : lst m xs = xs.take i := by unfold lst; rw [if_pos hstop.1, hmi]; rfl
        refine ⟨false, (hh, 1), ?_, (fun h => by cases h), fun _ => ⟨rfl, s', A', ?_, ow.to fun x => by simp only [cnt_append, cnt_cons, cnt_nil]; omega⟩⟩
        · simp only [f_wicketlaw11_listed_B18, nwA_eq, hb0, hb1]
          simp [ldT_of g0, ldT_of g1, hs'.lenB, hstop.1, hstop.2]
        · rw [hl]
          have : (xs.take i).length = i := by rw [List.length_take]; omega
          rw [this]; exact hs'
      · obtain ⟨s2, h2, A2, e1, e2, o3⟩ := hs'.push (new := [.int .u64 xs[i]]) (F := (bx, .cells [.pointer (some ⟨q, 0, none⟩)] false 0) :: (b1, .cells [s'] false 0) :: (b0, .cells [.int .i64 m] false 0) :: (L ++ F)) (ow.to fun x => by simp only [cnt_append, cnt_cons, cnt_nil]; omega) (by decide) rfl (bytes := 8) (by omega)
        have o4 : Own h2 ((b1, .cells [s'] false 0) :: (bx, .cells [.pointer (some ⟨q, 0, none⟩)] false 0) :: (b0, .cells [.int .i64 m] false 0) :: (A2 ++ (L ++ F))) := o3.to fun x => by simp only [cnt_append, cnt_cons, cnt_nil]; omega
        refine ⟨true, (h2.put b1 (.cells [s2] false 0), 0), ?_, fun _ => ⟨rfl, fun h0 => by have := hm h0; push_cast; omega, s2, A2, ?_, (o4.put (.cells [s2] false 0)).to fun x => by simp only [cnt_append, cnt_cons, cnt_nil]; omega⟩, (fun h => by cases h)⟩
        · simp only [f_wicketlaw11_listed_B18, nwA_eq, hb0, hb1]
          by_cases h0 : 0 ≤ m
          · have h1 : ¬ m ≤ (i : Int) := fun h => hstop ⟨h0, h⟩
            simp [ldT_of g0, ldT_of g1, hs'.lenB, h0, h1, e1, stB_of o4.head, e2.cellsOf, e2.isCell, writeAt]
          · simp [ldT_of g0, ldT_of g1, hs'.lenB, h0, e1, stB_of o4.head, e2.cellsOf, e2.isCell, writeAt]
        · rw [List.take_add_one, List.getElem?_eq_getElem hi, iz_append]
          exact e2)
  have e7' : f_ticket_Queue_All_1 (V := Heap × Nat) (fun v => v.1) (fun v h => (h, v.2)) (fun a v => f_wicketlaw11_listed_B18 n h h0 a.1 v) n (some ⟨bx, 0, none⟩) (h4.hole.hole, 0) = some (h5, p) := e7
  obtain ⟨hp, s', A', hs', ow⟩ : (p = 0 ∨ p = 1) ∧ ∃ s' A', Slc 1 s' (lst m xs).length (iz .u64 (lst m xs)) A' ∧ Own h5 ((b1, .cells [s'] false 0) :: (A' ++ (L ++ F))) := by
    rcases h7 with ⟨hp, hm, s', A', hs', ow⟩ | ⟨hp, s', A', hs', ow⟩
    · refine ⟨.inl hp, s', A', ?_, Own.to (A := (bx, .cells [.pointer (some ⟨q, 0, none⟩)] false 0) :: (b1, .cells [s'] false 0) :: (b0, .cells [.int .i64 m] false 0) :: (A' ++ (L ++ F))) ow fun x => by simp only [cnt_append, cnt_cons, cnt_nil]; omega⟩
      have hl : lst m xs = xs := by
        unfold lst
        by_cases h0 : 0 ≤ m
        · have := hm h0
          rw [if_pos h0, List.take_of_length_le (by omega)]
        · rw [if_neg h0]
      rw [hl]; simpa using hs'
    · exact ⟨.inr hp, s', A', hs', ow⟩
  have o8 := ow.put (.cells [s'] false 0)
  have hnt := hs'.notT
  refine ⟨s', h5.put b1 (.cells [s'] false 0), A', ?_, hs', o8.tail⟩
  simp only [f_wicketlaw11_listed, bnd_eq, hh0, hh1, nwA_eq, hb0, hb1, e6, Option.bind_some]
  rw [eqVals_fn]
  rcases hp with rfl | rfl <;> simp [e7', ldT_of ow.head, stB_of ow.head, hs'.cellsOf, hs'.isCell, writeAt, ldT_of o8.head, hnt]
end
end Go.Proofs.Ytpcmjoghflllfaa
