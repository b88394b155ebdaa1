/- The document's queues. -/
import Derived.Test.YtpcmjoghflllfaaTp3
namespace Go.Proofs.Ytpcmjoghflllfaa
open Go
set_option linter.unusedVariables false
set_option linter.unusedSimpArgs false

section
variable {n q : Nat} {sp : Option Nat} {xs ys : List Int} {last t : Int} {L F : Ch} {h : Heap}

theorem rplace_ok (hq : Qx q xs last L) (ho : Own h (L ++ F)) (hlen : xs.length ≤ 1000) (hn : 2000 ≤ n) : f_wicketref11_Queue_Place n (some ⟨q, 0, none⟩) t h = some ((plc t xs 0, ()), h) := by
  obtain ⟨s, hg, hr, _⟩ := hq.parts ho
  obtain ⟨r, e1, e2⟩ := loopT_up (f := fun a : (Int × Unit) × Heap => f_wicketref11_Queue_Place_L9 n t (some ⟨q, 0, none⟩) a.1.1 a.2) (I := fun j a => a.1.1 = (j : Int) ∧ a.2 = h ∧ t ∉ xs.take j) (Q := fun r => r = ((plc t xs 0, ()), h)) (N := xs.length) (k := n) (j := 0) (a := ((0, ()), h)) (by omega) (Nat.zero_le _) ⟨rfl, rfl, by simp⟩ (by
      rintro j ⟨⟨z, _⟩, hh⟩ hj ⟨rfl, rfl, ht⟩
      simp only at hg hr
      obtain ⟨p, a1, a2⟩ := hr.int hj
      by_cases hx : xs[j] = t
      · refine .inr ⟨(((j : Int), ()), hh), by simp [f_wicketref11_Queue_Place_L9, ldT_of hg, hr.lenB, hj, a1, a2, hx], ?_⟩
        rw [plc_at hj hx ht]; simp
      · refine .inl ⟨((((j + 1 : Nat) : Int), ()), hh), ?_, rfl, rfl, ?_⟩
        · simp [f_wicketref11_Queue_Place_L9, ldT_of hg, hr.lenB, hj, a1, a2, hx, wrap_succ (j := j) (by omega)]
        · rw [List.take_add_one, List.getElem?_eq_getElem hj]
          simp only [Option.toList_some, List.mem_append, List.mem_singleton, not_or]
          exact ⟨ht, fun e => hx e.symm⟩) (by
      rintro ⟨⟨z, _⟩, hh⟩ ⟨rfl, rfl, ht⟩
      simp only at hg hr
      refine ⟨(((-1 : Int), ()), hh), by simp [f_wicketref11_Queue_Place_L9, ldT_of hg, hr.lenB], ?_⟩
      rw [plc_none (by simpa using ht)])
  subst e2
  rw [f_wicketref11_Queue_Place, e1]

theorem rdrop_ok (hq : Qx q xs last L) (ho : Own h (L ++ F)) (hnd : xs.Nodup) (hlen : xs.length ≤ 1000) (hn : 2000 ≤ n) : ∃ h' L', f_wicketref11_Queue_Drop n (some ⟨q, 0, none⟩) t h = some ((if t ∈ xs then 0 else 110, ()), h') ∧ Qx q (xs.erase t) last L' ∧ Own h' (L' ++ F) := by
  obtain ⟨s, A, hs, rfl⟩ := hq
  have o0 : Own h ((q, .cells [s, .int .u64 last] false 0) :: (A ++ F)) := ho
  obtain ⟨⟨⟨s2, z, _⟩, h2⟩, e1, hz, A2, e3, o2⟩ := loopT_up (f := fun a : (Value × Int × Int × Unit) × Heap => f_wicketref11_Queue_Drop_L19 n t (some ⟨q, 0, none⟩) a.1.1 a.1.2.1 a.1.2.2.1 a.2)
    (I := fun j a => a.1.2.2.1 = (j : Int) ∧ a.1.2.1 = (if t ∈ xs.take j then 0 else 110) ∧ ∃ A', Slc 1 a.1.1 ((xs.take j).filter (· ≠ t)).length (iz .u64 ((xs.take j).filter (· ≠ t))) A' ∧ Own a.2 (A' ++ ((q, .cells [s, .int .u64 last] false 0) :: (A ++ F))))
    (Q := fun r => r.1.2.1 = (if t ∈ xs then 0 else 110) ∧ ∃ A', Slc 1 r.1.1 (xs.filter (· ≠ t)).length (iz .u64 (xs.filter (· ≠ t))) A' ∧ Own r.2 (A' ++ ((q, .cells [s, .int .u64 last] false 0) :: (A ++ F)))) (N := xs.length) (k := n) (j := 0) (a := ((.slice none 0 0, 110, 0, ()), h)) (by omega) (Nat.zero_le _) ⟨rfl, by simp, [], .nil, o0⟩ (by
      rintro j ⟨⟨v, z, i, _⟩, hh⟩ hj ⟨rfl, rfl, A', hv, ow⟩
      simp only at hv ow
      have ow2 : Own hh ((q, .cells [s, .int .u64 last] false 0) :: (A ++ (A' ++ F))) := ow.to fun x => by simp only [cnt_append, cnt_cons, cnt_nil]; omega
      have hg := ow2.head
      have hr := hs.rds (F := A' ++ F) ow2.tail
      obtain ⟨p, a1, a2⟩ := hr.int hj
      have hfl := List.length_filter_le (· ≠ t) (xs.take j)
      have htl : (xs.take j).length ≤ 1000 := by rw [List.length_take]; omega
      left
      by_cases hx : xs[j] = t
      · refine ⟨((v, 0, ((j + 1 : Nat) : Int), ()), hh), ?_, rfl, ?_, A', ?_, ow⟩
        · simp [f_wicketref11_Queue_Drop_L19, ldT_of hg, hr.lenB, hj, a1, a2, hx, wrap_succ (j := j) (by omega)]
        · simp [take_snoc hj, hx]
        · simp only [take_snoc hj, hx, List.filter_append]
          have : [t].filter (fun y => decide (y ≠ t)) = [] := by simp
          rw [this, List.append_nil]; exact hv
      · obtain ⟨v2, h2, A2, e1, e2, o2⟩ := hv.push (new := [.int .u64 xs[j]]) ow (by decide) rfl (bytes := 8) (by omega)
        refine ⟨((v2, (if t ∈ xs.take j then 0 else 110), ((j + 1 : Nat) : Int), ()), h2), ?_, rfl, ?_, A2, ?_, o2⟩
        · simp [f_wicketref11_Queue_Drop_L19, ldT_of hg, hr.lenB, hj, a1, a2, hx, wrap_succ (j := j) (by omega), e1, writeAt]
        · have : t ≠ xs[j] := fun e => hx e.symm
          show _ = if t ∈ xs.take (j + 1) then (0 : Int) else 110
          rw [take_snoc hj]
          simp only [List.mem_append, List.mem_singleton, this, or_false]
        · simp only [take_snoc hj, List.filter_append]
          have : [xs[j]].filter (fun y => decide (y ≠ t)) = [xs[j]] := by simp [hx]
          rw [this, List.length_append, iz_append]; exact e2) (by
      rintro ⟨⟨v, z, i, _⟩, hh⟩ ⟨rfl, rfl, A', hv, ow⟩
      have ow2 : Own hh ((q, .cells [s, .int .u64 last] false 0) :: (A ++ (A' ++ F))) := ow.to fun x => by simp only [cnt_append, cnt_cons, cnt_nil]; omega
      have hr := hs.rds (F := A' ++ F) ow2.tail
      simp only [List.take_length] at hv
      exact ⟨((v, (if t ∈ xs then 0 else 110), ()), hh), by simp [f_wicketref11_Queue_Drop_L19, ldT_of ow2.head, hr.lenB], rfl, A', hv, ow⟩)
  simp only at hz e3 o2
  subst hz
  have o3 : Own h2 ((q, .cells [s, .int .u64 last] false 0) :: (A2 ++ F)) := o2.to fun x => by simp only [cnt_append, cnt_cons, cnt_nil]; omega
  have he : xs.filter (· ≠ t) = xs.erase t := by
    rw [List.Nodup.erase_eq_filter hnd]; congr 1; funext y; by_cases h : y = t <;> simp [h]
  rw [he] at e3
  refine ⟨_, _, ?_, ⟨s2, A2, e3, rfl⟩, o3.put _⟩
  have e1' : loopT (fun a => f_wicketref11_Queue_Drop_L19 n t (some ⟨q, 0, none⟩) a.1.1 a.1.2.1 a.1.2.2.1 a.2) n ((.slice none 0 0, 110, 0, ()), h) = some ((s2, (if t ∈ xs then 0 else 110), ()), h2) := e1
  simp [f_wicketref11_Queue_Drop, e1', stB_of o3.head, e3.cellsOf, e3.isCell, writeAt]

theorem rtake_ok (hq : Qx q xs last L) (ho : Own h (L ++ F)) (hnd : xs.Nodup) (hlen : xs.length ≤ 1000) (hn : 2000 ≤ n) : ∃ h' L', f_wicketref11_Queue_Take n (some ⟨q, 0, none⟩) h = some ((hd xs, (decide (xs ≠ []), ())), h') ∧ Qx q xs.tail last L' ∧ Own h' (L' ++ F) := by
  have e1 := rfirst_ok (n := n) (sp := none) hq ho
  cases xs with
  | nil => exact ⟨h, L, by simp [f_wicketref11_Queue_Take, e1], hq, ho⟩
  | cons x xs =>
    obtain ⟨h1, L1, e2, e3, o1⟩ := rdrop_ok (n := n) (t := x) hq ho hnd hlen hn
    refine ⟨h1, L1, ?_, by simpa using e3, o1⟩
    have e1' : f_wicketref11_Queue_First n (some ⟨q, 0, none⟩) h = some ((x, (true, ())), h) := by rw [e1]; simp [hd]
    simp [f_wicketref11_Queue_Take, e1', e2, hd]

theorem rcopy_ok (hq : Qx q xs last L) (ho : Own h (L ++ F)) (hlen : xs.length ≤ 1000) : ∃ q' h' L', f_wicketref11_Queue_Copy n (some ⟨q, 0, none⟩) h = some ((some ⟨q', 0, none⟩, ()), h') ∧ Qx q' xs last L' ∧ Own h' (L' ++ (L ++ F)) := by
  obtain ⟨s, A, hs, rfl⟩ := hq
  have o0 : Own h ((q, .cells [s, .int .u64 last] false 0) :: (A ++ F)) := ho
  have o1 := o0.new (.cells [] false 1)
  have od := o1.dropAll1
  generalize hb : h.next = b at o1 od
  generalize hh1 : h.new (.cells [] false 1) = h1 at o1 od
  have oq : Own h1 ((q, .cells [s, .int .u64 last] false 0) :: ((b, .cells [] false 1) :: (A ++ F))) := o1.to fun x => by simp only [cnt_append, cnt_cons, cnt_nil]; omega
  have orr := oq.ro
  have hv : Slc 1 (.slice (some ⟨b, 0, some 0⟩) 0 0) 0 [] [(b, .cells ([] ++ ([] ++ [])) false 1)] := .mk rfl rfl rfl
  obtain ⟨s', h2, A', e1, e2, o2⟩ := hs.sow.app hv (F := (q, .cells [s, .int .u64 last] true 0) :: F) (orr.to fun x => by simp only [cnt_append, cnt_cons, cnt_nil, List.nil_append]; omega) (by decide) (bytes := 8) (by omega)
  have o3 := Own.back (h0 := h1) (ro := false) (X := A' ++ (A ++ F)) (o2.to fun x => by simp only [cnt_append, cnt_cons, cnt_nil]; omega) oq.head
  generalize hh3 : h2.putBack h1 [q] = h3 at o3
  have o4 := o3.new (.cells [s', .int .u64 last] false 0)
  rw [Nat.zero_add] at e2
  refine ⟨h3.next, h3.new (.cells [s', .int .u64 last] false 0), _, ?_, ⟨s', A', by simpa using e2, rfl⟩, o4.to fun x => by simp only [cnt_append, cnt_cons, cnt_nil, List.cons_append]; omega⟩
  simp only [f_wicketref11_Queue_Copy, fillL_nil, Option.bind_some, bnd_eq, hh1, hb, fa_mk, Nat.zero_add, ldT_of od.head, List.getElem?_cons_succ, List.getElem?_cons_zero, prj_any, prj_int, e1, List.nil_append, hh3]
  simp [e2.cellsOf, e2.isCell, writeAt]
end
end Go.Proofs.Ytpcmjoghflllfaa
