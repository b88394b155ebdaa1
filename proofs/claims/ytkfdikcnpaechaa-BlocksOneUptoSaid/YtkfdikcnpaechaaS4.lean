/- Blocks shown read-only: two at once; those of a slice's element. -/
import Derived.Test.YtkfdikcnpaechaaS3
namespace Go.Proofs.Ytkfdikcnpaechaa
open Go
set_option linter.unusedVariables false
set_option linter.unusedSimpArgs false

section
variable {h : Heap} {A B F X : Ch} {r1 r2 : Nat} {cs1 cs2 : List Value} {q1 q2 : Bool} {es1 es2 : Nat}
theorem Own.ro2 (ho : Own h ((r1, .cells cs1 q1 es1) :: (r2, .cells cs2 q2 es2) :: F)) : Own (hid h [] [r1, r2]) ((r1, .cells cs1 true es1) :: (r2, .cells cs2 true es2) :: F) := by
  have n1 := ho.notin
  have n2 := ho.tail.notin
  have g1 := ho.head
  have g2 := ho.tail.head
  have hne : r2 ≠ r1 := n1 (r2, _) (List.mem_cons_self ..)
  refine Own.cons (Own.cons (ho.tail.tail.keep (fun x hx => ?_) (by rw [next_hid]; exact Nat.le_refl _)) ?_ (by rw [next_hid]; exact ho.tail.lt _ (List.mem_cons_self ..)) n2) ?_ (by rw [next_hid]; exact ho.lt _ (List.mem_cons_self ..)) ?_
  · rw [get_hid, if_neg]
    · simp
    simp only [List.mem_cons, List.not_mem_nil, or_false, not_or]
    exact ⟨n1 x (List.mem_cons_of_mem _ hx), n2 x hx⟩
  · rw [get_hid, if_pos (by simp)]; simp [g2, AObj.roOf]
  · rw [get_hid, if_pos (by simp)]; simp [g1, AObj.roOf]
  · intro y hy
    rcases List.mem_cons.1 hy with rfl | hy
    · exact hne
    · exact n1 y (List.mem_cons_of_mem _ hy)
theorem Own.back2 {h0 : Heap} (ho : Own h ((r1, .cells cs1 true es1) :: (r2, .cells cs2 true es2) :: X)) (g1 : h0.get r1 = some (.cells cs1 q1 es1)) (g2 : h0.get r2 = some (.cells cs2 q2 es2)) : Own (h.putBack h0 [r1, r2]) ((r1, .cells cs1 q1 es1) :: (r2, .cells cs2 q2 es2) :: X) := by
  have n1 := ho.notin
  have n2 := ho.tail.notin
  have hne : r2 ≠ r1 := n1 (r2, _) (List.mem_cons_self ..)
  refine Own.cons (Own.cons (ho.tail.tail.keep (fun x hx => ?_) (by rw [Heap.next_putBack]; exact Nat.le_refl _)) ?_ (by rw [Heap.next_putBack]; exact ho.tail.lt _ (List.mem_cons_self ..)) n2) ?_ (by rw [Heap.next_putBack]; exact ho.lt _ (List.mem_cons_self ..)) ?_
  · rw [Heap.get_putBack, if_neg]
    simp only [List.mem_cons, List.not_mem_nil, or_false, not_or]
    exact ⟨n1 x (List.mem_cons_of_mem _ hx), n2 x hx⟩
  · rw [Heap.get_putBack, if_pos (by simp)]; exact g2
  · rw [Heap.get_putBack, if_pos (by simp)]; exact g1
  · intro y hy
    rcases List.mem_cons.1 hy with rfl | hy
    · exact hne
    · exact n1 y (List.mem_cons_of_mem _ hy)
theorem hid_ix {es n i : Nat} {s : Value} {cs : List Value} {q : Addr} (hs : Slc es s n cs A) (ho : Own h (A ++ F)) (e : ixB es s (i : Int) = some q) : ∃ A1, Own (hid h [] [q.block]) (A1 ++ F) ∧ ∀ (h' : Heap) (X : Ch), Own h' (A1 ++ X) → Own (h'.putBack h ([] ++ [q.block])) (A ++ X) := by
  cases hs with
  | nil => simp [ixB] at e
  | @mk' b off sp _ c pre _ rest hp hl hr =>
    have hq : q.block = b := by
      have e' : (bif Nat.blt i n then some (⟨b, off + i * es, none⟩ : Addr) else none) = some q := e
      cases hb : Nat.blt i n with
      | false => rw [hb] at e'; cases e'
      | true => rw [hb] at e'; cases e'; rfl
    rw [hq]
    exact ⟨[(b, .cells (pre ++ (cs ++ rest)) true es)], Own.ro (F := F) ho, fun h' X o => Own.back (X := X) o ho.head⟩

theorem ix_blk {es n i : Nat} {s : Value} {cs : List Value} {q : Addr} (hs : Slc es s n cs A) (e : ixB es s (i : Int) = some q) : ∃ xs, A = [(q.block, .cells xs false es)] := by
  cases hs with
  | nil => simp [ixB] at e
  | @mk' b off sp _ c pre _ rest hp hl hr =>
    have hq : q.block = b := by
      have e' : (bif Nat.blt i n then some (⟨b, off + i * es, none⟩ : Addr) else none) = some q := e
      cases hb : Nat.blt i n with
      | false => rw [hb] at e'; cases e'
      | true => rw [hb] at e'; cases e'; rfl
    rw [hq]; exact ⟨_, rfl⟩
theorem hid_ix2 {es n i es' n' i' : Nat} {s s' : Value} {cs cs' : List Value} {q q' : Addr} (hs : Slc es s n cs A) (hs' : Slc es' s' n' cs' B) (ho : Own h (A ++ (B ++ F))) (e : ixB es s (i : Int) = some q) (e' : ixB es' s' (i' : Int) = some q') :
    ∃ A1 B1, Own (hid h [] [q.block, q'.block]) (A1 ++ (B1 ++ F)) ∧ ∀ (h' : Heap) (X : Ch), Own h' (A1 ++ (B1 ++ X)) → Own (h'.putBack h ([] ++ [q.block, q'.block])) (A ++ (B ++ X)) := by
  obtain ⟨xs, rfl⟩ := ix_blk hs e
  obtain ⟨ys, rfl⟩ := ix_blk hs' e'
  exact ⟨[(q.block, .cells xs true es)], [(q'.block, .cells ys true es')], Own.ro2 (F := F) ho, fun h' X o => Own.back2 (X := X) o ho.head ho.tail.head⟩
end
end Go.Proofs.Ytkfdikcnpaechaa
