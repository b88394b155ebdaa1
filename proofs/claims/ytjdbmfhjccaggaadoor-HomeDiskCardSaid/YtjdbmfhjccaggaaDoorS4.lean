/- Blocks shown read-only: two at once; those of a slice's element. -/
import Derived.Test.YtjdbmfhjccaggaaDoorS3
namespace Go.Proofs.YtjdbmfhjccaggaaDoor
open Go
set_option linter.unusedVariables false
set_option linter.unusedSimpArgs false
section
variable {h : Heap} {A B F X : Ch} {r1 r2 : Nat} {cs1 cs2 : List Value} {q1 q2 : Bool} {es1 es2 : Nat}
theorem ix_blk {es n i : Nat} {s : Value} {cs : List Value} {q : Addr} (hs : Slc es s n cs A) (e : ixB es s (i : Int) = some q) : ∃ xs, A = [(q.block, .cells xs false es)] := by
  cases hs with
  | nil => simp [ixB] at e
  | @mk b off sp _ c pre _ rest hp hl hr =>
    have hq : q.block = b := by
      have e' : (bif Nat.blt i n then some (⟨b, off + i * es, none⟩ : Addr) else none) = some q := e
      cases hb : Nat.blt i n with
      | false => rw [hb] at e'; cases e'
      | true => rw [hb] at e'; cases e'; rfl
    rw [hq]; exact ⟨_, rfl⟩
end
end Go.Proofs.YtjdbmfhjccaggaaDoor
