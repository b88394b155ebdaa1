/- Laws without arguments that read tables of the package level. -/
import Derived.Test.YtdlfdieehioolaaDoorRow
import Derived.Lib.LaidTab
namespace Go.Proofs.YtdlfdieehioolaaDoor
open Go Go.ChangeShapes Go.WideShapes Go.ChangeAt Go.RowKit
set_option linter.unusedVariables false
set_option linter.unusedSimpArgs false
structure Tab where
  g : Nat
  k : IntKind
  zs : List Int
def Tab.cells (t : Tab) : List Value := t.zs.map fun z => .int t.k z
def heapT : List Tab → Heap → Heap
  | [], H => H
  | t :: rest, H => (heapT rest H).put t.g (.cells t.cells true 0)
def heap1 (P : Program) (tabs : List Tab) : Heap := heapT tabs (heap0 P)
theorem heapT_next : ∀ (tabs : List Tab) (H : Heap), (heapT tabs H).next = H.next := by
  intro tabs
  induction tabs with
  | nil => intro H; rfl
  | cons t rest ih => intro H; exact ih H
theorem heapT_get : ∀ (tabs : List Tab) (H : Heap) (r : Nat) (o : AObj), (heapT tabs H).get r = some o → (∃ t ∈ tabs, r = t.g ∧ o = .cells t.cells true 0) ∨ H.get r = some o := by
  intro tabs
  induction tabs with
  | nil => intro H r o h; exact .inr h
  | cons t rest ih =>
    intro H r o h
    simp only [heapT] at h
    rw [Heap.get_put] at h
    by_cases e : r = t.g
    · rw [if_pos e] at h; cases h
      exact .inl ⟨t, List.mem_cons_self .., e, rfl⟩
    · rw [if_neg e] at h
      rcases ih H r o h with ⟨t', h1, h2⟩ | h1
      · exact .inl ⟨t', List.mem_cons_of_mem _ h1, h2⟩
      · exact .inr h1
def TabHolds (P : Program) (w : World) (t : Tab) : Prop := t.g < P.globals.size ∧ ∃ el fr, w.heap[t.g]? = some (.cells ⟨t.cells⟩ el fr)
theorem tabHolds_of {P : Program} {w : World} {name : String} {t : Tab} (hg : P.globalNamed name = some t.g) (hlt : t.g < P.globals.size) (h : Lib.TabIs P w name t.k t.zs) : TabHolds P w t := by
  refine ⟨hlt, ?_⟩
  unfold Lib.TabIs World.var? at h
  rw [hg] at h
  simp only [Option.bind_some] at h
  split at h
  · rename_i c el fr hc
    simp only [Option.some.injEq] at h
    exact ⟨el, fr, by rw [hc, h]; rfl⟩
  · cases h
def setTab (t : Tab) (h : Array Obj) : Array Obj := h.modify t.g fun
  | .cells _ ty fr => .cells ⟨t.cells⟩ ty fr
  | o => o
/- ===== an evaluation in parts ===== -/
def iz (k : IntKind) (zs : List Int) : List Value := zs.map fun z => .int k z
end Go.Proofs.YtdlfdieehioolaaDoor
