/- The shape of a type, and what is read at it. -/
import Derived.Test.YtnfmkiccpjfifaaArgs3
import Derived.OpenShut
namespace Go.Proofs.Ytnfmkiccpjfifaa
open Go Go.ChangeShapes Go.WideShapes Go.ChangeAt Go.RowKit
set_option linter.unusedVariables false
set_option linter.unusedSimpArgs false

def shFs (g : TypeId → Option (List Sh)) (P : Program) : List Field → Nat → Option (List Sh)
  | [], _ => some []
  | fd :: rest, off => match g fd.type with
    | some a => match shFs g P rest (off + a.length) with
      | some b => if fd.offset = off ∧ P.cellsOf fd.type = a.length then some (a ++ b) else none
      | none => none
    | none => none
def shOf (P : Program) : Nat → TypeId → Option (List Sh)
  | 0, _ => none
  | f + 1, t => match P.underlying t with
    | some .bool => some [.bool]
    | some (.int k) => some [.int k]
    | some (.slice e) => match shOf P f e with
      | some shs => if P.cellsOf e = shs.length ∧ 1 ≤ shs.length then some [.sl shs] else none
      | none => none
    | some (.array n e) => match shOf P f e with
      | some shs => if P.cellsOf e = shs.length ∧ P.cellsOf t = n * shs.length then some (List.replicate n shs).flatten else none
      | none => none
    | some (.struct fs) => match shFs (shOf P f) P fs.toList 0 with
      | some shs => if P.cellsOf t = shs.length then some shs else none
      | none => none
    | _ => none

section
variable {Hh : Type} {enc : TypeId × Value → Hh} {P : Program} {w : World} {base : Nat} {held : Bool}
theorem RCL.append : ∀ {a b : List Sh} {c d : List Value}, RCL w a c → RCL w b d → RCL w (a ++ b) (c ++ d) := by
  intro a
  induction a with
  | nil => intro b c d h1 h2; simp only [RCL] at h1; subst h1; simpa using h2
  | cons s a ih =>
    intro b c d h1 h2
    simp only [RCL] at h1
    obtain ⟨v, rest, rfl, h3, h4⟩ := h1
    simp only [List.cons_append, RCL]
    exact ⟨v, rest ++ d, rfl, h3, ih h4 h2⟩
theorem shFs_rc {g : TypeId → Option (List Sh)} (hg : ∀ t shs, g t = some shs → ∀ n cs y, DataW.trod enc P w base (fun _ => true) held n t cs = some y → RCL w shs cs) :
    ∀ (fs : List Field) (off : Nat) (shs : List Sh), shFs g P fs off = some shs → ∀ (cs : List Value), (∀ fd ∈ fs, ∃ n y, DataW.trod enc P w base (fun _ => true) held n fd.type ((cs.drop fd.offset).take (P.cellsOf fd.type)) = some y) → RCL w shs ((cs.drop off).take shs.length) := by
  intro fs
  induction fs with
  | nil => intro off shs h cs _; simp only [shFs, Option.some.injEq] at h; subst h; simp [RCL]
  | cons fd fs ih =>
    intro off shs h cs hfs
    simp only [shFs] at h
    split at h
    · rename_i a ha
      split at h
      · rename_i b hb
        split at h
        · rename_i hc
          obtain ⟨ho, hl⟩ := hc
          simp only [Option.some.injEq] at h; subst h
          obtain ⟨n, y, hy⟩ := hfs fd (List.mem_cons_self ..)
          rw [ho, hl] at hy
          have h1 := hg _ _ ha _ _ _ hy
          have h2 := ih (off + a.length) b hb cs fun x hx => hfs x (List.mem_cons_of_mem _ hx)
          have e : (cs.drop off).take (a ++ b).length = (cs.drop off).take a.length ++ (cs.drop (off + a.length)).take b.length := by
            rw [List.length_append, List.take_add, List.drop_drop]
          rw [e]; exact h1.append h2
        · cases h
      · cases h
    · cases h
theorem rep_rc {a : List Sh} {cs : List Value} : ∀ {n : Nat}, (∀ i, i < n → RCL w a ((cs.drop (i * a.length)).take a.length)) → RCL w (List.replicate n a).flatten (cs.take (n * a.length)) := by
  intro n
  induction n with
  | zero => intro _; simp [RCL]
  | succ n ih =>
    intro h
    have h1 := ih fun i hi => h i (by omega)
    have h2 := h n (by omega)
    rw [List.replicate_succ', List.flatten_append, Nat.add_mul, Nat.one_mul, List.take_add]
    simpa using h1.append h2

theorem trod_rc : ∀ (f : Nat) (t : TypeId) (shs : List Sh), shOf P f t = some shs → ∀ n cs y, DataW.trod enc P w base (fun _ => true) held n t cs = some y → RCL w shs cs := by
  intro f
  induction f with
  | zero => intro t shs h; simp [shOf] at h
  | succ f ih =>
    intro t shs h n cs y hy
    simp only [shOf] at h
    split at h
    · rename_i hu
      simp only [Option.some.injEq] at h; subst h
      obtain ⟨b, rfl, _⟩ := DataW.trod_bool hu hy
      simp only [RCL, RC]
      exact ⟨_, [], rfl, ⟨b, rfl⟩, rfl⟩
    · rename_i k hu
      simp only [Option.some.injEq] at h; subst h
      obtain ⟨b, rfl, _⟩ := DataW.trod_int hu hy
      simp only [RCL, RC]
      exact ⟨_, [], rfl, ⟨b, rfl⟩, rfl⟩
    · rename_i e hu
      split at h
      · rename_i ss hss
        split at h
        · rename_i hc
          simp only [Option.some.injEq] at h; subst h
          obtain ⟨v, rfl⟩ : ∃ v, cs = [v] := by
            rcases DataW.trod_slice hu hy with ⟨h0, _⟩ | ⟨a, len, cap, elems, rest, n, _, hv, _⟩
            · exact ⟨_, h0⟩
            · exact ⟨_, hv⟩
          simp only [RCL, RC]
          refine ⟨v, [], rfl, ?_, rfl⟩
          rcases open_cellsN hu hc.1 hc.2 hy with h0 | ⟨a, len, cap, vs, h0, hl, hm, hv, hcell, hels⟩
          · exact .inl h0
          · right
            obtain ⟨L, hL, hvs⟩ := flat_of (α := {c : List Value // RCL w ss c}) (mk := Subtype.val) hc.2 cap vs hv fun i hi => by
              obtain ⟨n', y', hy'⟩ := hels i hi
              exact ⟨⟨_, ih e ss hss n' _ y' hy'⟩, rfl⟩
            have hfl : (L.map Subtype.val).flatten = vs := by rw [hvs]; rfl
            refine ⟨a, len, cap, L.map Subtype.val, h0, hl, by omega, hc.2, by simpa using hL, by rw [hfl]; exact hcell, fun c hc => ?_⟩
            obtain ⟨x, _, rfl⟩ := List.mem_map.1 hc
            exact x.2
        · cases h
      · cases h
    · rename_i m e hu
      split at h
      · rename_i ss hss
        split at h
        · rename_i hc
          simp only [Option.some.injEq] at h; subst h
          obtain ⟨xs, k, rfl, _, hl, hx, hg⟩ := DataW.trod_array hu hy
          rw [hc.1] at hg
          have := rep_rc (w := w) (a := ss) (cs := cs) (n := m) fun i hi => by
            have h1 := hg i hi
            rw [List.getElem?_eq_getElem (by omega)] at h1
            exact ih e ss hss _ _ _ h1
          rwa [List.take_of_length_le (by rw [hl, hc.2]; exact Nat.le_refl _)] at this
        · cases h
      · cases h
    · rename_i fs hu
      split at h
      · rename_i ss hss
        split at h
        · rename_i hc
          simp only [Option.some.injEq] at h; subst h
          obtain ⟨xs, k, rfl, _, hl, hx, hg⟩ := DataW.trod_struct hu hy
          have := shFs_rc (w := w) (enc := enc) (base := base) (held := held) ih fs.toList 0 ss hss cs fun fd hm => by
            obtain ⟨i, hi⟩ := List.mem_iff_getElem?.1 hm
            have hi' : fs[i]? = some fd := by rw [← Array.getElem?_toList]; exact hi
            have h1 := hg i fd hi'
            have hlt := (Array.getElem?_eq_some_iff.1 hi').1
            rw [List.getElem?_eq_getElem (by omega)] at h1
            exact ⟨_, _, h1⟩
          rwa [List.drop_zero, List.take_of_length_le (by rw [hl, hc]; exact Nat.le_refl _)] at this
        · cases h
      · cases h
    · cases h
end

section
variable {Hh : Type} {enc : TypeId × Value → Hh} {P : Program} {w : World}
/-- An argument that is a slice, whatever lies in it. -/
theorem Args.deep {ι : Emb} {H : Heap} {t e : TypeId} {v : Value} {d : DataW Hh} {p : List MemPlace} {f : Nat} {shs : List Sh} (hA : Args P ι H w) (ht : P.underlying t = some (.slice e)) (hsh : shOf P f t = some [.sl shs])
    (hval : ∃ b, Value.okWide P w .any b t v) (h : DataW.Trod enc P w 0 (fun _ => true) true t v d p) :
    ∃ (ι' : Emb) (H' : Heap) (va : Value), Args P ι' H' w ∧ Ext ι ι' ∧ Fr H H' [] ∧ Hv H' (.sl shs) va ∧ AtomR ι' va v := by
  obtain ⟨fuel, h⟩ := h
  obtain ⟨av, lv, cv, rfl⟩ : ∃ a n c, v = .slice a n c := by obtain ⟨b, hval⟩ := hval; exact okWide_slice ht hval
  have hr := trod_rc f t _ hsh _ _ _ h
  have hr : RC w (.sl shs) (.slice av lv cv) := by
    have e1 : (Value.slice av lv cv).cells.toList = [.slice av lv cv] := rfl
    rw [e1] at hr
    simp only [RCL, List.cons.injEq] at hr
    obtain ⟨v, rest, ⟨rfl, _⟩, h1, _⟩ := hr
    exact h1
  cases av with
  | none =>
    have hr' := hr
    simp only [RC] at hr'
    rcases hr' with h0 | ⟨_, _, _, _, h0, _⟩
    · cases h0
      exact ⟨ι, H, .slice none 0 0, hA, Ext.refl _, Fr.refl hA.wf _, by simp only [Hv]; exact ⟨[], .empty, by simp, fun _ h => absurd h List.not_mem_nil⟩, .nils⟩
    · cases h0
  | some a =>
    obtain ⟨b, hval⟩ := hval
    simp only [Value.okWide, ht, Cell.okWide, Cell.ok, World.has] at hval
    obtain ⟨_, _, _, hspot, row, cells, hshape, _⟩ := hval
    have hblk : ∃ (b : Nat) (arr : Array Value) (el : TypeId) (fr : Nat × Nat), w.heap[b]? = some (.cells arr el fr) := by
      unfold World.shape? at hshape
      split at hshape
      · exact ⟨_, _, _, _, by assumption⟩
      · cases hshape
    obtain ⟨ι', H', va, g1, g2, g3, g4, g5⟩ := build hblk (.sl shs) _ ι H hA hr
    refine ⟨ι', H', va, g1, g2, g3, g4, ?_⟩
    cases g5 with
    | atom h => exact h
end
end Go.Proofs.Ytnfmkiccpjfifaa
