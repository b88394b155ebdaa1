/- The shape of a type, and what is read at it. -/
import Derived.Test.YtadkkmingfajdaaArgs3
import Derived.OpenShut
namespace Go.Proofs.Ytadkkmingfajdaa
open Go Go.ChangeShapes Go.WideShapes Go.ChangeAt Go.RowKit
set_option linter.unusedVariables false
set_option linter.unusedSimpArgs false

def shFs (g : TypeId → Option (List Sh)) (P : Program) : List Field → Nat → Option (List Sh)
  | [], _ => some []
  | fd :: rest, off => match g fd.type with
    | some a => match shFs g P rest (off + a.length) with
      | some b => if fd.offset = off ∧ P.cellsOf fd.type = a.length then some (a ++ b) else none
      | none => none
    | none => none
def shOf (P : Program) : Nat → TypeId → Option (List Sh)
  | 0, _ => none
  | f + 1, t => match P.underlying t with
    | some .bool => some [.bool]
    | some (.int k) => some [.int k]
    | some (.slice e) => match shOf P f e with
      | some shs => if P.cellsOf e = shs.length ∧ 1 ≤ shs.length then some [.sl shs] else none
      | none => none
    | some (.array n e) => match shOf P f e with
      | some shs => if P.cellsOf e = shs.length ∧ P.cellsOf t = n * shs.length then some (List.replicate n shs).flatten else none
      | none => none
    | some (.struct fs) => match shFs (shOf P f) P fs.toList 0 with
      | some shs => if P.cellsOf t = shs.length then some shs else none
      | none => none
    | _ => none

/-- A measure of what is read: bounds the lengths. -/
structure Bk {Hh : Type} (bk : DataW Hh → Nat) (M : Nat) : Prop where
  sl : ∀ elems spare, bk (.slice elems spare) ≤ M → (M = maxLen ∨ elems.length ≤ M) ∧ ∀ d ∈ elems ++ spare, bk d ≤ M
  ag : ∀ parts, bk (.agg parts) ≤ M → ∀ d ∈ parts, bk d ≤ M
theorem Bk.none {Hh : Type} : Bk (Hh := Hh) (fun _ => 0) maxLen := ⟨fun _ _ _ => ⟨.inl rfl, fun _ _ => Nat.zero_le _⟩, fun _ _ _ _ => Nat.zero_le _⟩

section
variable {Hh : Type} {enc : TypeId × Value → Hh} {P : Program} {w : World} {base : Nat} {held : Bool} {M : Nat} {bk : DataW Hh → Nat}
theorem open_cellsB (hB : Bk bk M) {t e : TypeId} {fuel es : Nat} {v : Value} {x : DataW Hh × List MemPlace} (ht : P.underlying t = some (.slice e)) (hc : P.cellsOf e = es) (hes : 1 ≤ es) (h : DataW.trod enc P w base (fun _ => true) held fuel t [v] = some x) (hx : bk x.1 ≤ M) :
    v = .slice none 0 0 ∨ ∃ (a : Addr) (len cap : Nat) (vs : List Value), v = .slice (some a) len cap ∧ len ≤ cap ∧ len ≤ M ∧ vs.length = cap * es ∧ (∀ i u, vs[i]? = some u → w.cell? (a.add i) = some u) ∧
      ∀ i, i < cap → ∃ n y, DataW.trod enc P w base (fun _ => true) held n e ((vs.drop (i * es)).take es) = some y ∧ bk y.1 ≤ M := by
  rcases DataW.trod_slice ht h with ⟨h0, _⟩ | ⟨a, len, cap, elems, rest, n, _, hv, rfl, hb, hl, hm, hlen, hel, hsp, hns⟩
  · simp at h0; exact .inl h0
  · right
    obtain ⟨hrl, hr⟩ := hsp rfl
    obtain ⟨b1, b2⟩ := hB.sl _ _ hx
    have hM : len ≤ M := by
      rcases b1 with rfl | b1
      · exact Nat.le_trans hl hm
      · rw [List.length_map, hlen] at b1; exact b1
    have each : ∀ i, i < cap → ∃ cs y, cs.length = es ∧ (∀ j, j < es → w.cell? (a.add (i * es + j)) = cs[j]?) ∧ DataW.trod enc P w base (fun _ => true) held n e cs = some y ∧ bk y.1 ≤ M := by
      intro i hi
      have hb' : ∃ y, (w.cells? base (a.add (i * P.cellsOf e)) (P.cellsOf e)).bind (DataW.trod enc P w base (fun _ => true) held n e) = some y ∧ bk y.1 ≤ M := by
        by_cases h1 : i < len
        · rw [hel i h1]
          have h2 : i < elems.length := by omega
          exact ⟨elems[i], by simp [h2], b2 _ (List.mem_append_left _ (List.mem_map_of_mem (List.getElem_mem h2)))⟩
        · have h2 := hr (i - len) (by omega)
          rw [show len + (i - len) = i by omega] at h2
          have h3 : i - len < rest.length := by omega
          rw [h2]; exact ⟨rest[i - len], by simp [h3], b2 _ (List.mem_append_right _ (List.mem_map_of_mem (List.getElem_mem h3)))⟩
      obtain ⟨y, hy, hby⟩ := hb'
      rw [hc, Option.bind_eq_some_iff] at hy
      obtain ⟨cs', hcs, hy'⟩ := hy
      refine ⟨cs', y, (World.cells?_some hcs).2.1, fun j hj => ?_, hy', hby⟩
      have := (World.cells?_some hcs).2.2 j hj
      rw [← this, add_add]
    have cellAt : ∀ k, k < cap * es → ∃ u, w.cell? (a.add k) = some u := by
      intro k hk
      have hi : k / es < cap := Nat.div_lt_of_lt_mul (by rw [Nat.mul_comm]; exact hk)
      obtain ⟨cs, y, hcl, hcc, _⟩ := each (k / es) hi
      have hj : k % es < es := Nat.mod_lt _ hes
      have := hcc (k % es) hj
      rw [Nat.mul_comm, Nat.div_add_mod] at this
      rw [this]
      exact ⟨cs[k % es]'(by omega), by simp⟩
    refine ⟨a, len, cap, (List.range (cap * es)).map fun i => (w.cell? (a.add i)).getD undef, by simpa using hv, hl, hM, by simp, ?_, ?_⟩
    · intro i u hu
      rw [List.getElem?_map] at hu
      by_cases hi : i < cap * es
      · rw [List.getElem?_range hi] at hu
        obtain ⟨u', h1⟩ := cellAt i hi
        simp only [Option.map_some, h1, Option.getD_some, Option.some.injEq] at hu
        subst hu
        exact h1
      · simp [List.getElem?_eq_none, hi] at hu
    · intro i hi
      obtain ⟨cs, y, hcl, hcc, hy⟩ := each i hi
      refine ⟨n, y, ?_⟩
      have : (((List.range (cap * es)).map fun i => (w.cell? (a.add i)).getD undef).drop (i * es)).take es = cs := by
        apply List.ext_getElem?
        intro j
        have hle : (i + 1) * es ≤ cap * es := Nat.mul_le_mul_right es hi
        rw [Nat.add_mul, Nat.one_mul] at hle
        by_cases hj : j < es
        · rw [List.getElem?_take, if_pos hj, List.getElem?_drop, List.getElem?_map, List.getElem?_range (by omega), Option.map_some, hcc j hj]
          rw [show cs[j]? = some (cs[j]'(by omega)) by simp]
          rfl
        · rw [List.getElem?_take, if_neg hj, List.getElem?_eq_none (by omega)]
      rw [this]; exact ⟨hy.1, hy.2⟩
theorem RCL.append : ∀ {a b : List Sh} {c d : List Value}, RCL M w a c → RCL M w b d → RCL M w (a ++ b) (c ++ d) := by
  intro a
  induction a with
  | nil => intro b c d h1 h2; simp only [RCL] at h1; subst h1; simpa using h2
  | cons s a ih =>
    intro b c d h1 h2
    simp only [RCL] at h1
    obtain ⟨v, rest, rfl, h3, h4⟩ := h1
    simp only [List.cons_append, RCL]
    exact ⟨v, rest ++ d, rfl, h3, ih h4 h2⟩
theorem shFs_rc {g : TypeId → Option (List Sh)} (hg : ∀ t shs, g t = some shs → ∀ n cs y, DataW.trod enc P w base (fun _ => true) held n t cs = some y → bk y.1 ≤ M → RCL M w shs cs) :
    ∀ (fs : List Field) (off : Nat) (shs : List Sh), shFs g P fs off = some shs → ∀ (cs : List Value), (∀ fd ∈ fs, ∃ n y, DataW.trod enc P w base (fun _ => true) held n fd.type ((cs.drop fd.offset).take (P.cellsOf fd.type)) = some y ∧ bk y.1 ≤ M) → RCL M w shs ((cs.drop off).take shs.length) := by
  intro fs
  induction fs with
  | nil => intro off shs h cs _; simp only [shFs, Option.some.injEq] at h; subst h; simp [RCL]
  | cons fd fs ih =>
    intro off shs h cs hfs
    simp only [shFs] at h
    split at h
    · rename_i a ha
      split at h
      · rename_i b hb
        split at h
        · rename_i hc
          obtain ⟨ho, hl⟩ := hc
          simp only [Option.some.injEq] at h; subst h
          obtain ⟨n, y, hy, hby⟩ := hfs fd (List.mem_cons_self ..)
          rw [ho, hl] at hy
          have h1 := hg _ _ ha _ _ _ hy hby
          have h2 := ih (off + a.length) b hb cs fun x hx => hfs x (List.mem_cons_of_mem _ hx)
          have e : (cs.drop off).take (a ++ b).length = (cs.drop off).take a.length ++ (cs.drop (off + a.length)).take b.length := by
            rw [List.length_append, List.take_add, List.drop_drop]
          rw [e]; exact h1.append h2
        · cases h
      · cases h
    · cases h
theorem rep_rc {a : List Sh} {cs : List Value} : ∀ {n : Nat}, (∀ i, i < n → RCL M w a ((cs.drop (i * a.length)).take a.length)) → RCL M w (List.replicate n a).flatten (cs.take (n * a.length)) := by
  intro n
  induction n with
  | zero => intro _; simp [RCL]
  | succ n ih =>
    intro h
    have h1 := ih fun i hi => h i (by omega)
    have h2 := h n (by omega)
    rw [List.replicate_succ', List.flatten_append, Nat.add_mul, Nat.one_mul, List.take_add]
    simpa using h1.append h2

theorem trod_rc (hB : Bk bk M) : ∀ (f : Nat) (t : TypeId) (shs : List Sh), shOf P f t = some shs → ∀ n cs y, DataW.trod enc P w base (fun _ => true) held n t cs = some y → bk y.1 ≤ M → RCL M w shs cs := by
  intro f
  induction f with
  | zero => intro t shs h; simp [shOf] at h
  | succ f ih =>
    intro t shs h n cs y hy hby
    simp only [shOf] at h
    split at h
    · rename_i hu
      simp only [Option.some.injEq] at h; subst h
      obtain ⟨b, rfl, _⟩ := DataW.trod_bool hu hy
      simp only [RCL, RC]
      exact ⟨_, [], rfl, ⟨b, rfl⟩, rfl⟩
    · rename_i k hu
      simp only [Option.some.injEq] at h; subst h
      obtain ⟨b, rfl, _, hz⟩ := DataW.trod_int hu hy
      simp only [RCL, RC]
      exact ⟨_, [], rfl, ⟨b, rfl, hz⟩, rfl⟩
    · rename_i e hu
      split at h
      · rename_i ss hss
        split at h
        · rename_i hc
          simp only [Option.some.injEq] at h; subst h
          obtain ⟨v, rfl⟩ : ∃ v, cs = [v] := by
            rcases DataW.trod_slice hu hy with ⟨h0, _⟩ | ⟨a, len, cap, elems, rest, n, _, hv, _⟩
            · exact ⟨_, h0⟩
            · exact ⟨_, hv⟩
          simp only [RCL, RC]
          refine ⟨v, [], rfl, ?_, rfl⟩
          rcases open_cellsB hB hu hc.1 hc.2 hy hby with h0 | ⟨a, len, cap, vs, h0, hl, hm, hv, hcell, hels⟩
          · exact .inl h0
          · right
            obtain ⟨L, hL, hvs⟩ := flat_of (α := {c : List Value // RCL M w ss c}) (mk := Subtype.val) hc.2 cap vs hv fun i hi => by
              obtain ⟨n', y', hy', hb'⟩ := hels i hi
              exact ⟨⟨_, ih e ss hss n' _ y' hy' hb'⟩, rfl⟩
            have hfl : (L.map Subtype.val).flatten = vs := by rw [hvs]; rfl
            refine ⟨a, len, cap, L.map Subtype.val, h0, hl, by omega, hc.2, by simpa using hL, by rw [hfl]; exact hcell, fun c hc => ?_⟩
            obtain ⟨x, _, rfl⟩ := List.mem_map.1 hc
            exact x.2
        · cases h
      · cases h
    · rename_i m e hu
      split at h
      · rename_i ss hss
        split at h
        · rename_i hc
          simp only [Option.some.injEq] at h; subst h
          obtain ⟨xs, k, rfl, rfl, hl, hx, hg⟩ := DataW.trod_array hu hy
          rw [hc.1] at hg
          have := rep_rc (w := w) (a := ss) (cs := cs) (n := m) fun i hi => by
            have h1 := hg i hi
            rw [List.getElem?_eq_getElem (by omega)] at h1
            exact ih e ss hss _ _ _ h1 (hB.ag _ hby _ (List.mem_map_of_mem (List.getElem_mem _)))
          rwa [List.take_of_length_le (by rw [hl, hc.2]; exact Nat.le_refl _)] at this
        · cases h
      · cases h
    · rename_i fs hu
      split at h
      · rename_i ss hss
        split at h
        · rename_i hc
          simp only [Option.some.injEq] at h; subst h
          obtain ⟨xs, k, rfl, rfl, hl, hx, hg⟩ := DataW.trod_struct hu hy
          have := shFs_rc (w := w) (enc := enc) (base := base) (held := held) ih fs.toList 0 ss hss cs fun fd hm => by
            obtain ⟨i, hi⟩ := List.mem_iff_getElem?.1 hm
            have hi' : fs[i]? = some fd := by rw [← Array.getElem?_toList]; exact hi
            have h1 := hg i fd hi'
            have hlt := (Array.getElem?_eq_some_iff.1 hi').1
            rw [List.getElem?_eq_getElem (by omega)] at h1
            exact ⟨_, _, h1, hB.ag _ hby _ (List.mem_map_of_mem (List.getElem_mem _))⟩
          rwa [List.drop_zero, List.take_of_length_le (by rw [hl, hc]; exact Nat.le_refl _)] at this
        · cases h
      · cases h
    · cases h
end

section
variable {Hh : Type} {enc : TypeId × Value → Hh} {P : Program} {w : World} {M : Nat} {bk : DataW Hh → Nat}
/-- An argument that is a slice, whatever lies in it. -/
theorem Args.deep (hB : Bk bk M) {ι : Emb} {H : Heap} {t e : TypeId} {v : Value} {d : DataW Hh} {p : List MemPlace} {f : Nat} {shs : List Sh} (hA : Args P ι H w) (ht : P.underlying t = some (.slice e)) (hsh : shOf P f t = some [.sl shs])
    (hval : ∃ b, Value.okWide P w .any b t v) (h : DataW.Trod enc P w 0 (fun _ => true) true t v d p) (hbd : bk d ≤ M) :
    ∃ (ι' : Emb) (H' : Heap) (va : Value), Args P ι' H' w ∧ Ext ι ι' ∧ Fr H H' [] ∧ Hv M H' (.sl shs) va ∧ AtomR ι' va v := by
  obtain ⟨fuel, h⟩ := h
  obtain ⟨av, lv, cv, rfl⟩ : ∃ a n c, v = .slice a n c := by obtain ⟨b, hval⟩ := hval; exact okWide_slice ht hval
  have hr := trod_rc hB f t _ hsh _ _ _ h hbd
  have hr : RC M w (.sl shs) (.slice av lv cv) := by
    have e1 : (Value.slice av lv cv).cells.toList = [.slice av lv cv] := rfl
    rw [e1] at hr
    simp only [RCL, List.cons.injEq] at hr
    obtain ⟨v, rest, ⟨rfl, _⟩, h1, _⟩ := hr
    exact h1
  cases av with
  | none =>
    have hr' := hr
    simp only [RC] at hr'
    rcases hr' with h0 | ⟨_, _, _, _, h0, _⟩
    · cases h0
      exact ⟨ι, H, .slice none 0 0, hA, Ext.refl _, Fr.refl hA.wf _, by simp only [Hv]; exact ⟨[], .empty, by simp, fun _ h => absurd h List.not_mem_nil⟩, .nils⟩
    · cases h0
  | some a =>
    obtain ⟨b, hval⟩ := hval
    simp only [Value.okWide, ht, Cell.okWide, Cell.ok, World.has] at hval
    obtain ⟨_, _, _, hspot, row, cells, hshape, _⟩ := hval
    have hblk : ∃ (b : Nat) (arr : Array Value) (el : TypeId) (fr : Nat × Nat), w.heap[b]? = some (.cells arr el fr) := by
      unfold World.shape? at hshape
      split at hshape
      · exact ⟨_, _, _, _, by assumption⟩
      · cases hshape
    obtain ⟨ι', H', va, g1, g2, g3, g4, g5⟩ := build hblk (.sl shs) _ ι H hA hr
    refine ⟨ι', H', va, g1, g2, g3, g4, ?_⟩
    cases g5 with
    | atom h => exact h
end
end Go.Proofs.Ytadkkmingfajdaa
