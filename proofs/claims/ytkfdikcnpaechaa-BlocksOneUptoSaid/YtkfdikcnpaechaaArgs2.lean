/- From the arguments of a row to the abstract heap: slices whose elements are several cells. -/
import Derived.Test.YtkfdikcnpaechaaArgs
import Derived.Test.YtkfdikcnpaechaaLp
namespace Go.Proofs.Ytkfdikcnpaechaa
open Go Go.ChangeShapes Go.WideShapes Go.ChangeAt Go.RowKit
set_option linter.unusedVariables false
set_option linter.unusedSimpArgs false

section
variable {Hh : Type} {enc : TypeId × Value → Hh} {P : Program} {w : World} {base : Nat} {held : Bool}

theorem add_add {a : Addr} {i j : Nat} : (a.add i).add j = a.add (i + j) := by
  unfold Addr.add
  by_cases h1 : i = 0
  · subst h1; simp
  · by_cases h2 : j = 0
    · subst h2; simp
    · simp [h1, h2, Nat.add_assoc]
theorem open_cellsN {t e : TypeId} {fuel es : Nat} {v : Value} {x : DataW Hh × List MemPlace} (ht : P.underlying t = some (.slice e)) (hc : P.cellsOf e = es) (hes : 1 ≤ es) (h : DataW.trod enc P w base (fun _ => true) held fuel t [v] = some x) :
    v = .slice none 0 0 ∨ ∃ (a : Addr) (len cap : Nat) (vs : List Value), v = .slice (some a) len cap ∧ len ≤ cap ∧ cap ≤ maxLen ∧ vs.length = cap * es ∧ (∀ i u, vs[i]? = some u → w.cell? (a.add i) = some u) ∧
      ∀ i, i < cap → ∃ n y, DataW.trod enc P w base (fun _ => true) held n e ((vs.drop (i * es)).take es) = some y := by
  rcases DataW.trod_slice ht h with ⟨h0, _⟩ | ⟨a, len, cap, elems, rest, n, _, hv, rfl, hb, hl, hm, hlen, hel, hsp, hns⟩
  · simp at h0; exact .inl h0
  · right
    obtain ⟨hrl, hr⟩ := hsp rfl
    have each : ∀ i, i < cap → ∃ cs y, cs.length = es ∧ (∀ j, j < es → w.cell? (a.add (i * es + j)) = cs[j]?) ∧ DataW.trod enc P w base (fun _ => true) held n e cs = some y := by
      intro i hi
      have hb' : ∃ y, (w.cells? base (a.add (i * P.cellsOf e)) (P.cellsOf e)).bind (DataW.trod enc P w base (fun _ => true) held n e) = some y := by
        by_cases h1 : i < len
        · rw [hel i h1]; exact ⟨elems[i], by simp [hlen, h1]⟩
        · have := hr (i - len) (by omega)
          rw [show len + (i - len) = i by omega] at this
          rw [this]; exact ⟨rest[i - len]'(by omega), by simp⟩
      obtain ⟨y, hy⟩ := hb'
      rw [hc, Option.bind_eq_some_iff] at hy
      obtain ⟨cs', hcs, hy'⟩ := hy
      refine ⟨cs', y, (World.cells?_some hcs).2.1, fun j hj => ?_, hy'⟩
      have := (World.cells?_some hcs).2.2 j hj
      rw [← this, add_add]
    have cellAt : ∀ k, k < cap * es → ∃ u, w.cell? (a.add k) = some u := by
      intro k hk
      have hi : k / es < cap := Nat.div_lt_of_lt_mul (by rw [Nat.mul_comm]; exact hk)
      obtain ⟨cs, y, hcl, hcc, _⟩ := each (k / es) hi
      have hj : k % es < es := Nat.mod_lt _ hes
      have := hcc (k % es) hj
      rw [Nat.mul_comm, Nat.div_add_mod] at this
      rw [this]
      exact ⟨cs[k % es]'(by omega), by simp⟩
    refine ⟨a, len, cap, (List.range (cap * es)).map fun i => (w.cell? (a.add i)).getD undef, by simpa using hv, hl, hm, by simp, ?_, ?_⟩
    · intro i u hu
      rw [List.getElem?_map] at hu
      by_cases hi : i < cap * es
      · rw [List.getElem?_range hi] at hu
        obtain ⟨u', h1⟩ := cellAt i hi
        simp only [Option.map_some, h1, Option.getD_some, Option.some.injEq] at hu
        subst hu
        exact h1
      · simp [List.getElem?_eq_none, hi] at hu
    · intro i hi
      obtain ⟨cs, y, hcl, hcc, hy⟩ := each i hi
      refine ⟨n, y, ?_⟩
      have : (((List.range (cap * es)).map fun i => (w.cell? (a.add i)).getD undef).drop (i * es)).take es = cs := by
        apply List.ext_getElem?
        intro j
        have hle : (i + 1) * es ≤ cap * es := Nat.mul_le_mul_right es hi
        rw [Nat.add_mul, Nat.one_mul] at hle
        by_cases hj : j < es
        · rw [List.getElem?_take, if_pos hj, List.getElem?_drop, List.getElem?_map, List.getElem?_range (by omega), Option.map_some, hcc j hj]
          rw [show cs[j]? = some (cs[j]'(by omega)) by simp]
          rfl
        · rw [List.getElem?_take, if_neg hj, List.getElem?_eq_none (by omega)]
      rw [this]; exact hy
end

section
variable {Hh : Type} {enc : TypeId × Value → Hh} {P : Program} {w : World}

/-- An argument that is a slice of several cells an element. -/
theorem Args.many {ι : Emb} {H : Heap} {t e : TypeId} {v : Value} {d : DataW Hh} {p : List MemPlace} {α : Type} {es : Nat} (mk : α → List Value) (hlenmk : ∀ z, (mk z).length = es) (hes : 1 ≤ es) (hA : Args P ι H w) (ht : P.underlying t = some (.slice e)) (hc : P.cellsOf e = es)
    (hval : ∃ b, Value.okWide P w .any b t v) (h : DataW.Trod enc P w 0 (fun _ => true) true t v d p) (hmk : ∀ ι z u, u ∈ mk z → CellR ι u u)
    (hel : ∀ cs n y, cs.length = es → DataW.trod enc P w 0 (fun _ => true) true n e cs = some y → ∃ z, cs = mk z) :
    ∃ ι' H' va L, Args P ι' H' w ∧ Ext ι ι' ∧ Fr H H' [] ∧ InSl H' es va (List.length L) (L.flatMap mk) ∧ AtomR ι' va v ∧ L.length ≤ maxLen := by
  obtain ⟨fuel, h⟩ := h
  obtain ⟨av, lv, cv, rfl⟩ : ∃ a n c, v = .slice a n c := by obtain ⟨b, hval⟩ := hval; exact okWide_slice ht hval
  rcases open_cellsN ht hc hes h with h0 | ⟨a, len, cap, vs, h0, hl, hm, hv, hcell, hels⟩
  · rw [h0]; exact ⟨ι, H, .slice none 0 0, [], hA, Ext.refl _, Fr.refl hA.wf _, .empty, .nils, by simp⟩
  · cases h0
    obtain ⟨b, hval⟩ := hval
    simp only [Value.okWide, ht, Cell.okWide, Cell.ok, World.has] at hval
    obtain ⟨_, _, _, hspot, row, cells, hshape, _⟩ := hval
    obtain ⟨b, off, sp⟩ := a
    simp only at hspot hshape
    subst hspot
    have hblk : ∃ arr el fr, w.heap[b]? = some (.cells arr el fr) := by
      unfold World.shape? at hshape
      split at hshape
      · exact ⟨_, _, _, by assumption⟩
      · cases hshape
    have hz : ∀ i, i < cv → ∃ z, (vs.drop (i * es)).take es = mk z := by
      intro i hi
      obtain ⟨n, y, hy⟩ := hels i hi
      refine hel _ n y ?_ hy
      have hle : (i + 1) * es ≤ cv * es := Nat.mul_le_mul_right es hi
      rw [Nat.add_mul, Nat.one_mul] at hle
      simp; omega
    obtain ⟨L, hL, hvs⟩ := flat_of hes cv vs hv hz
    obtain ⟨ι', H', g1, g2, g3, g4, g5⟩ := hA.slice (b := b) (off := off) (len := lv) (cap := cv) (es := es) (vs := vs) hl hv hes (fun i u hu => by
      have := hcell i u hu; rwa [add_plain] at this) hblk (fun ι u hu => by
      rw [hvs] at hu
      obtain ⟨z, _, hz⟩ := List.mem_flatMap.1 hu
      exact hmk ι z u hz)
    have hcut : vs.take (lv * es) = (L.take lv).flatMap mk := by
      rw [hvs]
      have : ∀ (M : List α) (k : Nat), (M.flatMap mk).take (k * es) = (M.take k).flatMap mk := by
        intro M
        induction M with
        | nil => intro k; simp
        | cons x M ih =>
          intro k
          cases k with
          | zero => simp
          | succ k =>
            rw [Nat.add_mul, Nat.one_mul, Nat.add_comm, List.flatMap_cons, List.take_succ_cons, List.flatMap_cons, ← ih k]
            rw [show es + k * es = (mk x).length + k * es by rw [hlenmk], List.take_length_add_append]
      exact this L lv
    have hlen : (L.take lv).length = lv := by rw [List.length_take]; omega
    refine ⟨ι', H', _, L.take lv, g1, g2, g3, ?_, g5, by omega⟩
    rw [hcut] at g4
    rw [hlen]; exact g4
end
end Go.Proofs.Ytkfdikcnpaechaa
