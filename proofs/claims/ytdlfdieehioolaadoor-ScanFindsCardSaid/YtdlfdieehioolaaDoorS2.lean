/- More on slices: cutting, clearing, reading numbers. -/
import Derived.Test.YtdlfdieehioolaaDoorS1
namespace Go.Proofs.YtdlfdieehioolaaDoor
open Go
set_option linter.unusedVariables false
set_option linter.unusedSimpArgs false
section
variable {h : Heap} {es n m c i j b off : Nat} {sp : Option Nat} {s y : Value} {cs new : List Value} {A F : Ch} {kk : IntKind}
theorem sliceK_lh {k k' : IntKind} (hij : i ≤ j) (hj : j ≤ c) : sliceK h es (some (.int k (i : Int))) (some (.int k' (j : Int))) none (.slice (some ⟨b, off, sp⟩) n c) = some (.slice (some ⟨b, off + i * es, sp⟩) (j - i) (c - i), h) := by
  simp [sliceK, natIn_int hj, natIn_int hij]
theorem sliceK_h {k' : IntKind} (hj : j ≤ c) : sliceK h es none (some (.int k' (j : Int))) none (.slice (some ⟨b, off, sp⟩) n c) = some (.slice (some ⟨b, off, sp⟩) j c, h) := by
  simp [sliceK, natIn_int hj]
theorem sliceK_l {k' : IntKind} (hj : j ≤ n) (hn : n ≤ c) : sliceK h es (some (.int k' (j : Int))) none none (.slice (some ⟨b, off, sp⟩) n c) = some (.slice (some ⟨b, off + j * es, sp⟩) (n - j) (c - j), h) := by
  simp [sliceK, natIn_int hj, cond_ble hn]
@[simp] theorem nat_beq_eq {a b : Nat} : Nat.beq a b = decide (a = b) := by
  cases h : Nat.beq a b with
  | true => rw [Nat.eq_of_beq_eq_true h]; simp
  | false =>
    symm; rw [decide_eq_false_iff_not]
    rintro rfl; rw [Nat.beq_refl] at h; cases h
theorem take_snoc {α : Type} {l : List α} {j : Nat} (hj : j < l.length) : l.take (j + 1) = l.take j ++ [l[j]] := by
  rw [List.take_add_one, List.getElem?_eq_getElem hj]; rfl
theorem wrap_succ {j : Nat} (hj : j < 4611686018427387904) : IntKind.i64.wrap ((j : Int) + 1) = ((j + 1 : Nat) : Int) := by
  rw [wrap_i64 (by omega) (by omega)]; omega
theorem writeAt_one {v : Value} : ∀ {cs : List Value} {o : Nat}, writeAt cs o [v] = cs.set o v := by
  intro cs
  induction cs with
  | nil => intro o; cases o <;> rfl
  | cons c cs ih =>
    intro o
    cases o with
    | zero => cases cs <;> rfl
    | succ o => simp only [writeAt, List.set_cons_succ, ih]
theorem stB1_of {o e : Nat} {v : Value} {xs : List Value} (hg : h.get b = some (.cells xs false e)) (hc : cellsOf v = [v]) (hi : isCell v = true) (hl : o < xs.length) : stB 1 v h (some ⟨b, o, sp⟩) = some (h.put b (.cells (xs.set o v) false e)) := by
  rw [stB_of hg (by rw [hc]; rfl) (by rw [hc]; simp [hi]) hl, hc, writeAt_one]
theorem stBA_of {o e sz : Nat} {vs : List Value} {xs : List Value} (hg : h.get b = some (.cells xs false e)) (hv : vs.length = sz) (hi : vs.all isCell = true) (hl : o + sz ≤ xs.length) : stB sz (.agg ⟨vs⟩) h (some ⟨b, o, sp⟩) = some (h.put b (.cells (writeAt xs o vs) false e)) :=
  stB_of hg hv hi hl
theorem Rds.int {L : List Int} (hs : Rds h 1 s L.length (iz kk L)) {i : Nat} (hi : i < L.length) : ∃ q, ixB 1 s (i : Int) = some q ∧ ldT (.int kk) h (some q) = some L[i] := by
  obtain ⟨q, h1, h2⟩ := hs.ix i hi
  refine ⟨q, h1, ?_⟩
  rw [h2.ldT0 (v := .int kk L[i])]
  · simp
  · rw [Nat.mul_one, iz_at (List.getElem?_eq_getElem hi)]; rfl
theorem Rds.bool {L : List Bool} (hs : Rds h 1 s L.length (L.map .bool)) {i : Nat} (hi : i < L.length) : ∃ q, ixB 1 s (i : Int) = some q ∧ ldT .bool h (some q) = some L[i] := by
  obtain ⟨q, h1, h2⟩ := hs.ix i hi
  refine ⟨q, h1, ?_⟩
  have e : ((L.map Value.bool).drop i).take 1 = [.bool L[i]] := take_one_drop (by simp [hi])
  rw [h2.ldT0 (v := .bool L[i])]
  · simp
  · rw [Nat.mul_one, e]; rfl
theorem InSl.rds (hs : InSl h es s n cs) : Rds h es s n cs := by
  refine ⟨hs.form, hs.len, fun i hi => ?_, ?_⟩
  · obtain ⟨b, rfl, hr⟩ := hs.read hi
    have hlen := hs.len
    refine ⟨⟨b, 0 + i * es, none⟩, ?_, fun o k hk => ?_⟩
    · show (bif Nat.blt i n then _ else none) = _
      rw [show Nat.blt i n = true from Nat.ble_eq_true_of_le hi]; rfl
    · have h1 : (i + 1) * es ≤ n * es := Nat.mul_le_mul_right es hi
      rw [Nat.add_mul, Nat.one_mul] at h1
      have hk' : o + k ≤ es := by simp at hk; omega
      show readCells h b (0 + i * es + o) k = _
      rw [hr _ _ (by omega)]
      congr 1
      apply List.ext_getElem?
      intro q
      by_cases hq : q < k
      · rw [List.getElem?_take, if_pos hq, List.getElem?_drop, List.getElem?_take, if_pos hq, List.getElem?_drop, List.getElem?_take, if_pos (by omega), List.getElem?_drop]
        congr 1; omega
      · rw [List.getElem?_take, if_neg hq, List.getElem?_take, if_neg hq]
  · obtain ⟨b, c, h1, h2⟩ := hs.toRd.src
    exact ⟨b, c, h1, h2⟩
end
end Go.Proofs.YtdlfdieehioolaaDoor
