/- More on slices: cutting, clearing, reading numbers. -/
import Derived.Test.YtkfdikcnpaechaaS1
namespace Go.Proofs.Ytkfdikcnpaechaa
open Go
set_option linter.unusedVariables false
set_option linter.unusedSimpArgs false

section
variable {h : Heap} {es n m c i j b off : Nat} {sp : Option Nat} {s y : Value} {cs new : List Value} {A F : Ch} {kk : IntKind}
theorem sliceK_lh {k k' : IntKind} (hij : i ≤ j) (hj : j ≤ c) : sliceK h es (some (.int k (i : Int))) (some (.int k' (j : Int))) none (.slice (some ⟨b, off, sp⟩) n c) = some (.slice (some ⟨b, off + i * es, sp⟩) (j - i) (c - i), h) := by
  simp [sliceK, natIn_int hj, natIn_int hij]
theorem sliceK_lhm {k k' k'' : IntKind} (hij : i ≤ j) (hj : j ≤ m) (hm : m ≤ c) : sliceK h es (some (.int k (i : Int))) (some (.int k' (j : Int))) (some (.int k'' (m : Int))) (.slice (some ⟨b, off, sp⟩) n c) = some (.slice (some ⟨b, off + i * es, some 0⟩) (j - i) (m - i), h) := by
  simp [sliceK, natIn_int hj, natIn_int hij, natIn_int hm]
theorem sliceK_h {k' : IntKind} (hj : j ≤ c) : sliceK h es none (some (.int k' (j : Int))) none (.slice (some ⟨b, off, sp⟩) n c) = some (.slice (some ⟨b, off, sp⟩) j c, h) := by
  simp [sliceK, natIn_int hj]
theorem sliceK_l {k' : IntKind} (hj : j ≤ n) (hn : n ≤ c) : sliceK h es (some (.int k' (j : Int))) none none (.slice (some ⟨b, off, sp⟩) n c) = some (.slice (some ⟨b, off + j * es, sp⟩) (n - j) (c - j), h) := by
  simp [sliceK, natIn_int hj, cond_ble hn]
theorem sliceK_nil {lo hi mx : Option Value} (hb : (sliceBnds 0 0 lo hi mx).isSome = true) : sliceK h es lo hi mx (.slice none 0 0) = some (.slice none 0 0, h) := by
  simp only [sliceK]
  cases he : sliceBnds 0 0 lo hi mx with
  | none => rw [he] at hb; cases hb
  | some x => rfl

theorem clearK_of {zs : List Value} {xs : List Value} {e : Nat} (hg : h.get b = some (.cells xs false e)) (hl : off + n * zs.length ≤ xs.length) :
    clearK h zs (.slice (some ⟨b, off, sp⟩) n c) = some (.tuple #[], h.put b (.cells (writeAt xs off (List.replicate n zs).flatten) false e)) := by
  simp only [clearK]
  rw [writeCells_of hg (by simpa using hl)]; rfl

@[simp] theorem nat_beq_eq {a b : Nat} : Nat.beq a b = decide (a = b) := by
  cases h : Nat.beq a b with
  | true => rw [Nat.eq_of_beq_eq_true h]; simp
  | false =>
    symm; rw [decide_eq_false_iff_not]
    rintro rfl; rw [Nat.beq_refl] at h; cases h
theorem take_snoc {α : Type} {l : List α} {j : Nat} (hj : j < l.length) : l.take (j + 1) = l.take j ++ [l[j]] := by
  rw [List.take_add_one, List.getElem?_eq_getElem hj]; rfl
theorem wrap_succ {j : Nat} (hj : j < 4611686018427387904) : IntKind.i64.wrap ((j : Int) + 1) = ((j + 1 : Nat) : Int) := by
  rw [wrap_i64 (by omega) (by omega)]; omega
theorem writeAt_one {v : Value} : ∀ {cs : List Value} {o : Nat}, writeAt cs o [v] = cs.set o v := by
  intro cs
  induction cs with
  | nil => intro o; cases o <;> rfl
  | cons c cs ih =>
    intro o
    cases o with
    | zero => cases cs <;> rfl
    | succ o => simp only [writeAt, List.set_cons_succ, ih]
theorem stB1_of {o e : Nat} {v : Value} {xs : List Value} (hg : h.get b = some (.cells xs false e)) (hc : cellsOf v = [v]) (hi : isCell v = true) (hl : o < xs.length) : stB 1 v h (some ⟨b, o, sp⟩) = some (h.put b (.cells (xs.set o v) false e)) := by
  rw [stB_of hg (by rw [hc]; rfl) (by rw [hc]; simp [hi]) hl, hc, writeAt_one]
theorem stBA_of {o e sz : Nat} {vs : List Value} {xs : List Value} (hg : h.get b = some (.cells xs false e)) (hv : vs.length = sz) (hi : vs.all isCell = true) (hl : o + sz ≤ xs.length) : stB sz (.agg ⟨vs⟩) h (some ⟨b, o, sp⟩) = some (h.put b (.cells (writeAt xs o vs) false e)) :=
  stB_of hg hv hi hl
theorem cnt_sublist {x : Nat × AObj} {A B : Ch} (hs : A.Sublist B) : cnt x A ≤ cnt x B := by
  classical
  simp only [cnt]; exact hs.count_le _
/-- Numbers out of a slice. -/
theorem Rds.int {L : List Int} (hs : Rds h 1 s L.length (iz kk L)) {i : Nat} (hi : i < L.length) : ∃ q, ixB 1 s (i : Int) = some q ∧ ldT (.int kk) h (some q) = some L[i] := by
  obtain ⟨q, h1, h2⟩ := hs.ix i hi
  refine ⟨q, h1, ?_⟩
  rw [h2.ldT0 (v := .int kk L[i])]
  · simp
  · rw [Nat.mul_one, iz_at (List.getElem?_eq_getElem hi)]; rfl
theorem Rds.bool {L : List Bool} (hs : Rds h 1 s L.length (L.map .bool)) {i : Nat} (hi : i < L.length) : ∃ q, ixB 1 s (i : Int) = some q ∧ ldT .bool h (some q) = some L[i] := by
  obtain ⟨q, h1, h2⟩ := hs.ix i hi
  refine ⟨q, h1, ?_⟩
  have e : ((L.map Value.bool).drop i).take 1 = [.bool L[i]] := take_one_drop (by simp [hi])
  rw [h2.ldT0 (v := .bool L[i])]
  · simp
  · rw [Nat.mul_one, e]; rfl
theorem InSl.rds (hs : InSl h es s n cs) : Rds h es s n cs := by
  refine ⟨hs.form, hs.len, fun i hi => ?_, ?_⟩
  · obtain ⟨b, rfl, hr⟩ := hs.read hi
    have hlen := hs.len
    refine ⟨⟨b, 0 + i * es, none⟩, ?_, fun o k hk => ?_⟩
    · show (bif Nat.blt i n then _ else none) = _
      rw [show Nat.blt i n = true from Nat.ble_eq_true_of_le hi]; rfl
    · have h1 : (i + 1) * es ≤ n * es := Nat.mul_le_mul_right es hi
      rw [Nat.add_mul, Nat.one_mul] at h1
      have hk' : o + k ≤ es := by simp at hk; omega
      show readCells h b (0 + i * es + o) k = _
      rw [hr _ _ (by omega)]
      congr 1
      apply List.ext_getElem?
      intro q
      by_cases hq : q < k
      · rw [List.getElem?_take, if_pos hq, List.getElem?_drop, List.getElem?_take, if_pos hq, List.getElem?_drop, List.getElem?_take, if_pos (by omega), List.getElem?_drop]
        congr 1; omega
      · rw [List.getElem?_take, if_neg hq, List.getElem?_take, if_neg hq]
  · obtain ⟨b, c, h1, h2⟩ := hs.toRd.src
    exact ⟨b, c, h1, h2⟩

/-- Cut out of the middle, in place (slices.Delete over one cell an element). -/
theorem cut_mid {bytes : Nat} {pre rest : List Value} (hb : h.get b = some (.cells (pre ++ (cs ++ rest)) false 1)) (hp : pre.length = off) (hl : cs.length = n) (hr : n + rest.length = c) (hij : i < j) (hj : j ≤ n) (hbig : n * bytes ≤ 140737488355328) :
    appendK h bytes 1 (.slice (some ⟨b, off, sp⟩) i c) (.slice (some ⟨b, off + j * 1, sp⟩) (n - j) (c - j)) = some (.slice (some ⟨b, off, sp⟩) (i + (n - j)) c, h.put b (.cells (pre ++ (cs.take i ++ cs.drop j ++ (cs.drop (i + (n - j)) ++ rest))) false 1)) := by
  subst hp
  subst hl
  have h1 : readCells h b (pre.length + j * 1) ((cs.length - j) * 1) = some (cs.drop j) := by
    rw [readCells_of hb (by simp; omega)]
    congr 1
    rw [Nat.mul_one, Nat.mul_one, ← List.drop_drop, List.drop_left, List.drop_append_of_le_length (by omega)]
    rw [List.take_append_of_le_length (by simp), List.take_of_length_le (by simp)]
  simp only [appendK, srcCells, h1, Option.bind_some, appendL]
  have h2 : (i + (cs.length - j)) * bytes ≤ 140737488355328 := Nat.le_trans (Nat.mul_le_mul_right bytes (by omega)) hbig
  rw [cond_ble h2, cond_ble (by omega)]
  simp only [putCells]
  rw [writeCells_of hb (by simp; omega), writeAt_eq _ _ _ (by simp; omega)]
  simp only [Option.map_some, Option.some.injEq, Prod.mk.injEq, true_and]
  congr 2
  rw [Nat.mul_one]
  have e1 : (pre ++ (cs ++ rest)).take (pre.length + i) = pre ++ cs.take i := by
    rw [List.take_length_add_append, List.take_append_of_le_length (by omega)]
  have e2 : (pre ++ (cs ++ rest)).drop (pre.length + i + (cs.drop j).length) = cs.drop (i + (cs.length - j)) ++ rest := by
    rw [Nat.add_assoc, ← List.drop_drop, List.drop_left, List.length_drop, List.drop_append_of_le_length (by omega)]
  rw [e1, e2]
  simp
end
end Go.Proofs.Ytkfdikcnpaechaa
