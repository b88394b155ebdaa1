/- Slices made, written over; strings; lists of parts of one length. -/
import Derived.Test.YtdlfdieehioolaaDoorS2
namespace Go.Proofs.YtdlfdieehioolaaDoor
open Go
set_option linter.unusedVariables false
set_option linter.unusedSimpArgs false
section
variable {h : Heap} {es n m c i j b off : Nat} {sp : Option Nat} {s y : Value} {cs new : List Value} {A F : Ch} {kk : IntKind}
theorem eqVals_slice_nil {a : Option Addr} {k c : Nat} : eqVals h .slice (.slice a k c) (.slice none 0 0) = some a.isNone := by cases a <;> rfl
theorem u8s_ofIz : ∀ L : List Int, u8s (iz .u8 L) = some L := by
  intro L
  induction L with
  | nil => rfl
  | cons x L ih => simp only [iz_cons, u8s, ih]
theorem Rds.str {L : List Int} (hs : Rds h 1 s n (iz .u8 L)) : toStrK h s = some (.string (strOfInts L), h) := by
  obtain ⟨a, c, rfl, e⟩ := hs.src
  cases a with
  | none =>
    have h1 : (some [] : Option (List Value)) = some (iz .u8 L) := e
    have h2 := congrArg (fun l => l.map List.length) h1
    have h3 : 0 = L.length := by simpa using h2
    obtain rfl : L = [] := List.eq_nil_of_length_eq_zero h3.symm
    rfl
  | some p =>
    rw [Nat.mul_one] at e
    have e' : readCells h p.block p.off n = some (iz .u8 L) := e
    simp only [toStrK, e', Option.bind_some, u8s_ofIz, Option.map_some]
theorem Rds.intn {L : List Int} (hs : Rds h 1 s n (iz kk L)) (hl : L.length = n) {i : Nat} (hi : i < n) : ∃ q, ixB 1 s (i : Int) = some q ∧ ldT (.int kk) h (some q) = some (L[i]'(by omega)) := by
  subst hl; exact hs.int hi
theorem mkSl_of {nx bytes l : Nat} {zs : List Value} {k k' : IntKind} (h1 : l ≤ c) (h2 : c * bytes ≤ 140737488355328) (h3 : c < 4611686018427387904) : mkSl nx bytes es zs (.int k (l : Int)) (.int k' (c : Int)) = some (.slice (some ⟨nx, 0, some 0⟩) l c, .cells ((List.replicate c zs).flatten) false es) := by
  have w1 : IntKind.i64.wrap (l : Int) = Int.ofNat l := by rw [wrap_i64 (by omega) (by omega)]; rfl
  have w2 : IntKind.i64.wrap (c : Int) = Int.ofNat c := by rw [wrap_i64 (by omega) (by omega)]; rfl
  simp only [mkSl, makeSliceK, w1, w2]
  rw [show (Nat.ble l c && Nat.ble (c * bytes) 140737488355328) = true by rw [Nat.ble_eq_true_of_le h1, Nat.ble_eq_true_of_le h2]; rfl]
  simp [Heap.get_new]
theorem writeAt_mid {pre rest v : List Value} {o : Nat} (h : o + v.length ≤ cs.length) : writeAt (pre ++ (cs ++ rest)) (pre.length + o) v = pre ++ (writeAt cs o v ++ rest) := by
  rw [writeAt_eq _ _ _ (by simp; omega), writeAt_eq _ _ _ h]
  rw [List.take_length_add_append, List.take_append_of_le_length (by omega), Nat.add_assoc, ← List.drop_drop, List.drop_left, List.drop_append_of_le_length (by omega)]
  simp
theorem writeAt_len {v : List Value} {o : Nat} (h : o + v.length ≤ cs.length) : (writeAt cs o v).length = cs.length := by
  rw [writeAt_eq _ _ _ h]; simp; omega
theorem slc_set (hs : Slc es s n cs A) (ho : Own h (A ++ F)) (hi : i < n) {v : List Value} (hv : v.length = es) (hc : v.all isCell = true) :
    ∃ q h' A', ixB es s (i : Int) = some q ∧ stB es (.agg ⟨v⟩) h (some q) = some h' ∧ Slc es s n (writeAt cs (i * es) v) A' ∧ Own h' (A' ++ F) := by
  cases hs with
  | nil => omega
  | @mk' b off sp _ c pre _ rest hp hl hr =>
    subst hp
    have hg := ho.get (b, .cells (pre ++ (cs ++ rest)) false es) (by simp)
    have h1 : (i + 1) * es ≤ n * es := Nat.mul_le_mul_right es hi
    rw [Nat.add_mul, Nat.one_mul] at h1
    have hb : i * es + v.length ≤ cs.length := by omega
    refine ⟨⟨b, pre.length + i * es, none⟩, h.put b (.cells (pre ++ (writeAt cs (i * es) v ++ rest)) false es), _, ?_, ?_, Slc.mk' (pre := pre) (rest := rest) rfl (by rw [writeAt_len hb, hl]) (by rw [writeAt_len hb]; exact hr), Own.put (F := F) ho _⟩
    · show (bif Nat.blt i n then _ else none) = _
      rw [show Nat.blt i n = true from Nat.ble_eq_true_of_le hi]; rfl
    · rw [stBA_of hg hv hc (by simp; omega), writeAt_mid hb]
theorem slc_set1 (hs : Slc 1 s n cs A) (ho : Own h (A ++ F)) (hi : i < n) {v : Value} (hv : cellsOf v = [v]) (hc : isCell v = true) :
    ∃ q h' A', ixB 1 s (i : Int) = some q ∧ stB 1 v h (some q) = some h' ∧ Slc 1 s n (cs.set i v) A' ∧ Own h' (A' ++ F) := by
  obtain ⟨q, h', A', e1, e2, e3, e4⟩ := slc_set hs ho hi (v := [v]) rfl (by simp [hc])
  refine ⟨q, h', A', e1, ?_, by rwa [Nat.mul_one, writeAt_one] at e3, e4⟩
  rw [← e2]
  simp only [stB, Option.bind_some, hv]
  rfl
theorem Sow.piece {ro : Bool} {e : Nat} (h1 : off + n ≤ cs.length) : Sow 1 (.slice (some ⟨b, off, sp⟩) n c) n ((cs.drop off).take n) [(b, .cells cs ro e)] := by
  intro h hh
  have hg := hh (b, .cells cs ro e) (by simp)
  refine ⟨⟨_, _, rfl⟩, by simp; omega, fun i hi => ⟨⟨b, off + i * 1, none⟩, ?_, fun o k hk => ?_⟩, _, _, rfl, ?_⟩
  · show (bif Nat.blt i n then _ else none) = _
    rw [show Nat.blt i n = true from Nat.ble_eq_true_of_le hi]; rfl
  · have hk' : o + k ≤ 1 := by simp at hk; omega
    show readCells h b (off + i * 1 + o) k = _
    rw [readCells_of hg (by omega)]
    congr 1
    apply List.ext_getElem?
    intro q
    by_cases hq : q < k
    · rw [List.getElem?_take, if_pos hq, List.getElem?_drop, List.getElem?_take, if_pos hq, List.getElem?_drop, List.getElem?_take, if_pos (by omega), List.getElem?_drop, List.getElem?_take, if_pos (by omega), List.getElem?_drop]
      congr 1; omega
    · rw [List.getElem?_take, if_neg hq, List.getElem?_take, if_neg hq]
  · show readCells h b off (n * 1) = _
    rw [Nat.mul_one]; exact readCells_of hg h1
end
/- lists of parts of one length -/
section
variable {α : Type} {f : α → List Value} {e : Nat} {xs : List α} {i : Nat} {y : α}
theorem flat_len (hf : ∀ x ∈ xs, (f x).length = e) : (xs.flatMap f).length = xs.length * e := by
  induction xs with
  | nil => simp
  | cons x xs ih => simp only [List.flatMap_cons, List.length_append, List.length_cons]; rw [ih fun x hx => hf x (by simp [hx]), hf x (by simp), Nat.add_mul]; omega
theorem flat_get (hf : ∀ x ∈ xs, (f x).length = e) (hi : i < xs.length) : ((xs.flatMap f).drop (i * e)).take e = f xs[i] := by
  induction xs generalizing i with
  | nil => simp at hi
  | cons x xs ih =>
    have hx := hf x (by simp)
    cases i with
    | zero => simp [← hx]
    | succ i =>
      have : (i + 1) * e = (f x).length + i * e := by rw [hx, Nat.add_mul]; omega
      simp only [List.flatMap_cons, List.getElem_cons_succ]
      rw [this, ← List.drop_drop, List.drop_left]
      exact ih (fun x hx => hf x (by simp [hx])) (by simpa using hi)
theorem flat_set (hf : ∀ x ∈ xs, (f x).length = e) (hy : (f y).length = e) (hi : i < xs.length) : writeAt (xs.flatMap f) (i * e) (f y) = (xs.set i y).flatMap f := by
  induction xs generalizing i with
  | nil => simp at hi
  | cons x xs ih =>
    have hx := hf x (by simp)
    have hl := flat_len fun x hx => hf x (List.mem_cons_of_mem _ hx)
    cases i with
    | zero =>
      simp only [List.flatMap_cons, List.set_cons_zero, Nat.zero_mul]
      rw [writeAt_eq _ _ _ (by simp [hx, hy])]
      simp [hy, ← hx]
    | succ i =>
      have : (i + 1) * e = (f x).length + i * e := by rw [hx, Nat.add_mul]; omega
      have hi' : i < xs.length := by simpa using hi
      have h1 : (i + 1) * e ≤ xs.length * e := Nat.mul_le_mul_right e hi'
      rw [Nat.add_mul, Nat.one_mul] at h1
      simp only [List.flatMap_cons, List.set_cons_succ]
      have h2 := writeAt_mid (pre := f x) (cs := xs.flatMap f) (rest := []) (v := f y) (o := i * e) (by omega)
      rw [List.append_nil, List.append_nil] at h2
      rw [this, h2, ih (fun x hx => hf x (by simp [hx])) hi']
end
end Go.Proofs.YtdlfdieehioolaaDoor
