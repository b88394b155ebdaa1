/- slices.Sort of integers, by the kit's contract. -/
import Derived.Test.YtkfdikcnpaechaaB9
import Derived.Sort.Grow
import Derived.Sort.Row
namespace Go.Proofs.Ytkfdikcnpaechaa
open Go Go.Sort
set_option linter.unusedVariables false
set_option linter.unusedSimpArgs false

def insZ (z : Int) : List Int → List Int
  | [] => [z]
  | y :: ys => bif decide (z ≤ y) then z :: y :: ys else y :: insZ z ys
/-- A list, rising. -/
def isort : List Int → List Int
  | [] => []
  | z :: zs => insZ z (isort zs)
theorem insZ_perm {z : Int} : ∀ {L : List Int}, (insZ z L).Perm (z :: L) := by
  intro L
  induction L with
  | nil => exact .refl _
  | cons y ys ih =>
    unfold insZ
    cases decide (z ≤ y) with
    | true => exact .refl _
    | false => exact (List.Perm.cons y ih).trans (List.Perm.swap z y ys)
theorem isort_perm : ∀ {L : List Int}, (isort L).Perm L := by
  intro L
  induction L with
  | nil => exact .refl _
  | cons z zs ih => exact insZ_perm.trans (List.Perm.cons z ih)
theorem isort_length {L : List Int} : (isort L).length = L.length := isort_perm.length_eq
theorem insZ_sorted {z : Int} : ∀ {L : List Int}, L.Pairwise (· ≤ ·) → (insZ z L).Pairwise (· ≤ ·) := by
  intro L
  induction L with
  | nil => intro _; exact List.pairwise_singleton _ _
  | cons y ys ih =>
    intro h
    rw [List.pairwise_cons] at h
    unfold insZ
    by_cases hz : z ≤ y
    · simp only [hz, decide_true, cond_true, List.pairwise_cons]
      refine ⟨fun a ha => ?_, h⟩
      rcases List.mem_cons.1 ha with rfl | ha
      · exact hz
      · exact Int.le_trans hz (h.1 a ha)
    · simp only [hz, decide_false, cond_false, List.pairwise_cons]
      refine ⟨fun a ha => ?_, ih h.2⟩
      rcases List.mem_cons.1 (insZ_perm.mem_iff.1 ha) with rfl | ha
      · omega
      · exact h.1 a ha
theorem isort_sorted : ∀ {L : List Int}, (isort L).Pairwise (· ≤ ·) := by
  intro L
  induction L with
  | nil => exact .nil
  | cons z zs ih => exact insZ_sorted ih
theorem isort_merge (L : List Int) : (L.mergeSort fun x y => decide (x ≤ y)) = isort L := by
  refine List.Perm.eq_of_pairwise (le := fun a b : Int => a ≤ b) (fun a b _ _ h1 h2 => Int.le_antisymm h1 h2) ?_ isort_sorted ((List.mergeSort_perm L _).trans isort_perm.symm)
  exact (List.pairwise_mergeSort (le := fun x y : Int => decide (x ≤ y)) (fun a b c h1 h2 => by simp only [decide_eq_true_eq] at *; omega) (fun a b => by simp only [Bool.or_eq_true, decide_eq_true_eq]; omega) L).imp fun h => by simpa using h

def intsOf : List Value → Option (List Int)
  | [] => some []
  | .int .i64 z :: vs => (intsOf vs).map (z :: ·)
  | _ => none
theorem intsOf_some : ∀ {cs : List Value} {zs : List Int}, intsOf cs = some zs → cs = zs.map (.int .i64) := by
  intro cs
  induction cs with
  | nil => intro zs h; cases h; rfl
  | cons v vs ih =>
    intro zs h
    unfold intsOf at h
    split at h
    · rename_i e; cases e
    · rename_i z vs' e
      cases e
      cases h2 : intsOf vs with
      | none => rw [h2] at h; cases h
      | some ys => rw [h2] at h; cases h; rw [ih h2]; rfl
    · cases h
theorem intsOf_map : ∀ {zs : List Int}, intsOf (zs.map (.int .i64)) = some zs := by
  intro zs
  induction zs with
  | nil => rfl
  | cons z zs ih => simp only [List.map_cons, intsOf, ih, Option.map_some]

/-- A list of integers is sorted where it stands. -/
def sortB (H : Heap) : Value → Option (Heap)
  | .slice none _ _ => some H
  | .slice (some p) n _ => bif Nat.beq n 0 then some H else (readCells H p.block p.off n).bind fun cs => (intsOf cs).bind fun zs =>
      bif Nat.ble n 4611686018427387903 then writeCells H p.block p.off ((isort zs).map (.int .i64)) else none
  | _ => none
def sortM : Prim := fun args H => match args with
  | [v] => (sortB H v).map fun H' => (.tuple #[], H')
  | _ => none

theorem sortM_ok {P : Program} {k : Nat}
    (h1 : ∀ (blk off cap : Nat) (zs : List Int) (w : World), Holds (Value.int .i64) w blk off zs.toArray → blk < w.heap.size → zs.length < 4611686018427387904 →
      Calls P k #[.slice (some ⟨blk, off, none⟩) zs.length cap] w fun e w' =>
        e = .returned (.tuple #[]) ∧ ∃ n os, w' = grow (putRow (Value.int .i64) (Sort.ahead w n) blk off (zs.mergeSort fun x y => decide (x ≤ y)).toArray) os)
    (h0 : ∀ (p : Option Addr) (cap : Nat) (w : World), Calls P k #[.slice p 0 cap] w fun e w' => e = .returned (.tuple #[]) ∧ w' = w) : PrimOk P k sortM := by
  intro args H v H' h ι w args' hs hg ha
  cases ha with
  | nil => simp [sortM] at h
  | cons ha hr =>
    cases hr with
    | cons _ _ => simp only [sortM] at h; cases h
    | nil =>
      rename_i a a'
      simp only [sortM] at h
      cases hb : sortB H a with
      | none => rw [hb] at h; cases h
      | some H2 =>
        rw [hb] at h
        simp only [Option.map_some, Option.some.injEq, Prod.mk.injEq] at h
        obtain ⟨rfl, rfl⟩ := h
        unfold sortB at hb
        split at hb
        · cases hb
          obtain ⟨rfl, rfl, rfl⟩ := nils_inv ha
          refine callsIn_wide.2 ((h0 none 0 w).mono ?_)
          rintro e w' ⟨rfl, rfl⟩
          exact ⟨_, ι, rfl, .tuple .nil, Step.refl hs⟩
        · rename_i p n c
          obtain ⟨b, d, e, a2, c2, i1, rfl, i3, i4⟩ := slice_inv ha
          cases hn : Nat.beq n 0 with
          | true =>
            rw [hn] at hb
            cases hb
            obtain rfl := Nat.eq_of_beq_eq_true hn
            refine callsIn_wide.2 ((h0 _ _ w).mono ?_)
            rintro e w' ⟨rfl, rfl⟩
            exact ⟨_, ι, rfl, .tuple .nil, Step.refl hs⟩
          | false =>
            rw [hn] at hb
            simp only [cond_false] at hb
            have hn0 : n ≠ 0 := fun h => by rw [h] at hn; cases hn
            have ho : a2 = ⟨b, d + p.off, none⟩ := i4.resolve_right (fun hh => hn0 hh.1)
            subst ho
            obtain ⟨cs, g1, hb0⟩ := bind_some hb
            clear hb
            obtain ⟨zs, g2, hb⟩ := bind_some (f := fun zs => bif Nat.ble n 4611686018427387903 then writeCells H p.block p.off ((isort zs).map (.int .i64)) else none) hb0
            clear hb0
            obtain rfl := intsOf_some g2
            cases hl : Nat.ble n 4611686018427387903 with
            | false => rw [hl] at hb; cases hb
            | true =>
              rw [hl] at hb
              simp only [cond_true] at hb
              have hl := Nat.le_of_ble_eq_true hl
              -- what is read
              unfold readCells at g1
              unfold writeCells at hb
              cases ho : H.get p.block with
              | none => rw [ho] at g1; cases g1
              | some o =>
                rw [ho] at g1 hb
                cases o with
                | cells ds ro es =>
                  cases ro with
                  | true => cases hb
                  | false =>
                    simp only at g1 hb
                    cases hle : Nat.ble (p.off + n) ds.length with
                    | false => rw [hle] at g1; cases g1
                    | true =>
                      rw [hle] at g1
                      simp only [cond_true, Option.some.injEq] at g1
                      have hle := Nat.le_of_ble_eq_true hle
                      have hzl : zs.length = n := by
                        have := congrArg List.length g1
                        simpa [List.length_take, List.length_drop, Nat.min_eq_left (by omega : n ≤ ds.length - p.off)] using this.symm
                      have hle2 : Nat.ble (p.off + ((isort zs).map (Value.int .i64)).length) ds.length = true := Nat.ble_eq_true_of_le (by rw [List.length_map, isort_length]; omega)
                      rw [hle2] at hb
                      simp only [cond_true, Option.some.injEq] at hb
                      subst hb
                      obtain ⟨b', d', e', c', k1, k2, k3⟩ := hs.obj _ _ ho
                      rw [i1] at k1
                      cases k1
                      obtain ⟨arr, el, fr, rfl, hfr, k5, k6⟩ := rw_cells k3
                      have hcell : ∀ j, j < n → arr[d + p.off + j]? = some (.int .i64 zs[j]!) := by
                        intro j hj
                        have hj2 : ds[p.off + j]? = some (.int .i64 (zs[j]'(by omega))) := by
                          have : ((ds.drop p.off).take n)[j]? = (zs.map (Value.int .i64))[j]? := by rw [g1]
                          rw [List.getElem?_take_of_lt hj, List.getElem?_drop, List.getElem?_map, List.getElem?_eq_getElem (l := zs) (i := j) (by omega)] at this
                          exact this
                        obtain ⟨v', m1, m2⟩ := k6 _ _ hj2
                        have : v' = .int .i64 (zs[j]'(by omega)) := by
                          cases m2 with
                          | atom m2 => cases m2; rfl
                        rw [this, ← Nat.add_assoc] at m1
                        rw [m1, getElem!_pos zs j (by omega)]
                      have hH : Holds (Value.int .i64) w b (d + p.off) zs.toArray := by
                        intro j hj
                        have hj : j < n := by simpa [hzl] using hj
                        refine ⟨?_, ?_⟩
                        · simp only [World.cell?, k2, Option.isSome_none, Bool.false_eq_true, if_false]
                          rw [hcell j hj]
                          simp
                        · simp only [World.frozen?, k2, Bool.and_eq_false_iff, decide_eq_false_iff_not]
                          rcases hfr with rfl | ⟨_, hfr⟩
                          · right; simp
                          · left; omega
                      have hbl : b < w.heap.size := (Array.getElem?_eq_some_iff.1 k2).1
                      have hc := h1 b (d + p.off) c2 zs w hH hbl (by omega)
                      rw [hzl] at hc
                      refine callsIn_wide.2 (hc.mono ?_)
                      rintro e w' ⟨rfl, m, os, rfl⟩
                      rw [isort_merge]
                      have q1 : (putRow (Value.int .i64) (Sort.ahead w m) b (d + p.off) (isort zs).toArray).heap[b]? = some (.cells (Sort.putCells (Value.int .i64) (d + p.off) (isort zs).toArray arr) el fr) := by
                        simp [putRow, mapBlock, Sort.ahead, Array.getElem?_modify, k2, onCells]
                      have q2 : ∀ x, x ≠ b → (putRow (Value.int .i64) (Sort.ahead w m) b (d + p.off) (isort zs).toArray).heap[x]? = w.heap[x]? := by
                        intro x hx
                        simp [putRow, mapBlock, Sort.ahead, Array.getElem?_modify, Ne.symm hx]
                      have st := Step.put (w' := putRow (Value.int .i64) (Sort.ahead w m) b (d + p.off) (isort zs).toArray) (o1 := .cells (writeAt ds p.off ((isort zs).map (.int .i64))) false es) hs ho rfl rfl i1 q1 ?_ q2 (by simp [putRow, mapBlock, Sort.ahead]) rfl rfl rfl
                      · refine ⟨_, ι, rfl, .tuple .nil, st.trans (Step.same st.sat (fun x hx => ?_) (by simp [grow]) rfl rfl rfl)⟩
                        simp only [grow]
                        rw [Array.getElem?_append_left hx]
                      · have hsz : (Sort.putCells (Value.int .i64) (d + p.off) (isort zs).toArray arr).size = arr.size := by simp [Sort.putCells]
                        refine ⟨fun _ => ?_, ?_, ?_⟩
                        · rcases hfr with h | ⟨h, h'⟩
                          · exact .inl h
                          · exact .inr ⟨h, by rw [hsz]; exact h'⟩
                        · rw [hsz, writeAt_length]; exact k5
                        · intro i v hi
                          rw [writeAt_get _ _ _ _ (by rw [List.length_map, isort_length]; omega)] at hi
                          rw [List.length_map, isort_length, hzl] at hi
                          have hput : (Sort.putCells (Value.int .i64) (d + p.off) (isort zs).toArray arr)[d + i]? = (arr[d + i]?).map fun x => if d + p.off ≤ d + i ∧ d + i < d + p.off + (isort zs).toArray.size then Value.int .i64 (isort zs).toArray[d + i - (d + p.off)]! else x := by
                            simp [Sort.putCells, Array.getElem?_mapIdx]
                          split at hi
                          · rename_i hci
                            have hlt : i - p.off < (isort zs).length := by rw [isort_length]; omega
                            rw [List.getElem?_map, List.getElem?_eq_getElem hlt] at hi
                            cases hi
                            have h7 : arr[d + i]? = some (.int .i64 zs[i - p.off]!) := by rw [← hcell (i - p.off) (by omega)]; congr 1; omega
                            refine ⟨_, by rw [hput, h7]; rfl, ?_⟩
                            show CellR ι _ (if _ then _ else _)
                            rw [if_pos (by simp [isort_length, hzl]; omega)]
                            have : d + i - (d + p.off) = i - p.off := by omega
                            rw [this, getElem!_pos (isort zs).toArray (i - p.off) (by simpa using hlt)]
                            exact .atom (.int _ _)
                          · rename_i hci
                            obtain ⟨v', m1, m2⟩ := k6 _ _ hi
                            refine ⟨v', ?_, m2⟩
                            rw [hput, m1, Option.map_some]
                            show some (if _ then _ else _) = _
                            rw [if_neg (by simp [isort_length, hzl]; omega)]
                | _ => cases g1
        · cases hb
section
variable {T : Nat → Option AFun} {k : Nat}
theorem sort_sf (hT : T k = some ⟨[], .skip, some sortM⟩) : Sf1Ok T k (mkSf [.any] [] fun a h => (sortB h a.1).map fun h' => ((), h')) := by
  refine primSf_ok hT fun args h R kk r e H hh => ?_
  obtain ⟨⟨v, u⟩, e1, e5⟩ := bindS e
  clear e
  have hv : [v] = args := Tys.prj_vals e1
  clear e1
  subst hv
  obtain ⟨⟨x, h'⟩, e2, e⟩ := bindS e5
  change (sortB h v).map (fun h' => ((), h')) = some (x, h') at e2
  cases h3 : sortB h v with
  | none => rw [h3] at e2; cases e2
  | some h2 =>
    rw [h3] at e2
    cases e2
    unfold sortB at h3
    split at h3
    · cases h3
      exact ⟨.tuple #[], h, H, rfl, e, hh, .refl⟩
    · rename_i p n c
      cases hn : Nat.beq n 0 with
      | true => rw [hn] at h3; cases h3; exact ⟨.tuple #[], h, H, by simp only [sortM, sortB, hn]; rfl, e, hh, .refl⟩
      | false =>
        rw [hn] at h3
        simp only [cond_false] at h3
        obtain ⟨cs, g1, h3⟩ := bind_some h3
        obtain ⟨zs, g2, h3⟩ := bind_some (f := fun zs => bif Nat.ble n 4611686018427387903 then writeCells h p.block p.off ((isort zs).map (.int .i64)) else none) h3
        cases hl : Nat.ble n 4611686018427387903 with
        | false => rw [hl] at h3; cases h3
        | true =>
          rw [hl] at h3
          simp only [cond_true] at h3
          obtain ⟨H3, q1, q2, q3⟩ := writeCells_mono hh h3
          have g1' := readCells_mono hh g1
          exact ⟨.tuple #[], _, H3, by simp only [sortM, sortB, hn, cond_false, g1', g2, hl, cond_true, q1, Option.bind_some, Option.map_some], e, q2, q3⟩
    · cases h3
end
end Go.Proofs.Ytkfdikcnpaechaa
