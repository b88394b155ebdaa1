/- LedgerRoom: what each kind of step does. -/
import Derived.Test.YtnpegkmoadjjeaaLr4
import Derived.Test.YtnpegkmoadjjeaaDr
namespace Go.Proofs.Ytnpegkmoadjjeaa
open Go
set_option linter.unusedVariables false
set_option linter.unusedSimpArgs false
variable {T : Nat → Option AFun} {H : Heap} {m : Nat}

def appendC : AC :=
  .regd [⟨0, [], false, ⟨(some 132), .move (.tmp 8), none⟩⟩,
            ⟨1, [], false, ⟨(some 133), .fieldAddr 2 (.tmp 12), none⟩⟩,
            ⟨2, [1], false, ⟨(some 134), .load false 1 (.tmp 133), none⟩⟩,
            ⟨3, [2, 1], false, ⟨(some 135), .buildSlice 1 1 [(.int .u64 0)] [(0, 1, (.tmp 134))], none⟩⟩,
            ⟨5, [], false, ⟨(some 137), .move (.tmp 9), none⟩⟩,
            ⟨6, [], false, ⟨(some 138), .fieldAddr 3 (.tmp 12), none⟩⟩,
            ⟨7, [6], false, ⟨(some 139), .load false 1 (.tmp 138), none⟩⟩,
            ⟨8, [7, 6], false, ⟨(some 140), .buildSlice 1 1 [(.int .i64 0)] [(0, 1, (.tmp 139))], none⟩⟩,
            ⟨4, [0, 3, 2, 1], true, ⟨(some 136), .append 8 1 (.tmp 132) (.tmp 135), none⟩⟩,
            ⟨9, [5, 8, 4, 7, 6, 0, 3, 2, 1], true, ⟨(some 141), .append 8 1 (.tmp 137) (.tmp 140), none⟩⟩,
            ⟨10, [4, 9, 0, 1, 2, 3, 5, 8, 7, 6], true, ⟨(some 8), .move (.tmp 136), none⟩⟩,
            ⟨11, [9, 10, 0, 1, 2, 3, 4, 5, 6, 7, 8], true, ⟨(some 9), .move (.tmp 141), none⟩⟩]
def cutC2 : AC :=
  .regd [⟨0, [], false, ⟨(some 194), .buildSlice 0 1 [] [], none⟩⟩,
                ⟨1, [], false, ⟨(some 195), .move (.tmp 9), none⟩⟩,
                ⟨2, [], false, ⟨(some 196), .move (.tmp 13), none⟩⟩,
                ⟨3, [1, 2], false, ⟨(some 197), .slice 1 (.tmp 195) none (some (.tmp 196)) none, none⟩⟩,
                ⟨5, [], false, ⟨(some 199), .move (.tmp 9), none⟩⟩,
                ⟨6, [], false, ⟨(some 200), .move (.tmp 13), none⟩⟩,
                ⟨7, [6], false, ⟨(some 201), .bin .add (.tmp 200) (.const (.int .i64 1)), none⟩⟩,
                ⟨8, [5, 7, 6], false, ⟨(some 202), .slice 1 (.tmp 199) (some (.tmp 201)) none none, none⟩⟩,
                ⟨4, [0, 3, 1, 2], true, ⟨(some 198), .append 8 1 (.tmp 194) (.tmp 197), none⟩⟩,
                ⟨9, [4, 8, 0, 3, 1, 2, 5, 7, 6], true, ⟨(some 203), .append 8 1 (.tmp 198) (.tmp 202), none⟩⟩,
                ⟨10, [9, 0, 1, 2, 3, 4, 5, 6, 7, 8], true, ⟨(some 9), .move (.tmp 203), none⟩⟩]
def restC : AC :=
  .block 4 <|
      .seq c_wicketlaw12_LedgerRoom_S26 <|
      .cond (.tmp 97)
        (.seq c_wicketlaw12_LedgerRoom_S27 <|
        .seq c_wicketlaw12_LedgerRoom_S28 <|
        .seq c_wicketlaw12_LedgerRoom_S31 <|
        .seq c_wicketlaw12_LedgerRoom_S32 <|
        .cond (.tmp 131)
          appendC
          (.skip))
        (.seq c_wicketlaw12_LedgerRoom_S33 <|
        .cond (.tmp 142)
          (.seq c_wicketlaw12_LedgerRoom_S34 <|
          .seq c_wicketlaw12_LedgerRoom_S35 <|
          .seq c_wicketlaw12_LedgerRoom_S38 <|
          .seq c_wicketlaw12_LedgerRoom_S39 <|
          .cond (.tmp 162)
            (.seq c_wicketlaw12_LedgerRoom_S40 <|
            .reg [⟨(some 169), .move (.tmp 10), none⟩,
              ⟨(some 170), .bin .add (.tmp 169) (.const (.int .i64 1)), none⟩,
              ⟨(some 10), .move (.tmp 170), none⟩])
            (.skip))
          (.seq c_wicketlaw12_LedgerRoom_S41 <|
          .cond (.tmp 171)
            (.seq c_wicketlaw12_LedgerRoom_S42 <|
            .seq c_wicketlaw12_LedgerRoom_S45 <|
            .seq c_wicketlaw12_LedgerRoom_S46 <|
            .cond (.tmp 183)
              (.seq c_wicketlaw12_LedgerRoom_S47 cutC2)
              (.skip))
            (.seq c_wicketlaw12_LedgerRoom_S48 <|
            .cond (.tmp 204)
              (.seq c_wicketlaw12_LedgerRoom_S49 <|
              .seq c_wicketlaw12_LedgerRoom_S50 <|
              .seq c_wicketlaw12_LedgerRoom_S53 <|
              .seq c_wicketlaw12_LedgerRoom_S54 <|
              .cond (.tmp 223)
                (.reg [⟨(some 224), .move (.tmp 10), none⟩,
                  ⟨(some 225), .fieldAddr 3 (.tmp 12), none⟩,
                  ⟨(some 226), .load false 1 (.tmp 225), none⟩,
                  ⟨(some 227), .bin .sub (.tmp 224) (.tmp 226), none⟩,
                  ⟨(some 10), .move (.tmp 227), none⟩])
                (.skip))
              (.skip))))

section
variable {H0 : Heap} {l mb : Nat} {c : Int} {v1 : Value} {i k : Nat} {kv : List (Int × Int)} {used : Int} {st sl : Value} {tm : Tr Value} {ds : List Nat} {box : Nat} {o : Op4} {nn : Nat} {rd : Option Nat}

theorem Seen.kind (h : Seen box o kv tm H) : readCells H box 0 1 = some [.int .i64 o.kind] := by rw [readCells_of h.hb (by simp [Op4.cells])]; simp [Op4.cells]
theorem Seen.tk (h : Seen box o kv tm H) : readCells H box 2 1 = some [.int .u64 o.ticket] := by rw [readCells_of h.hb (by simp [Op4.cells])]; simp [Op4.cells]
theorem Seen.num (h : Seen box o kv tm H) : readCells H box 3 1 = some [.int .i64 o.n] := by rw [readCells_of h.hb (by simp [Op4.cells])]; simp [Op4.cells]

theorem Sl.fr1 {es n q : Nat} {s : Value} {cs : List Value} {H H' : Heap} (h : Sl H es s n cs) (f : Fr H H' [q]) (hd : q ∉ blk s) : Sl H' es s n cs :=
  h.fr f (by intro b hb; simp only [List.mem_singleton]; rintro rfl; exact hd hb)
theorem get_put_ne {H : Heap} {r k : Nat} {o : AObj} (h : k ≠ r) : (H.put r o).get k = H.get k := by rw [Heap.get_put, if_neg h]

/-- Both lists grow by one. -/
theorem appendC_ok (wf : WF H) (hst : Sl H 1 st kv.length (iz .u64 (kv.map (·.1)))) (hsl : Sl H 1 sl kv.length (iz .i64 (kv.map (·.2)))) (dis : ∀ b ∈ blk st, b ∉ blk sl) (hb : H.get box = some (.cells o.cells false 0)) (hbig : kv.length ≤ 1000)
    (t8 : tm.get 8 = some st) (t9 : tm.get 9 = some sl) (t12 : tm.get 12 = some (.pointer (some ⟨box, 0, none⟩))) :
    ∃ tm' H' st' sl', run (exec T m) nn rd appendC ⟨tm, H, ds⟩ = some (.normal, ⟨tm', H', ds⟩) ∧ KeepsB 16 [8, 9] tm tm' ∧ tm'.get 8 = some st' ∧ tm'.get 9 = some sl' ∧ Fr H H' (blk st ++ blk sl) ∧
      Sl H' 1 st' (kv.length + 1) (iz .u64 ((kv ++ [(o.ticket, o.n)]).map (·.1))) ∧ Sl H' 1 sl' (kv.length + 1) (iz .i64 ((kv ++ [(o.ticket, o.n)]).map (·.2))) ∧ (∀ b ∈ blk st', b ∉ blk sl') ∧
      (∀ b ∈ blk st', b ∈ blk st ∨ H.next ≤ b) ∧ (∀ b ∈ blk sl', b ∈ blk sl ∨ H.next ≤ b) ∧ capOf st' ≤ max (capOf st) (kv.length + 1) ∧ capOf sl' ≤ max (capOf sl) (kv.length + 1) := by
  have htk : readCells H box 2 1 = some [.int .u64 o.ticket] := by rw [readCells_of hb (by simp [Op4.cells])]; simp [Op4.cells]
  have f1 := Fr.new (o := .cells [.int .u64 o.ticket] false 1) wf []
  have hnn : readCells (H.new (.cells [.int .u64 o.ticket] false 1)) box 3 1 = some [.int .i64 o.n] := by rw [readCells_of (f1.keep _ _ hb (by simp)) (by simp [Op4.cells])]; simp [Op4.cells]
  have f2 := Fr.new (o := .cells [.int .i64 o.n] false 1) f1.wf []
  have hbl : box < H.next := wf.lt hb
  have lst := hst.lt wf
  have lsl := hsl.lt wf
  have nst : box ∉ blk st := hst.notin hb (by decide)
  have nsl : box ∉ blk sl := hsl.notin hb (by decide)
  -- the first append, with the second row out of sight
  have hB : ((H.new (.cells [.int .u64 o.ticket] false 1)).new (.cells [.int .i64 o.n] false 1)).get (H.next + 1) = some (.cells [.int .i64 o.n] false 1) := by simp
  have hb2 : ((H.new (.cells [.int .u64 o.ticket] false 1)).new (.cells [.int .i64 o.n] false 1)).get box = some (.cells o.cells false 0) := f2.keep _ _ (f1.keep _ _ hb (by simp)) (by simp)
  have f3 := Fr.drop (r := H.next + 1) (fp := [H.next + 1]) f2.wf (by simp)
  have hb3 := f3.keep _ _ hb2 (by simp; omega)
  have f4 := Fr.put (r := box) (o := .cells o.cells true 0) (fp := [box]) f3.wf (by rw [hb3]; simp) (by simp)
  have up : ∀ {s : Value} {n : Nat} {cs : List Value}, Sl H 1 s n cs → box ∉ blk s → Sl ((((H.new (.cells [.int .u64 o.ticket] false 1)).new (.cells [.int .i64 o.n] false 1)).drop (H.next + 1)).put box (.cells o.cells true 0)) 1 s n cs := fun {s n cs} hs hn =>
    (((hs.fr f1 (by simp)).fr f2 (by simp)).fr f3 (by intro b hb5; have := hs.lt wf b hb5; simp; omega)).fr f4 (by intro b hb5; simp; rintro rfl; exact hn hb5)
  have hy : srcCells ((((H.new (.cells [.int .u64 o.ticket] false 1)).new (.cells [.int .i64 o.n] false 1)).drop (H.next + 1)).put box (.cells o.cells true 0)) (some ⟨H.next, 0, some 0⟩) (1 * 1) = some [.int .u64 o.ticket] := by
    have : ((((H.new (.cells [.int .u64 o.ticket] false 1)).new (.cells [.int .i64 o.n] false 1)).drop (H.next + 1)).put box (.cells o.cells true 0)).get H.next = some (.cells [.int .u64 o.ticket] false 1) := by
      simp; omega
    show readCells _ H.next 0 1 = _
    rw [readCells_of this (by simp)]; rfl
  obtain ⟨st', H5, e5, g5, f5, b5, c5⟩ := (up hst nst).appendS (c := 1) hy rfl f4.wf (Nat.le_refl 1) (bytes := 8) (by omega)
  have n5 : H.next + 2 ≤ H5.next := f5.le
  have hb4 : ((((H.new (.cells [.int .u64 o.ticket] false 1)).new (.cells [.int .i64 o.n] false 1)).drop (H.next + 1)).put box (.cells o.cells true 0)).get box = some (.cells o.cells true 0) := by simp
  have hb5 := f5.keep _ _ hb4 nst
  have nst' : box ∉ blk st' := g5.notin hb5 (by decide)
  have nB' : H.next + 1 ∉ blk st' := fun hh => by
    rcases b5 _ hh with h1 | h1
    · have := lst _ h1; omega
    · have : H.next + 2 ≤ H.next + 1 := h1
      omega
  -- the rows are back
  have f6 : Fr H5 (H5.put box (.cells o.cells false 0)) [box] := Fr.put' f5.wf (by omega) (by simp)
  have f7 : Fr (H5.put box (.cells o.cells false 0)) ((H5.put box (.cells o.cells false 0)).put (H.next + 1) (.cells [.int .i64 o.n] false 1)) [H.next + 1] := Fr.put' f6.wf (by show H.next + 1 < H5.next; omega) (by simp)
  have g7 : Sl ((H5.put box (.cells o.cells false 0)).put (H.next + 1) (.cells [.int .i64 o.n] false 1)) 1 st' (kv.length + 1) (iz .u64 (kv.map (·.1)) ++ [.int .u64 o.ticket]) := (g5.fr1 f6 nst').fr1 f7 nB'
  have s7 : Sl ((H5.put box (.cells o.cells false 0)).put (H.next + 1) (.cells [.int .i64 o.n] false 1)) 1 sl kv.length (iz .i64 (kv.map (·.2))) :=
    (((up hsl nsl).fr f5 (fun b hb1 hb2 => dis b hb2 hb1)).fr f6 (by intro b hb1; simp; rintro rfl; exact nsl hb1)).fr f7 (by intro b hb1; have := lsl b hb1; simp; omega)
  have hy7 : srcCells ((H5.put box (.cells o.cells false 0)).put (H.next + 1) (.cells [.int .i64 o.n] false 1)) (some ⟨H.next + 1, 0, some 0⟩) (1 * 1) = some [.int .i64 o.n] := by
    show readCells _ (H.next + 1) 0 1 = _
    rw [readCells_put (by simp)]; rfl
  obtain ⟨sl', H8, e8, g8, f8, b8, c8⟩ := s7.appendS (c := 1) hy7 rfl f7.wf (Nat.le_refl 1) (bytes := 8) (by omega)
  have hbx : H.next + 1 < ((H.new (.cells [.int .u64 o.ticket] false 1)).new (.cells [.int .i64 o.n] false 1)).next := by simp
  have dis' : ∀ b ∈ blk st', b ∉ blk sl := fun b hb1 hb2 => by
    rcases b5 b hb1 with h1 | h1
    · exact dis b h1 hb2
    · have := lsl b hb2
      have : H.next + 2 ≤ b := h1
      omega
  have fin : Fr H H8 (blk st ++ blk sl) := by
    refine ⟨f8.wf, fun r x hx hr => ?_, by have := f8.le; have h1 : H5.next ≤ H8.next := f8.le; omega⟩
    simp only [List.mem_append, not_or] at hr
    have hrl : r < H.next := wf.lt hx
    refine f8.keep _ _ ?_ hr.2
    rw [get_put_ne (by omega)]
    by_cases hrb : r = box
    · subst hrb
      rw [hb] at hx; cases hx; simp
    · rw [get_put_ne hrb]
      refine f5.keep _ _ ?_ hr.1
      refine f4.keep _ _ (f3.keep _ _ (f2.keep _ _ (f1.keep _ _ hx (by simp)) (by simp)) (by simp; omega)) (by simpa using hrb)
  have hA1 : (H.new (.cells [.int .u64 o.ticket] false 1)).get H.next = some (.cells [.int .u64 o.ticket] false 1) := by simp
  have hnn' : readCells ((H.new (.cells [.int .u64 o.ticket] false 1)).drop H.next) box 3 1 = some [.int .i64 o.n] := by
    rw [readCells_of (cs := o.cells) (ro := false) (es := 0) ((Fr.drop (fp := [H.next]) f1.wf (by simp)).keep _ _ (f1.keep _ _ hb (by simp)) (by simp; omega)) (by simp [Op4.cells])]; simp [Op4.cells]
  have hq : H.next < (H.new (.cells [.int .u64 o.ticket] false 1)).next := by simp
  obtain ⟨tm', er, k1, k8, k9⟩ : ∃ tm', run (exec T m) nn rd appendC ⟨tm, H, ds⟩ = some (.normal, ⟨tm', H8, ds⟩) ∧ KeepsB 16 [8, 9] tm tm' ∧ tm'.get 8 = some st' ∧ tm'.get 9 = some sl' := by
    simp (disch := first | omega | (simp; omega) | (simp; done) | fail) [appendC, t8, t9, t12, htk, hnn', hA1, drop_put hA1, drop_new_put hA1, writeAt, doperK_h hq, doperK_hr' hbx, roAt_cells hb3, hb2, hB, e5, e8]
  refine ⟨tm', H8, st', sl', er, k1, k8, k9, fin, ?_, ?_, ?_, ?_, ?_, by simpa using c5, by simpa using c8⟩
  · have := g7.fr f8 dis'
    simpa [iz] using this
  · simpa [iz] using g8
  · intro b h1 h2
    rcases b8 b h2 with h3 | h3
    · exact dis' b h1 h3
    · have := g7.lt f7.wf b h1
      omega
  · intro b h1
    rcases b5 b h1 with h3 | h3
    · exact .inl h3
    · right; have : H.next + 2 ≤ b := h3; omega
  · intro b h1
    rcases b8 b h1 with h3 | h3
    · exact .inl h3
    · right; have : H5.next ≤ b := h3; omega
end
end Go.Proofs.Ytnpegkmoadjjeaa
