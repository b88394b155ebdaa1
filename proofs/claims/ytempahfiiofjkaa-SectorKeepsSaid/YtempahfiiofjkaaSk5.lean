/- Disks: images, copies, new ones. -/
import Derived.Test.YtempahfiiofjkaaSk4
namespace Go.Proofs.Ytempahfiiofjkaa
open Go
set_option linter.unusedVariables false
set_option linter.unusedSimpArgs false

section
variable {n p t j : Nat} {sp : Option Nat} {ds : List (List Int)} {ws : List (Int × List Int)} {L F G A B : Ch} {h : Heap} {i : Int} {s u sd sw : Value} {X K : List Int} {w : Int × List Int}

theorem isTuple_of {a : Option Addr} {k c : Nat} : isTuple (.slice a k c) = false := rfl
theorem rep64 : (List.replicate 64 (Value.int .u8 0)).length = 64 := rfl

theorem image_ok' (hd : Dk p ds ws L) (ho : Own h (L ++ F)) (hN : ds.length ≤ 4096) (hn : 5000 ≤ n) :
    ∃ s h' A', f_sector_Disk_Image n (some ⟨p, 0, sp⟩) h = some ((s, ()), h') ∧ Slc 1 s (ds.length * 64) (iz .u8 ds.flatten) A' ∧ Own h' (A' ++ (L ++ F)) := by
  obtain ⟨sd, sw, A, B, a1, a2, a3, rfl⟩ := hd
  have hg := ho.head
  have hmk := mkSl_of (nx := h.next) (bytes := 1) (es := 1) (zs := [.int .u8 0]) (k := .i64) (k' := .i64) (l := 0) (c := ds.length * 64) (by omega) (by omega) (by omega)
  rw [flat_rep1] at hmk
  have hv : Slc 1 (.slice (some ⟨h.next, 0, some 0⟩) 0 (ds.length * 64)) 0 [] [(h.next, .cells ([] ++ ([] ++ List.replicate (ds.length * 64) (.int .u8 0))) false 1)] := .mk rfl rfl (by simp)
  have o1 := ho.new (.cells (List.replicate (ds.length * 64) (.int .u8 0)) false 1)
  have hg1 := o1.get (p, .cells [sd, sw] false 0) (by simp)
  generalize hb : h.next = b at hmk hv o1
  generalize hh1 : h.new (.cells (List.replicate (ds.length * 64) (.int .u8 0)) false 1) = h1 at o1 hg1
  obtain ⟨⟨x, h'⟩, e, s', hx, A', q1, q2⟩ := loopT_up (f := fun a => f_sector_Disk_Image_L17 n sd ds.length a.1.1 a.1.2.1 a.2)
    (fun j (a : (Value × Int × Unit) × Heap) => a.1.2.1 = (j : Int) ∧ ∃ A', Slc 1 a.1.1 (j * 64) (iz .u8 (ds.take j).flatten) A' ∧ Own a.2 (A' ++ ((p, .cells [sd, sw] false 0) :: (A ++ B) ++ F)))
    (fun r => ∃ s', r.1 = (s', ()) ∧ ∃ A', Slc 1 s' (ds.length * 64) (iz .u8 ds.flatten) A' ∧ Own r.2 (A' ++ ((p, .cells [sd, sw] false 0) :: (A ++ B) ++ F))) (N := ds.length) (k := n) (j := 0) (a := ((.slice (some ⟨b, 0, some 0⟩) 0 (ds.length * 64), (0, ())), h1)) (by omega) (by omega)
    ⟨rfl, _, by simpa using hv, o1⟩
    (fun j a hj hi => by
      obtain ⟨⟨v, i, _⟩, h1⟩ := a
      obtain ⟨hi0, A1, hs1, o1⟩ := hi
      have hi0 : i = (j : Int) := hi0
      subst hi0
      have o1 : Own h1 _ := o1
      have hs1 : Slc 1 v (j * 64) (iz .u8 (ds.take j).flatten) A1 := hs1
      have hlt : (j : Int) < (ds.length : Int) := by omega
      obtain ⟨q, e1, e2⟩ := (a1.rds (h := h1) (F := (p, .cells [sd, sw] false 0) :: (A1 ++ (B ++ F))) (o1.to fun x => by simp only [cnt_append, cnt_cons, List.cons_append]; omega)).ix j hj
      rw [flat_get a3.d hj] at e2
      have hl := a3.d _ (List.getElem_mem hj)
      have hl' : ds[j].length = 64 := by simpa using hl
      have e3 := e2.ldA0 (k := 64) (by rw [hl]; exact Nat.le_refl _)
      rw [List.take_of_length_le (by omega)] at e3
      have o2 := o1.new (.cells (List.replicate 64 (.int .u8 0)) false 0)
      generalize ht : h1.next = t at o2
      generalize hh2 : h1.new (.cells (List.replicate 64 (.int .u8 0)) false 0) = h2 at o2
      have e4 := stBA_of (sp := none) (o := 0) o2.head hl iz_cell (by rw [rep64]; exact Nat.le_refl _)
      rw [writeAt_all (by rw [hl]; rfl)] at e4
      have o3 := o2.put (.cells (iz .u8 ds[j]) false 0)
      generalize hh3 : h2.put t (.cells (iz .u8 ds[j]) false 0) = h3 at o3 e4
      have e5 : sliceArrK h3 64 1 none none (.pointer (some ⟨t, 0, none⟩)) = some (.slice (some ⟨t, 0, some 0⟩) 64 64, h3) := rfl
      have hpc := Sow.piece (b := t) (off := 0) (n := 64) (c := 64) (sp := some 0) (cs := iz .u8 ds[j]) (ro := false) (e := 0) (by simp [hl'])
      rw [List.drop_zero, List.take_of_length_le (by simp [hl'])] at hpc
      obtain ⟨s4, h4, A4, e6, hs4, o4⟩ := hpc.app hs1 (F := (p, .cells [sd, sw] false 0) :: (A ++ B) ++ F) (o3.to fun x => by simp only [cnt_append, cnt_cons, cnt_nil, List.cons_append]; omega) (by decide) (bytes := 1) (by omega)
      refine .inl ⟨((s4, (((j + 1 : Nat) : Int), ())), h4), ?_, rfl, A4, ?_, o4.to fun x => by simp only [cnt_append, cnt_cons, cnt_nil, List.cons_append]; omega⟩
      · simp only [f_sector_Disk_Image_L17, hlt, decide_true, cond_true, e1, e3, Option.bind_some, bnd_eq, nwA_eq, ht, hh2, e4, e5, e6, wrap_succ (show j < 4611686018427387904 by omega)]
      · rw [take_snoc hj, List.flatten_append, iz_append, Nat.add_mul]
        simpa using hs4)
    (fun a hi => by
      obtain ⟨⟨v, i, _⟩, h1⟩ := a
      obtain ⟨hi0, A1, hs1, o1⟩ := hi
      have hi0 : i = (ds.length : Int) := hi0
      subst hi0
      rw [List.take_length] at hs1
      have hs1 : Slc 1 v (ds.length * 64) (iz .u8 ds.flatten) A1 := hs1
      exact ⟨((v, ()), h1), by simp [f_sector_Disk_Image_L17, hs1.notT], v, rfl, A1, hs1, o1⟩)
  have hx : x = (s', ()) := hx
  subst hx
  refine ⟨s', h', A', ?_, q1, q2⟩
  have hw : IntKind.i64.wrap ((ds.length : Int) * 64) = ((ds.length * 64 : Nat) : Int) := by rw [wrap_i64 (by omega) (by omega)]; omega
  have hmk' : mkSl b 1 1 [.int .u8 0] (.int .i64 0) (.int .i64 ((ds.length * 64 : Nat) : Int)) = some (.slice (some ⟨b, 0, some 0⟩) 0 (ds.length * 64), .cells (List.replicate (ds.length * 64) (.int .u8 0)) false 1) := hmk
  have e' : loopT (fun a => f_sector_Disk_Image_L17 n sd ds.length a.1.1 a.1.2.1 a.2) n ((.slice (some ⟨b, 0, some 0⟩) 0 (ds.length * 64), (0, ())), h1) = some ((s', ()), h') := e
  have l0 : ldT .any h (some ⟨p, 0, none⟩) = some sd := by rw [ldT_of hg]; rfl
  have l1 : ldT .any h1 (some ⟨p, 0, none⟩) = some sd := by rw [ldT_of hg1]; rfl
  simp only [f_sector_Disk_Image, Option.isNone_some, cond_false, Option.bind_some, fa_mk, Nat.zero_add, l0, a1.lenB, hw, hb, hmk', bnd_eq, hh1, l1, e']

theorem waiting_nil (hd : Dk p ds [] L) (ho : Own h (L ++ F)) (hn : 1 ≤ n) : f_sector_Disk_Waiting n (some ⟨p, 0, sp⟩) h = some ((.slice none 0 0, ()), h) := by
  obtain ⟨sd, sw, A, B, a1, a2, a3, rfl⟩ := hd
  have hg := ho.head
  obtain ⟨k, rfl⟩ : ∃ k, n = k + 1 := ⟨n - 1, by omega⟩
  have hl : lenB sw = some 0 := a2.lenB
  simp [f_sector_Disk_Waiting, ldT_of hg, hl, loopT, f_sector_Disk_Waiting_L18, isTuple_of]
end

/- slices.Clone, of any elements -/
section
variable {n m : Nat} {h : Heap} {s : Value} {cs : List Value} {G F : Ch}
theorem clone1_ok (hr : Sow 1 s m cs G) (ho : Own h (G ++ F)) (hlen : m ≤ 1000000) :
    ∃ s' h' A', f_slices_Clone_byte_byte n s h = some ((s', ()), h') ∧ Slc 1 s' m cs A' ∧ Own h' (A' ++ (G ++ F)) := by
  obtain ⟨a, c, hf, hsrc⟩ := (hr.rds ho).src
  have hcl := (hr.rds ho).len
  subst hf
  cases a with
  | none =>
    have h1 : (some [] : Option (List Value)) = some cs := hsrc
    cases h1
    obtain rfl : m = 0 := by simp at hcl; omega
    exact ⟨.slice none 0 0, h, [], by simp [f_slices_Clone_byte_byte, eqVals_slice_nil], .nil, ho⟩
  | some p =>
    have o1 := ho.new (.cells [] false 1)
    have hs : Slc 1 (.slice (some ⟨h.next, 0, some 0⟩) 0 0) 0 [] [(h.next, .cells ([] ++ ([] ++ [])) false 1)] := .mk rfl rfl rfl
    obtain ⟨s', h', A', e1, e2, e3⟩ := hr.app hs (F := F) o1 (by decide) (bytes := 1) (by omega)
    refine ⟨s', h', A', ?_, by simpa using e2, e3⟩
    have := e2.notT
    simp [f_slices_Clone_byte_byte, eqVals_slice_nil, e1, this]
theorem clone64_ok (hr : Sow 64 s m cs G) (ho : Own h (G ++ F)) (hlen : m ≤ 1000000) :
    ∃ s' h' A', f_slices_Clone_sector_data_sector_data n s h = some ((s', ()), h') ∧ Slc 64 s' m cs A' ∧ Own h' (A' ++ (G ++ F)) := by
  obtain ⟨a, c, hf, hsrc⟩ := (hr.rds ho).src
  have hcl := (hr.rds ho).len
  subst hf
  cases a with
  | none =>
    have h1 : (some [] : Option (List Value)) = some cs := hsrc
    cases h1
    obtain rfl : m = 0 := by simp at hcl; omega
    exact ⟨.slice none 0 0, h, [], by simp [f_slices_Clone_sector_data_sector_data, eqVals_slice_nil], .nil, ho⟩
  | some p =>
    have o1 := ho.new (.cells [] false 64)
    have hs : Slc 64 (.slice (some ⟨h.next, 0, some 0⟩) 0 0) 0 [] [(h.next, .cells ([] ++ ([] ++ [])) false 64)] := .mk rfl rfl rfl
    obtain ⟨s', h', A', e1, e2, e3⟩ := hr.app hs (F := F) o1 (by decide) (bytes := 64) (by omega)
    refine ⟨s', h', A', ?_, by simpa using e2, e3⟩
    have := e2.notT
    simp [f_slices_Clone_sector_data_sector_data, eqVals_slice_nil, e1, this]
theorem clone65_ok (hr : Sow 65 s m cs G) (ho : Own h (G ++ F)) (hlen : m ≤ 1000000) :
    ∃ s' h' A', f_slices_Clone_sector_waiting_sector_waiting n s h = some ((s', ()), h') ∧ Slc 65 s' m cs A' ∧ Own h' (A' ++ (G ++ F)) := by
  obtain ⟨a, c, hf, hsrc⟩ := (hr.rds ho).src
  have hcl := (hr.rds ho).len
  subst hf
  cases a with
  | none =>
    have h1 : (some [] : Option (List Value)) = some cs := hsrc
    cases h1
    obtain rfl : m = 0 := by simp at hcl; omega
    exact ⟨.slice none 0 0, h, [], by simp [f_slices_Clone_sector_waiting_sector_waiting, eqVals_slice_nil], .nil, ho⟩
  | some p =>
    have o1 := ho.new (.cells [] false 65)
    have hs : Slc 65 (.slice (some ⟨h.next, 0, some 0⟩) 0 0) 0 [] [(h.next, .cells ([] ++ ([] ++ [])) false 65)] := .mk rfl rfl rfl
    obtain ⟨s', h', A', e1, e2, e3⟩ := hr.app hs (F := F) o1 (by decide) (bytes := 72) (by omega)
    refine ⟨s', h', A', ?_, by simpa using e2, e3⟩
    have := e2.notT
    simp [f_slices_Clone_sector_waiting_sector_waiting, eqVals_slice_nil, e1, this]
end

section
variable {n p : Nat} {ds : List (List Int)} {ws : List (Int × List Int)} {L F : Ch} {h : Heap}
theorem copy_ok' (hd : Dk p ds ws L) (ho : Own h (L ++ F)) (hN : ds.length ≤ 4096) (hW : ws.length ≤ 4096) :
    ∃ p' h' L', f_sector_Disk_Copy n (some ⟨p, 0, none⟩) h = some ((some ⟨p', 0, none⟩, ()), h') ∧ Dk p' ds ws L' ∧ Own h' (L' ++ (L ++ F)) := by
  obtain ⟨sd, sw, A, B, a1, a2, a3, rfl⟩ := hd
  have o0 : Own h ((p, .cells [sd, sw] false 0) :: (A ++ (B ++ F))) := ho.to fun x => by simp only [cnt_append, cnt_cons, List.cons_append]; omega
  have hg := o0.head
  have o1 := o0.ro
  obtain ⟨s1, h1, A1, e1, e2, o2⟩ := clone64_ok (n := n) a1.sow (F := (p, .cells [sd, sw] true 0) :: (B ++ F)) (o1.to fun x => by simp only [cnt_append, cnt_cons]; omega) (by omega)
  have o3 := Own.back (X := A1 ++ (A ++ (B ++ F))) (o2.to fun x => by simp only [cnt_append, cnt_cons]; omega) hg
  generalize hh3 : h1.putBack h [p] = h3 at o3
  obtain ⟨s2, h4, B1, e3, e4, o4⟩ := clone65_ok (n := n) a2.sow (F := (p, .cells [sd, sw] false 0) :: (A1 ++ (A ++ F))) (o3.to fun x => by simp only [cnt_append, cnt_cons]; omega) (by omega)
  have o5 := o4.new (.cells [s1, s2] false 0)
  refine ⟨h4.next, _, (h4.next, .cells [s1, s2] false 0) :: (A1 ++ B1), ?_, ⟨s1, s2, A1, B1, e2, e4, a3, rfl⟩, o5.to fun x => by simp only [cnt_append, cnt_cons, List.cons_append]; omega⟩
  have f1 : fillL [.slice none 0 0, .slice none 0 0] [(0, 1, s1), (1, 1, s2)] = some [s1, s2] := by
    obtain ⟨x, y, rfl⟩ := e2.form; obtain ⟨z, w, rfl⟩ := e4.form; rfl
  have l0 : ldT .any h (some ⟨p, 0, none⟩) = some sd := by rw [ldT_of hg]; rfl
  have l1 : ldT .any h (some ⟨p, 1, none⟩) = some sw := by rw [ldT_of hg]; rfl
  have hc : ([s1, s2] : List Value).all isCell = true := by simp [e2.isCell, e4.isCell]
  simp only [f_sector_Disk_Copy, Option.isNone_some, cond_false, Option.bind_some, fa_mk, Nat.zero_add, l0, l1, e1, List.nil_append, bnd_eq, hh3, e3, f1, hc, cond_true, nwA_eq]

theorem new_ok {N : Nat} (ho : Own h F) (h1 : 1 ≤ N) (h2 : N ≤ 4096) :
    ∃ p h' L, f_sector_New n (N : Int) h = some ((some ⟨p, 0, none⟩, (0, ())), h') ∧ Dk p (List.replicate N (List.replicate 64 0)) [] L ∧ Own h' (L ++ F) := by
  have hmk := mkSl_of (nx := h.next) (bytes := 64) (es := 64) (zs := List.replicate 64 (.int .u8 0)) (k := .i64) (k' := .i64) (l := N) (c := N) (by omega) (by omega) (by omega)
  have ef : (List.replicate N (List.replicate 64 (Value.int .u8 0))).flatten = (List.replicate N (List.replicate 64 0)).flatMap (iz .u8) := by
    clear hmk h1 h2
    induction N with
    | zero => rfl
    | succ N ih => rw [List.replicate_succ, List.flatten_cons, ih, List.replicate_succ (n := N) (a := List.replicate 64 (0 : Int)), List.flatMap_cons, iz_rep]
  have hd : ∀ d ∈ List.replicate N (List.replicate 64 (0 : Int)), (iz .u8 d).length = 64 := by
    intro d hd
    rw [List.eq_of_mem_replicate hd]; rfl
  have hfl := flat_len hd
  rw [List.length_replicate] at hfl
  rw [ef] at hmk
  generalize hC : (List.replicate N (List.replicate 64 (0 : Int))).flatMap (iz .u8) = C at hmk hfl
  have hv : Slc 64 (.slice (some ⟨h.next, 0, some 0⟩) N N) N C [(h.next, .cells ([] ++ (C ++ [])) false 64)] := .mk rfl hfl (by simp [hfl])
  have o1 := ho.new (.cells C false 64)
  generalize hb : h.next = b at hmk hv o1
  generalize hh1 : h.new (.cells C false 64) = h1' at o1
  have o2 := o1.new (.cells [.slice (some ⟨b, 0, some 0⟩) N N, .slice none 0 0] false 0)
  refine ⟨h1'.next, _, _, ?_, ⟨_, .slice none 0 0, _, [], by rw [List.length_replicate, hC]; exact hv, .nil, ⟨hd, fun _ h => absurd h List.not_mem_nil, fun _ h => absurd h List.not_mem_nil⟩, rfl⟩, o2.to fun x => by simp only [cnt_append, cnt_cons, cnt_nil, List.cons_append, List.nil_append, List.append_nil]; omega⟩
  have c1 : ¬ (N : Int) < 1 := by omega
  have c2 : ¬ 4096 < (N : Int) := by omega
  have f1 : fillL [.slice none 0 0, .slice none 0 0] [(0, 1, .slice (some ⟨b, 0, some 0⟩) N N)] = some [.slice (some ⟨b, 0, some 0⟩) N N, .slice none 0 0] := rfl
  have hc : ([.slice (some ⟨b, 0, some 0⟩) N N, .slice none 0 0] : List Value).all isCell = true := rfl
  simp only [f_sector_New, c1, c2, decide_false, cond_false, Option.bind_some, hb, hmk, bnd_eq, hh1, f1, hc, cond_true, nwA_eq]
end
end Go.Proofs.Ytempahfiiofjkaa
