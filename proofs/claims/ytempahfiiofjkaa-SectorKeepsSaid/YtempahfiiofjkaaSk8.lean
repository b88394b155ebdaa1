/- SectorKeeps: the law. -/
import Derived.Test.YtempahfiiofjkaaSk7
namespace Go.Proofs.Ytempahfiiofjkaa
open Go
set_option linter.unusedVariables false
set_option linter.unusedSimpArgs false

section
variable {n p k i j m : Nat} {sp : Option Nat} {ds D1 D2 : List (List Int)} {ws : List (Int × List Int)} {L F G A B A8 A22 : Ch} {h hh2 hh3 hh4 hh8 hh22 : Heap} {s s2 s3 s8 s22 u : Value} {X K W : List Int} {cs : List Value}

theorem hid_str (hs : Slc 1 s n cs A) (ho : Own h (A ++ F)) : ∃ A1, Own (hid h [] (strReads s ++ [])) (A1 ++ F) ∧ ∀ (h' : Heap) (X : Ch), Own h' (A1 ++ X) → Own (h'.putBack h ([] ++ (strReads s ++ []))) (A ++ X) := by
  cases hs with
  | nil =>
    refine ⟨[], ho.keep (fun x hx => ?_) (by rw [next_hid]; exact Nat.le_refl _), fun h' X o => o.keep (fun x hx => ?_) (by rw [Heap.next_putBack]; exact Nat.le_refl _)⟩
    · rw [get_hid, if_neg (by simp [strReads])]; simp
    · rw [Heap.get_putBack, if_neg (by simp [strReads])]
  | @mk b off sp _ c pre _ rest hp hl hr =>
    exact ⟨[(b, .cells (pre ++ (cs ++ rest)) true 1)], Own.ro (F := F) ho, fun h' X o => Own.back (X := X) o ho.head⟩

theorem sector_ok {v4 : Int} (hD1 : D1.length = 8) (hd : Okd D1 (wsOf W)) (hD2 : D2 = ak (fun j => decide ((j : Int) ∈ K)) (wsOf W) W.length D1) (hw : Sow 1 s2 W.length (iz .i64 W) G) (hk : Sow 1 s3 K.length (iz .i64 K) G)
    (h8 : Slc 1 s8 512 (iz .u8 D1.flatten) A8) (h22 : Slc 1 s22 512 (iz .u8 D2.flatten) A22) (hp : Dk p D2 [] L) (ho : Own h (A8 ++ (A22 ++ (L ++ (G ++ F))))) (hm : m < 8) (hW : W.length ≤ 1000) (hK : K.length ≤ 1000) (hn : 2000 ≤ n) :
    ∃ h', f_wicketlaw04_SectorKeeps_C69 n ((s2, ()), hh2) ((s3, ()), hh3) ((some ⟨p, 0, none⟩, (v4, ())), hh4) ((s8, ()), hh8) ((s22, ()), hh22) (m : Int) h = some (.inl ((), h')) ∧ Own h' (A8 ++ (A22 ++ (L ++ (G ++ F)))) := by
  have hl2 : D2.length = 8 := by rw [hD2, ak_len, hD1]
  have hd2 : ∀ d ∈ D2, (iz .u8 d).length = 64 := by rw [hD2]; exact ak_ok hd
  have w1 : IntKind.i64.wrap ((m : Int) * 64) = ((m * 64 : Nat) : Int) := by rw [wrap_i64 (by omega) (by omega)]; omega
  have w2 : IntKind.i64.wrap (((m * 64 : Nat) : Int) + 64) = ((m * 64 + 64 : Nat) : Int) := by rw [wrap_i64 (by omega) (by omega)]; omega
  obtain ⟨u1, e1, r1⟩ := slc_sub (h := h) (i := m * 64) (j := m * 64 + 64) (kk := .i64) (k' := .i64) h8 (by omega) (by omega)
  rw [sector_of hd.d (by omega)] at r1
  have t1 := (r1.rds ho).str
  obtain ⟨h1, e2, o1⟩ := outer_ok (n := n) (m := m) (p2 := ((s2, ()), hh2)) (p3 := ((s3, ()), hh3)) hd hw hk (F := A8 ++ (A22 ++ (L ++ F))) (h := h) (ho.to fun x => by simp only [cnt_append]; omega) (by omega) hW hK hn
  obtain ⟨s', h2, A', e3, hs', o2⟩ := read_ok (n := n) (i := m) hp (F := A8 ++ (A22 ++ (G ++ F))) (h := h1) (o1.to fun x => by simp only [cnt_append]; omega) (by omega) (by omega)
  have t2 := (hs'.rds o2).str
  obtain ⟨u2, e4, r2⟩ := slc_sub (h := h2) (i := m * 64) (j := m * 64 + 64) (kk := .i64) (k' := .i64) h22 (by omega) (by omega)
  rw [sector_of hd2 (by omega)] at r2
  have t3 := (r2.rds (h := h2) (F := A' ++ (A8 ++ (L ++ (G ++ F)))) (o2.to fun x => by simp only [cnt_append]; omega)).str
  have eD : D2[m]'(by omega) = (ak (fun j => decide ((j : Int) ∈ K)) (wsOf W) W.length D1)[m]'(by rw [ak_len]; omega) := by simp only [hD2]
  refine ⟨h2, ?_, o2.to fun x => by simp only [cnt_append]; omega⟩
  simp only [f_wicketlaw04_SectorKeeps_C69, w1, w2, e1, Option.bind_some, t1, (hw.rds (h := h) (F := A8 ++ (A22 ++ (L ++ F))) (ho.to fun x => by simp only [cnt_append]; omega)).lenB, e2, e3, decide_true, Bool.not_true, cond_false, t2, ← eD, str_eq rfl, e4, t3]

theorem sectors_ok {v4 : Int} (hD1 : D1.length = 8) (hd : Okd D1 (wsOf W)) (hD2 : D2 = ak (fun j => decide ((j : Int) ∈ K)) (wsOf W) W.length D1) (hw : Sow 1 s2 W.length (iz .i64 W) G) (hk : Sow 1 s3 K.length (iz .i64 K) G)
    (h8 : Slc 1 s8 512 (iz .u8 D1.flatten) A8) (h22 : Slc 1 s22 512 (iz .u8 D2.flatten) A22) (hp : Dk p D2 [] L) (ho : Own h (A8 ++ (A22 ++ (L ++ (G ++ F))))) (hW : W.length ≤ 1000) (hK : K.length ≤ 1000) (hn : 2000 ≤ n) :
    ∃ h', f_wicketlaw04_SectorKeeps_C72 n ((s2, ()), hh2) ((s3, ()), hh3) ((some ⟨p, 0, none⟩, (v4, ())), hh4) ((s8, ()), hh8) ((s22, ()), hh22) h = some (.inl ((), h')) ∧ Own h' (A8 ++ (A22 ++ (L ++ (G ++ F)))) := by
  obtain ⟨r, e, h', q1, q2⟩ := loopT_up (f := fun a => f_wicketlaw04_SectorKeeps_L71 n ((s2, ()), hh2) ((s3, ()), hh3) ((some ⟨p, 0, none⟩, (v4, ())), hh4) ((s8, ()), hh8) ((s22, ()), hh22) a.1.1 a.2)
    (fun j (a : (Int × Unit) × Heap) => a.1.1 = (j : Int) ∧ Own a.2 (A8 ++ (A22 ++ (L ++ (G ++ F)))))
    (fun r => ∃ h', r = .inl ((), h') ∧ Own h' (A8 ++ (A22 ++ (L ++ (G ++ F))))) (N := 8) (k := n) (j := 0) (a := ((0, ()), h)) (by omega) (by omega)
    ⟨rfl, ho⟩
    (fun j a hj hi => by
      obtain ⟨⟨v, _⟩, h1⟩ := a
      obtain ⟨rfl, o1⟩ := hi
      have hlt : (j : Int) < 8 := by omega
      obtain ⟨h2, e1, o2⟩ := sector_ok (n := n) (m := j) (hh2 := hh2) (hh3 := hh3) (hh4 := hh4) (hh8 := hh8) (hh22 := hh22) (v4 := v4) hD1 hd hD2 hw hk h8 h22 hp o1 hj hW hK hn
      exact .inl ⟨((((j + 1 : Nat) : Int), ()), h2), by simp only [f_wicketlaw04_SectorKeeps_L71, hlt, decide_true, cond_true, e1, thenB_inl, wrap_succ (show j < 4611686018427387904 by omega)], rfl, o2⟩)
    (fun a hi => by
      obtain ⟨⟨v, _⟩, h1⟩ := a
      obtain ⟨rfl, o1⟩ := hi
      exact ⟨.inl ((), h1), by simp [f_wicketlaw04_SectorKeeps_L71], h1, rfl, o1⟩)
  subst q1
  exact ⟨h', e, q2⟩

/-- All numbers, the last one first. -/
def down (N k : Nat) : List Int := (List.range k).map fun (i : Nat) => ((N - 1 - i : Nat) : Int)
theorem down_mem {N j : Nat} (hj : j < N) : (j : Int) ∈ down N N := by
  simp only [down, List.mem_map, List.mem_range]
  exact ⟨N - 1 - j, by omega, by omega⟩
@[simp] theorem down_len {N k : Nat} : (down N k).length = k := by simp [down]
theorem all_ok {N : Nat} (hl : lenB s2 = some N) (ho : Own h F) (hN : N ≤ 1000) (hn : 2000 ≤ n) :
    ∃ v h' A', loopT (fun a => f_wicketlaw04_SectorKeeps_L82 n ((s2, ()), hh2) N a.1.1 a.1.2.1 a.2) n ((.slice none 0 0, ((0 : Int), ())), h) = some ((v, ()), h') ∧ Slc 1 v N (iz .i64 (down N N)) A' ∧ Own h' (A' ++ F) := by
  obtain ⟨⟨r, h'⟩, e, v, q0, A', q1, q2⟩ := loopT_up (f := fun a => f_wicketlaw04_SectorKeeps_L82 n ((s2, ()), hh2) N a.1.1 a.1.2.1 a.2)
    (fun j (a : (Value × Int × Unit) × Heap) => a.1.2.1 = (j : Int) ∧ ∃ A', Slc 1 a.1.1 j (iz .i64 (down N j)) A' ∧ Own a.2 (A' ++ F))
    (fun r => ∃ v, r.1 = (v, ()) ∧ ∃ A', Slc 1 v N (iz .i64 (down N N)) A' ∧ Own r.2 (A' ++ F)) (N := N) (k := n) (j := 0) (a := ((.slice none 0 0, (0, ())), h)) (by omega) (by omega)
    ⟨rfl, [], .nil, ho⟩
    (fun j a hj hi => by
      obtain ⟨⟨v, i, _⟩, h1⟩ := a
      obtain ⟨c1, A1, hs1, o1⟩ := hi
      have c1 : i = (j : Int) := c1
      subst c1
      have hs1 : Slc 1 v j (iz .i64 (down N j)) A1 := hs1
      have o1 : Own h1 (A1 ++ F) := o1
      have hlt : (j : Int) < (N : Int) := by omega
      have w1 : IntKind.i64.wrap (IntKind.i64.wrap ((N : Int) - 1) - (j : Int)) = ((N - 1 - j : Nat) : Int) := by
        rw [wrap_i64 (z := (N : Int) - 1) (by omega) (by omega), wrap_i64 (by omega) (by omega)]; omega
      obtain ⟨s', h2, A2, e1, e2, o2⟩ := hs1.push (new := [.int .i64 ((N - 1 - j : Nat) : Int)]) o1 (by decide) rfl (bytes := 8) (by omega)
      refine .inl ⟨((s', (((j + 1 : Nat) : Int), ())), h2), ?_, rfl, A2, ?_, o2⟩
      · have f1 : fillL [.int .i64 0] [(0, 1, .int .i64 ((N - 1 - j : Nat) : Int))] = some [.int .i64 ((N - 1 - j : Nat) : Int)] := rfl
        simp only [f_wicketlaw04_SectorKeeps_L82, hlt, decide_true, cond_true, hl, Option.bind_some, w1, f1, bnd_eq, e1, wrap_succ (show j < 4611686018427387904 by omega)]
      · have : down N (j + 1) = down N j ++ [((N - 1 - j : Nat) : Int)] := by simp [down, List.range_succ]
        rw [this, iz_append]; exact e2)
    (fun a hi => by
      obtain ⟨⟨v, i, _⟩, h1⟩ := a
      obtain ⟨c1, A1, hs1, o1⟩ := hi
      have c1 : i = (N : Int) := c1
      subst c1
      exact ⟨((v, ()), h1), by simp [f_wicketlaw04_SectorKeeps_L82], v, rfl, A1, hs1, o1⟩)
  have q0 : r = (v, ()) := q0
  subst q0
  exact ⟨v, h', A', e, q1, q2⟩

theorem ak_congr {P Q : Nat → Bool} : ∀ {N : Nat}, (∀ j, j < N → P j = Q j) → ak P ws N ds = ak Q ws N ds := by
  intro N
  induction N with
  | zero => intro _; rfl
  | succ N ih =>
    intro hq
    simp only [ak, hq N (by omega), ih fun j hj => hq j (by omega)]
end
end Go.Proofs.Ytempahfiiofjkaa
