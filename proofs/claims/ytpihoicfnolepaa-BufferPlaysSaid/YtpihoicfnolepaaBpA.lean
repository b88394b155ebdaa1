import Derived.Test.YtpihoicfnolepaaLBufferPlays
import Derived.Test.YtpihoicfnolepaaS8
/- Lists of numbers that share no memory. -/
namespace Go.Proofs.Ytpihoicfnolepaa
open Go
set_option linter.unusedVariables false
set_option linter.unusedSimpArgs false

theorem lds_of {h : Heap} {q : Addr} {c : Value} {ty : Ty} (e : ldAS 1 h (some q) = some [c]) : ldTS ty h (some q) = ty.prj c := by
  simp only [ldAS, Option.bind_some] at e
  simp only [ldTS, Option.bind_some, e]; rfl
theorem Dn.vs {es j : Nat} {mk : Nat → List Value} {xs ds : List Ax} (hd : Dn es mk xs ds j) (hj : j = xs.length) : ds.map Ax.v = xs.map Ax.v := by
  subst hj
  refine List.ext_getElem (by simp [hd.len]) fun i h1 h2 => ?_
  rw [List.getElem_map, List.getElem_map]
  exact (hd.d i (by simpa using h1) (by simpa using h2)).1
def mk5 (i : Nat) : List Value := [.int .i64 (IntKind.i64.wrap (-1 - (i : Int)))]
def gr5 (i : Nat) : List Value := [.int .i64 (IntKind.i64.wrap (-1001 - (i : Int)))]
section
variable {n B : Nat} {u : Value} {U F : Ch} {h : Heap} {xs : List Ax}
theorem apart5_ok (hu : Slc 1 u xs.length (xs.map Ax.v) U) (hx : ∀ x ∈ xs, Slc 1 x.v x.m x.cs x.A ∧ x.m ≤ B) (ho : Own h (U ++ (xs.flatMap Ax.A ++ F))) (hB : (B + 80) * 8 ≤ 140737488355328) (hN : xs.length ≤ 100000000000) (hn : B + 100 ≤ n) (hn2 : xs.length + 100 ≤ n) :
    ∃ h', f_wicketlaw05_Apart n u h = some ((true, ()), h') ∧ Own h' (U ++ F) := by
  have o0 : Own (clrH h) (U ++ (xs.flatMap Ax.A ++ F)) := ⟨ho.get, ho.nodup, ho.lt⟩
  have hul := hu.lenB
  obtain ⟨h1, ds, e1, d1, o1, s1⟩ := marks_gen (n := n) (es := 1) (r := ()) (r2 := ()) (fin := fun i a => f_wicketlaw05_Apart_L13 n u (i : Int) a.1.1 a.2) (f := fun a => f_wicketlaw05_Apart_L15 n u a.1.1 a.2) (V := fun i => .int .i64 (IntKind.i64.wrap (-1 - (i : Int)))) (B := B)
    hu hx o0 rfl (fun _ => rfl) (fun _ => rfl)
    (fun i v m k h1 h2 q q' hi hl hk g1 g2 g3 g4 => by
      have hlt : (k : Int) < (m : Int) := by omega
      simp only [f_wicketlaw05_Apart_L13, g1, g2, hl, Option.bind_some, hlt, decide_true, cond_true, g3, g4])
    (fun i v m h1 q hi hl g1 g2 => by
      have hlt : ¬ (m : Int) < (m : Int) := by omega
      simp only [f_wicketlaw05_Apart_L13, g1, g2, hl, Option.bind_some, hlt, decide_false, cond_false])
    (fun i h1 h2 hi e => by
      have hlt : (i : Int) < (xs.length : Int) := by omega
      simp only [f_wicketlaw05_Apart_L15, hul, Option.bind_some, hlt, decide_true, cond_true]
      rw [e]; rfl)
    (fun h1 => by
      have hlt : ¬ (xs.length : Int) < (xs.length : Int) := by omega
      simp only [f_wicketlaw05_Apart_L15, hul, Option.bind_some, hlt, decide_false, cond_false])
    (by omega) (by omega) (by omega) (by omega)
  have hdl : ds.length = xs.length := d1.len
  have hvs := d1.vs rfl
  rw [← hvs, ← hdl] at hu
  rw [← hdl] at hN hn2 hul
  have hds : ∀ (i : Nat) (h1 : i < ds.length), Slc 1 ds[i].v ds[i].m (cw (mk5 i) (gr5 i) ds[i].m 0) ds[i].A ∧ ds[i].m ≤ B := by
    intro i h1
    obtain ⟨a1, a2, a3, a4⟩ := d1.d i h1 (by omega)
    refine ⟨?_, by rw [a2]; exact (hx _ (List.getElem_mem _)).2⟩
    rw [a3] at a4
    rw [cw_zero]; exact a4
  have hd1 : ShD h1 := fun e he => by rw [s1] at he; cases he
  obtain ⟨lg, h2, Lg, gs, e2, l2, g2, o2, d2⟩ := grows_gen (n := n) (es := 1) (M := 80) (B := B) (bytes := 8) (mk := mk5) (gr := gr5) (fin := fun i a => f_wicketlaw05_Apart_L34 n (i : Int) a.1.1 a.1.2.1 a.1.2.2.1 a.2) (f := fun a => f_wicketlaw05_Apart_L40 n u a.1.1 a.1.2.1 a.2)
    hu hds o1 hd1 (by decide) (fun _ => rfl) (fun _ => rfl) (fun c hc => Nat.le_trans (Nat.mul_le_mul_right 8 hc) hB) hN (by decide) (by decide) (by omega) (by omega)
    (fun i k lg x x' lg' h h1 h2 hk g1 c1 c2 g2 => by
      have hlt : (k : Int) < 80 := by omega
      have hl2 : (k : Int) < 16 := by omega
      have f1 : fillL [.int .i64 0] [(0, 1, .int .i64 (IntKind.i64.wrap (-1001 - (i : Int))))] = some (gr5 i) := rfl
      have f2 := fill1 (d := .slice none 0 0) c1 c2
      simp only [f_wicketlaw05_Apart_L34, hlt, hl2, decide_true, cond_true, f1, Option.bind_some, bnd_eq, g1, f2, g2])
    (fun i k lg x x' h h1 hk hk2 g1 => by
      have hlt : (k : Int) < 80 := by omega
      have hl2 : ¬ (k : Int) < 16 := by omega
      have f1 : fillL [.int .i64 0] [(0, 1, .int .i64 (IntKind.i64.wrap (-1001 - (i : Int))))] = some (gr5 i) := rfl
      simp only [f_wicketlaw05_Apart_L34, hlt, hl2, decide_true, decide_false, cond_true, cond_false, f1, Option.bind_some, bnd_eq, g1])
    (fun i lg x h => rfl)
    (fun i lg v lg1 x1 lg2 h h1 h2 q hi g1 g2 g3 c1 c2 g4 => by
      have hlt : (i : Int) < (ds.length : Int) := by omega
      have f2 := fill1 (d := .slice none 0 0) c1 c2
      simp only [f_wicketlaw05_Apart_L40, hul, Option.bind_some, hlt, decide_true, cond_true, g1, g2]
      rw [g3]
      simp only [Option.bind_some, f2, bnd_eq, g4])
    (fun lg h => by
      have hlt : ¬ (ds.length : Int) < (ds.length : Int) := by omega
      simp only [f_wicketlaw05_Apart_L40, hul, Option.bind_some, hlt, decide_false, cond_false])
  -- looked at
  have oU : Own h2 (U ++ (Lg ++ (gs.flatMap Gp.G ++ F))) := o2.to fun z => by simp only [cnt_append]; omega
  have inner : ∀ (i : Nat) (hi : i < ds.length), f_wicketlaw05_Apart_C76 n u ((lg, ()), h2) (i : Int) h2 = some (.inl ((), h2)) := by
    intro i hi
    have hgi : i < gs.length := by rw [g2.len]; exact hi
    have hy := List.getElem?_eq_getElem hgi
    have hxx := List.getElem?_eq_getElem hi
    have hvi : (ds.map Ax.v)[i]? = some ds[i].v := by rw [List.getElem?_map, hxx]; rfl
    obtain ⟨q, r1, r2⟩ := sl_at hu oU d2 hvi
    have hm := (hds i hi).2
    have hlv := (hds i hi).1.lenB
    have oG : Own h2 (gs[i].G ++ []) := o2.to fun z => by
      have : cnt z gs[i].G ≤ cnt z (gs.flatMap Gp.G) := cnt_sublist (List.sublist_flatten_of_mem (L := gs.map Gp.G) (List.mem_map_of_mem (List.getElem_mem hgi)))
      simp only [cnt_append, cnt_nil]; omega
    have k1 : f_wicketlaw05_Apart_C57 n u (i : Int) h2 = some (.inl ((), h2)) := by
      refine look1 (f := fun a => f_wicketlaw05_Apart_L56 n u (i : Int) a.1.1 a.2) (g2.k i _ _ hy hxx) rfl oG rfl (by simp [mk5, Go.Proofs.Ytpihoicfnolepaa.sameL, sameV]) (by simp [gr5, Go.Proofs.Ytpihoicfnolepaa.sameL, sameV]) (fun k q' hk e1 e2 => ?_) ?_ (by omega) (by omega)
      · have hlt : (k : Int) < (ds[i].m : Int) := by omega
        have e3 := lds_of (ty := .int .i64) e2
        rw [prj_int] at e3
        simp only [f_wicketlaw05_Apart_L56, r1, r2, hlv, Option.bind_some, hlt, decide_true, cond_true, e1, e3, Bool.not_true, cond_false]
      · have hlt : ¬ (ds[i].m : Int) < (ds[i].m : Int) := by omega
        simp only [f_wicketlaw05_Apart_L56, r1, r2, hlv, Option.bind_some, hlt, decide_false, cond_false]
    have k2 : ∀ (g : Nat), g < 17 → f_wicketlaw05_Apart_C73 n u ((lg, ()), h2) (i : Int) (g : Int) h2 = some (.inl ((), h2)) := by
      intro g hg
      have hv17 := g2.vs i _ hy
      have hw : gs[i].vs[g]? = some (gs[i].vs[g]'(by omega)) := List.getElem?_eq_getElem (by omega)
      have hat := (flat17_at g2.vs hy hg).trans hw
      generalize gs[i].vs[g]'(by omega) = w at hw hat
      obtain ⟨q3, t1, t2⟩ := sl_at l2 (F := gs.flatMap Gp.G ++ (U ++ F)) (h := h2) o2 d2 hat
      have hkp := g2.g i _ _ hy hxx g w hw
      have hlw := hkp.lenB
      have hcc : cc 80 g ≤ 80 := by unfold cc; split <;> omega
      have w1 : IntKind.i64.wrap (IntKind.i64.wrap (17 * (i : Int)) + (g : Int)) = ((17 * i + g : Nat) : Int) := by
        have w0 : IntKind.i64.wrap (17 * (i : Int)) = 17 * (i : Int) := wrap_i64 (by omega) (by omega)
        rw [w0, wrap_i64 (by omega) (by omega)]; omega
      simp only [f_wicketlaw05_Apart_C73, w1, t1, t2, r1, r2, hlv, Option.bind_some]
      refine look2 (f := fun a => f_wicketlaw05_Apart_L72 n (i : Int) w a.1.1 a.2) hkp oG rfl rfl (by simp [mk5, Go.Proofs.Ytpihoicfnolepaa.sameL, sameV]) (by simp [gr5, Go.Proofs.Ytpihoicfnolepaa.sameL, sameV]) (fun k q' hk e1 e2 => ?_) ?_ (by omega) (by omega)
      · have hlt : (k : Int) < ((ds[i].m + cc 80 g : Nat) : Int) := by omega
        have e3 := lds_of (ty := .int .i64) e2
        rw [prj_int] at e3
        simp only [f_wicketlaw05_Apart_L72, hlw, Option.bind_some, hlt, decide_true, cond_true, e1, e3, Bool.not_true, cond_false]
      · have hlt : ¬ ((ds[i].m + cc 80 g : Nat) : Int) < ((ds[i].m + cc 80 g : Nat) : Int) := by omega
        simp only [f_wicketlaw05_Apart_L72, hlw, Option.bind_some, hlt, decide_false, cond_false]
    have k3 : loopT (fun a => f_wicketlaw05_Apart_L75 n u ((lg, ()), h2) (i : Int) a.1.1 a.2) n (((0 : Int), ()), h2) = some (.inl ((), h2)) := by
      obtain ⟨x, e, q⟩ := loopT_up (f := fun a => f_wicketlaw05_Apart_L75 n u ((lg, ()), h2) (i : Int) a.1.1 a.2) (fun k (a : (Int × Unit) × Heap) => a = (((k : Int), ()), h2)) (fun x => x = .inl ((), h2)) (N := 17) (k := n) (j := 0) (a := ((0, ()), h2)) (by omega) (by omega) rfl
        (fun k a hk hi => by
          subst hi
          have hlt : (k : Int) < 17 := by omega
          exact .inl ⟨_, by simp only [f_wicketlaw05_Apart_L75, hlt, decide_true, cond_true, k2 k hk, thenB_inl, wrap_succ (show k < 4611686018427387904 by omega)], rfl⟩)
        (fun a hi => by subst hi; exact ⟨_, rfl, rfl⟩)
      rw [e, q]
    simp only [f_wicketlaw05_Apart_C76, k1, thenB_inl, k3]
  refine ⟨h2, ?_, o2.to fun z => by simp only [cnt_append]; omega⟩
  have e3 : loopT (fun a => f_wicketlaw05_Apart_L78 n u ((lg, ()), h2) a.1.1 a.2) n (((0 : Int), ()), h2) = some ((true, ()), h2) := by
    obtain ⟨x, e, q⟩ := loopT_up (f := fun a => f_wicketlaw05_Apart_L78 n u ((lg, ()), h2) a.1.1 a.2) (fun k (a : (Int × Unit) × Heap) => a = (((k : Int), ()), h2)) (fun x => x = ((true, ()), h2)) (N := ds.length) (k := n) (j := 0) (a := ((0, ()), h2)) (by omega) (by omega) rfl
      (fun k a hk hi => by
        subst hi
        have hlt : (k : Int) < (ds.length : Int) := by omega
        exact .inl ⟨_, by simp only [f_wicketlaw05_Apart_L78, hul, Option.bind_some, hlt, decide_true, cond_true, inner k hk, thenB_inl, wrap_succ (show k < 4611686018427387904 by omega)], rfl⟩)
      (fun a hi => by
        subst hi
        have hlt : ¬ (ds.length : Int) < (ds.length : Int) := by omega
        exact ⟨_, by simp only [f_wicketlaw05_Apart_L78, hul, Option.bind_some, hlt, decide_false, cond_false], rfl⟩)
    rw [e, q]
  have e1 : loopT (fun a => f_wicketlaw05_Apart_L15 n u a.1.1 a.2) n (((0 : Int), ()), clrH h) = some ((), h1) := e1
  simp only [f_wicketlaw05_Apart, bnd_eq, e1, Option.bind_some, e2, e3]
end
end Go.Proofs.Ytpihoicfnolepaa

/- Lists of images that share no memory. -/
namespace Go.Proofs.Ytpihoicfnolepaa
open Go
set_option linter.unusedVariables false
set_option linter.unusedSimpArgs false

def img (p : Int × List Int) : List Value := .int .i64 p.1 :: iz .u8 p.2
theorem img_length {p : Int × List Int} (h : p.2.length = 32) : (img p).length = 33 := by simp [img, h]
theorem eq_img {p q : Int × List Int} (hp : p.2.length = 32) (hq : q.2.length = 32) : eqCells (List.replicate 33 false) (img p) (img q) = some (decide (p = q)) := by
  have := eqCells_iz (k := .u8) hp hq
  obtain ⟨a, b⟩ := p
  obtain ⟨c, d⟩ := q
  simp only at this hp hq
  show eqCells (false :: List.replicate 32 false) (.int .i64 a :: iz .u8 b) (.int .i64 c :: iz .u8 d) = _
  simp only [eqCells, eqCell, if_true]
  rw [this]
  by_cases h1 : a = c <;> by_cases h2 : b = d <;> simp [h1, h2]
theorem img_eqV {h : Heap} {p q : Int × List Int} (hp : p.2.length = 32) (hq : q.2.length = 32) : eqVals h (.agg (List.replicate 33 false)) (.agg ⟨img p⟩) (.agg ⟨img q⟩) = some (decide (p = q)) := by
  rw [← eq_img hp hq]; rfl
theorem img_cell {p : Int × List Int} : (img p).all isCell = true := by simp only [img, List.all_cons, iz_cell]; rfl
theorem img_same {p : Int × List Int} : Go.Proofs.Ytpihoicfnolepaa.sameL (img p) (img p) = true := by
  simp only [img, Go.Proofs.Ytpihoicfnolepaa.sameL, sameV, decide_true, Bool.and_self, Bool.true_and]; exact sameL_int
theorem z33_fill {z : Int} : fillL [.int .i64 0, .int .u8 0, .int .u8 0, .int .u8 0, .int .u8 0, .int .u8 0, .int .u8 0, .int .u8 0, .int .u8 0, .int .u8 0, .int .u8 0, .int .u8 0, .int .u8 0, .int .u8 0, .int .u8 0, .int .u8 0, .int .u8 0, .int .u8 0, .int .u8 0, .int .u8 0, .int .u8 0, .int .u8 0, .int .u8 0, .int .u8 0, .int .u8 0, .int .u8 0, .int .u8 0, .int .u8 0, .int .u8 0, .int .u8 0, .int .u8 0, .int .u8 0, .int .u8 0] [(0, 1, .int .i64 z)] = some (img (z, List.replicate 32 0)) := rfl
theorem z33_fill2 {p : Int × List Int} (hp : p.2.length = 32) : fillL [.int .i64 0, .int .u8 0, .int .u8 0, .int .u8 0, .int .u8 0, .int .u8 0, .int .u8 0, .int .u8 0, .int .u8 0, .int .u8 0, .int .u8 0, .int .u8 0, .int .u8 0, .int .u8 0, .int .u8 0, .int .u8 0, .int .u8 0, .int .u8 0, .int .u8 0, .int .u8 0, .int .u8 0, .int .u8 0, .int .u8 0, .int .u8 0, .int .u8 0, .int .u8 0, .int .u8 0, .int .u8 0, .int .u8 0, .int .u8 0, .int .u8 0, .int .u8 0, .int .u8 0] [(0, 33, .agg ⟨img p⟩)] = some (img p) := by
  have h1 : cellsOf (.agg ⟨img p⟩) = img p := rfl
  have h2 : Nat.ble 33 (img p).length = true := by rw [img_length hp]; rfl
  simp only [fillL, h1, img_cell]
  rw [img_length hp]
  have h3 : writeAt [.int .i64 0, .int .u8 0, .int .u8 0, .int .u8 0, .int .u8 0, .int .u8 0, .int .u8 0, .int .u8 0, .int .u8 0, .int .u8 0, .int .u8 0, .int .u8 0, .int .u8 0, .int .u8 0, .int .u8 0, .int .u8 0, .int .u8 0, .int .u8 0, .int .u8 0, .int .u8 0, .int .u8 0, .int .u8 0, .int .u8 0, .int .u8 0, .int .u8 0, .int .u8 0, .int .u8 0, .int .u8 0, .int .u8 0, .int .u8 0, .int .u8 0, .int .u8 0, .int .u8 0] 0 (img p) = img p := by
    rw [writeAt_eq _ _ _ (by rw [img_length hp]; decide)]
    rw [img_length hp]; simp
  rw [h3]; rfl
theorem img33 {z : Int} : (img (z, List.replicate 32 0)).length = 33 := img_length (List.length_replicate ..)
def mk16 (i : Nat) : List Value := img (IntKind.i64.wrap (-1 - (i : Int)), List.replicate 32 0)
def gr16 (i : Nat) : List Value := img (IntKind.i64.wrap (-1001 - (i : Int)), List.replicate 32 0)
theorem mk16_len {i : Nat} : (mk16 i).length = 33 := img33
theorem gr16_len {i : Nat} : (gr16 i).length = 33 := img33
theorem mk16_cell {i : Nat} : (cellsOf (.agg ⟨mk16 i⟩)).all isCell = true := img_cell
theorem mk16_same {i : Nat} : Go.Proofs.Ytpihoicfnolepaa.sameL (mk16 i) (mk16 i) = true := img_same
theorem gr16_same {i : Nat} : Go.Proofs.Ytpihoicfnolepaa.sameL (gr16 i) (gr16 i) = true := img_same
theorem mk16_fill {i : Nat} : fillL [.int .i64 0, .int .u8 0, .int .u8 0, .int .u8 0, .int .u8 0, .int .u8 0, .int .u8 0, .int .u8 0, .int .u8 0, .int .u8 0, .int .u8 0, .int .u8 0, .int .u8 0, .int .u8 0, .int .u8 0, .int .u8 0, .int .u8 0, .int .u8 0, .int .u8 0, .int .u8 0, .int .u8 0, .int .u8 0, .int .u8 0, .int .u8 0, .int .u8 0, .int .u8 0, .int .u8 0, .int .u8 0, .int .u8 0, .int .u8 0, .int .u8 0, .int .u8 0, .int .u8 0] [(0, 1, .int .i64 (IntKind.i64.wrap ((-1) - (i : Int))))] = some (mk16 i) := z33_fill
theorem gr16_fill {i : Nat} : fillL [.int .i64 0, .int .u8 0, .int .u8 0, .int .u8 0, .int .u8 0, .int .u8 0, .int .u8 0, .int .u8 0, .int .u8 0, .int .u8 0, .int .u8 0, .int .u8 0, .int .u8 0, .int .u8 0, .int .u8 0, .int .u8 0, .int .u8 0, .int .u8 0, .int .u8 0, .int .u8 0, .int .u8 0, .int .u8 0, .int .u8 0, .int .u8 0, .int .u8 0, .int .u8 0, .int .u8 0, .int .u8 0, .int .u8 0, .int .u8 0, .int .u8 0, .int .u8 0, .int .u8 0] [(0, 1, .int .i64 (IntKind.i64.wrap ((-1001) - (i : Int))))] = some (gr16 i) := z33_fill
theorem gr16_fill2 {i : Nat} : fillL [.int .i64 0, .int .u8 0, .int .u8 0, .int .u8 0, .int .u8 0, .int .u8 0, .int .u8 0, .int .u8 0, .int .u8 0, .int .u8 0, .int .u8 0, .int .u8 0, .int .u8 0, .int .u8 0, .int .u8 0, .int .u8 0, .int .u8 0, .int .u8 0, .int .u8 0, .int .u8 0, .int .u8 0, .int .u8 0, .int .u8 0, .int .u8 0, .int .u8 0, .int .u8 0, .int .u8 0, .int .u8 0, .int .u8 0, .int .u8 0, .int .u8 0, .int .u8 0, .int .u8 0] [(0, 33, .agg ⟨gr16 i⟩)] = some (gr16 i) := z33_fill2 (List.length_replicate ..)
theorem mk16_eq {i : Nat} {h : Heap} : eqVals h (.agg (List.replicate 33 false)) (.agg ⟨mk16 i⟩) (.agg ⟨mk16 i⟩) = some true := by
  have := img_eqV (h := h) (p := (IntKind.i64.wrap (-1 - (i : Int)), List.replicate 32 0)) (q := (IntKind.i64.wrap (-1 - (i : Int)), List.replicate 32 0)) (List.length_replicate ..) (List.length_replicate ..)
  rw [decide_eq_true rfl] at this
  exact this
theorem gr16_eq {i : Nat} {h : Heap} : eqVals h (.agg (List.replicate 33 false)) (.agg ⟨gr16 i⟩) (.agg ⟨gr16 i⟩) = some true := by
  have := img_eqV (h := h) (p := (IntKind.i64.wrap (-1001 - (i : Int)), List.replicate 32 0)) (q := (IntKind.i64.wrap (-1001 - (i : Int)), List.replicate 32 0)) (List.length_replicate ..) (List.length_replicate ..)
  rw [decide_eq_true rfl] at this
  exact this
section
variable {n B : Nat} {u : Value} {U F : Ch} {h : Heap} {xs : List Ax}
theorem apart16_ok (hu : Slc 1 u xs.length (xs.map Ax.v) U) (hx : ∀ x ∈ xs, Slc 33 x.v x.m x.cs x.A ∧ x.m ≤ B) (ho : Own h (U ++ (xs.flatMap Ax.A ++ F))) (hB : (B + 80) * 40 ≤ 140737488355328) (hN : xs.length ≤ 100000000000) (hn : B + 100 ≤ n) (hn2 : xs.length + 100 ≤ n) :
    ∃ h', f_wicketlaw16_Apart n u h = some ((true, ()), h') ∧ Own h' (U ++ F) := by
  have o0 : Own (clrH h) (U ++ (xs.flatMap Ax.A ++ F)) := ⟨ho.get, ho.nodup, ho.lt⟩
  have hul := hu.lenB
  obtain ⟨h1, ds, e1, d1, o1, s1⟩ := marks_gen (n := n) (es := 33) (r := ()) (r2 := ()) (fin := fun i a => f_wicketlaw16_Apart_L14 n u (i : Int) a.1.1 a.2) (f := fun a => f_wicketlaw16_Apart_L16 n u a.1.1 a.2) (V := fun i => .agg ⟨mk16 i⟩) (B := B)
    hu hx o0 rfl (fun i => mk16_len) (fun i => mk16_cell)
    (fun i v m k h1 h2 q q' hi hl hk g1 g2 g3 g4 => by
      have hlt : (k : Int) < (m : Int) := by omega
      simp only [f_wicketlaw16_Apart_L14, g1, g2, hl, Option.bind_some, hlt, decide_true, cond_true, mk16_fill, g3, g4])
    (fun i v m h1 q hi hl g1 g2 => by
      have hlt : ¬ (m : Int) < (m : Int) := by omega
      simp only [f_wicketlaw16_Apart_L14, g1, g2, hl, Option.bind_some, hlt, decide_false, cond_false])
    (fun i h1 h2 hi e => by
      have hlt : (i : Int) < (xs.length : Int) := by omega
      simp only [f_wicketlaw16_Apart_L16, hul, Option.bind_some, hlt, decide_true, cond_true]
      rw [e]; rfl)
    (fun h1 => by
      have hlt : ¬ (xs.length : Int) < (xs.length : Int) := by omega
      simp only [f_wicketlaw16_Apart_L16, hul, Option.bind_some, hlt, decide_false, cond_false])
    (by omega) (by omega) (by omega) (by omega)
  have hdl : ds.length = xs.length := d1.len
  have hvs := d1.vs rfl
  rw [← hvs, ← hdl] at hu
  rw [← hdl] at hN hn2 hul
  have hds : ∀ (i : Nat) (h1 : i < ds.length), Slc 33 ds[i].v ds[i].m (cw (mk16 i) (gr16 i) ds[i].m 0) ds[i].A ∧ ds[i].m ≤ B := by
    intro i h1
    obtain ⟨a1, a2, a3, a4⟩ := d1.d i h1 (by omega)
    refine ⟨?_, by rw [a2]; exact (hx _ (List.getElem_mem _)).2⟩
    rw [a3] at a4
    rw [cw_zero]; exact a4
  have hd1 : ShD h1 := fun e he => by rw [s1] at he; cases he
  obtain ⟨lg, h2, Lg, gs, e2, l2, g2, o2, d2⟩ := grows_gen (n := n) (es := 33) (M := 80) (B := B) (bytes := 40) (mk := mk16) (gr := gr16) (fin := fun i a => f_wicketlaw16_Apart_L36 n (i : Int) a.1.1 a.1.2.1 a.1.2.2.1 a.2) (f := fun a => f_wicketlaw16_Apart_L42 n u a.1.1 a.1.2.1 a.2)
    hu hds o1 hd1 (by decide) (fun i => mk16_len) (fun i => gr16_len) (fun c hc => Nat.le_trans (Nat.mul_le_mul_right 40 hc) hB) hN (by decide) (by decide) (by omega) (by omega)
    (fun i k lg x x' lg' h h1 h2 hk g1 c1 c2 g2 => by
      have hlt : (k : Int) < 80 := by omega
      have hl2 : (k : Int) < 16 := by omega
      have f2 := fill1 (d := .slice none 0 0) c1 c2
      simp only [f_wicketlaw16_Apart_L36, hlt, hl2, decide_true, cond_true, gr16_fill, gr16_fill2, Option.bind_some, bnd_eq, g1, f2, g2])
    (fun i k lg x x' h h1 hk hk2 g1 => by
      have hlt : (k : Int) < 80 := by omega
      have hl2 : ¬ (k : Int) < 16 := by omega
      simp only [f_wicketlaw16_Apart_L36, hlt, hl2, decide_true, decide_false, cond_true, cond_false, gr16_fill, gr16_fill2, Option.bind_some, bnd_eq, g1])
    (fun i lg x h => rfl)
    (fun i lg v lg1 x1 lg2 h h1 h2 q hi g1 g2 g3 c1 c2 g4 => by
      have hlt : (i : Int) < (ds.length : Int) := by omega
      have f2 := fill1 (d := .slice none 0 0) c1 c2
      simp only [f_wicketlaw16_Apart_L42, hul, Option.bind_some, hlt, decide_true, cond_true, g1, g2]
      rw [g3]
      simp only [Option.bind_some, f2, bnd_eq, g4])
    (fun lg h => by
      have hlt : ¬ (ds.length : Int) < (ds.length : Int) := by omega
      simp only [f_wicketlaw16_Apart_L42, hul, Option.bind_some, hlt, decide_false, cond_false])
  -- looked at
  have oU : Own h2 (U ++ (Lg ++ (gs.flatMap Gp.G ++ F))) := o2.to fun z => by simp only [cnt_append]; omega
  have inner : ∀ (i : Nat) (hi : i < ds.length), f_wicketlaw16_Apart_C82 n u ((lg, ()), h2) (i : Int) h2 = some (.inl ((), h2)) := by
    intro i hi
    have hgi : i < gs.length := by rw [g2.len]; exact hi
    have hy := List.getElem?_eq_getElem hgi
    have hxx := List.getElem?_eq_getElem hi
    have hvi : (ds.map Ax.v)[i]? = some ds[i].v := by rw [List.getElem?_map, hxx]; rfl
    obtain ⟨q, r1, r2⟩ := sl_at hu oU d2 hvi
    have hm := (hds i hi).2
    have hlv := (hds i hi).1.lenB
    have oG : Own h2 (gs[i].G ++ []) := o2.to fun z => by
      have : cnt z gs[i].G ≤ cnt z (gs.flatMap Gp.G) := cnt_sublist (List.sublist_flatten_of_mem (L := gs.map Gp.G) (List.mem_map_of_mem (List.getElem_mem hgi)))
      simp only [cnt_append, cnt_nil]; omega
    have k1 : f_wicketlaw16_Apart_C61 n u (i : Int) h2 = some (.inl ((), h2)) := by
      refine look1 (f := fun a => f_wicketlaw16_Apart_L60 n u (i : Int) a.1.1 a.2) (g2.k i _ _ hy hxx) rfl oG mk16_len mk16_same gr16_same (fun k q' hk e1 e2 => ?_) ?_ (by omega) (by omega)
      · have hlt : (k : Int) < (ds[i].m : Int) := by omega
        simp only [f_wicketlaw16_Apart_L60, r1, r2, hlv, Option.bind_some, hlt, decide_true, cond_true, e1, e2, mk16_fill, mk16_eq, Bool.not_true, cond_false]
      · have hlt : ¬ (ds[i].m : Int) < (ds[i].m : Int) := by omega
        simp only [f_wicketlaw16_Apart_L60, r1, r2, hlv, Option.bind_some, hlt, decide_false, cond_false]
    have k2 : ∀ (g : Nat), g < 17 → f_wicketlaw16_Apart_C79 n u ((lg, ()), h2) (i : Int) (g : Int) h2 = some (.inl ((), h2)) := by
      intro g hg
      have hv17 := g2.vs i _ hy
      have hw : gs[i].vs[g]? = some (gs[i].vs[g]'(by omega)) := List.getElem?_eq_getElem (by omega)
      have hat := (flat17_at g2.vs hy hg).trans hw
      generalize gs[i].vs[g]'(by omega) = w at hw hat
      obtain ⟨q3, t1, t2⟩ := sl_at l2 (F := gs.flatMap Gp.G ++ (U ++ F)) (h := h2) o2 d2 hat
      have hkp := g2.g i _ _ hy hxx g w hw
      have hlw := hkp.lenB
      have hcc : cc 80 g ≤ 80 := by unfold cc; split <;> omega
      have w1 : IntKind.i64.wrap (IntKind.i64.wrap (17 * (i : Int)) + (g : Int)) = ((17 * i + g : Nat) : Int) := by
        have w0 : IntKind.i64.wrap (17 * (i : Int)) = 17 * (i : Int) := wrap_i64 (by omega) (by omega)
        rw [w0, wrap_i64 (by omega) (by omega)]; omega
      simp only [f_wicketlaw16_Apart_C79, w1, t1, t2, r1, r2, hlv, Option.bind_some]
      refine look2 (f := fun a => f_wicketlaw16_Apart_L78 n (i : Int) w a.1.1 a.2) hkp oG mk16_len gr16_len mk16_same gr16_same (fun k q' hk e1 e2 => ?_) ?_ (by omega) (by omega)
      · have hlt : (k : Int) < ((ds[i].m + cc 80 g : Nat) : Int) := by omega
        simp only [f_wicketlaw16_Apart_L78, hlw, Option.bind_some, hlt, decide_true, cond_true, e1, e2, gr16_fill, gr16_eq, Bool.not_true, cond_false]
      · have hlt : ¬ ((ds[i].m + cc 80 g : Nat) : Int) < ((ds[i].m + cc 80 g : Nat) : Int) := by omega
        simp only [f_wicketlaw16_Apart_L78, hlw, Option.bind_some, hlt, decide_false, cond_false]
    have k3 : loopT (fun a => f_wicketlaw16_Apart_L81 n u ((lg, ()), h2) (i : Int) a.1.1 a.2) n (((0 : Int), ()), h2) = some (.inl ((), h2)) := by
      obtain ⟨x, e, q⟩ := loopT_up (f := fun a => f_wicketlaw16_Apart_L81 n u ((lg, ()), h2) (i : Int) a.1.1 a.2) (fun k (a : (Int × Unit) × Heap) => a = (((k : Int), ()), h2)) (fun x => x = .inl ((), h2)) (N := 17) (k := n) (j := 0) (a := ((0, ()), h2)) (by omega) (by omega) rfl
        (fun k a hk hi => by
          subst hi
          have hlt : (k : Int) < 17 := by omega
          exact .inl ⟨_, by simp only [f_wicketlaw16_Apart_L81, hlt, decide_true, cond_true, k2 k hk, thenB_inl, wrap_succ (show k < 4611686018427387904 by omega)], rfl⟩)
        (fun a hi => by subst hi; exact ⟨_, rfl, rfl⟩)
      rw [e, q]
    simp only [f_wicketlaw16_Apart_C82, k1, thenB_inl, k3]
  refine ⟨h2, ?_, o2.to fun z => by simp only [cnt_append]; omega⟩
  have e3 : loopT (fun a => f_wicketlaw16_Apart_L84 n u ((lg, ()), h2) a.1.1 a.2) n (((0 : Int), ()), h2) = some ((true, ()), h2) := by
    obtain ⟨x, e, q⟩ := loopT_up (f := fun a => f_wicketlaw16_Apart_L84 n u ((lg, ()), h2) a.1.1 a.2) (fun k (a : (Int × Unit) × Heap) => a = (((k : Int), ()), h2)) (fun x => x = ((true, ()), h2)) (N := ds.length) (k := n) (j := 0) (a := ((0, ()), h2)) (by omega) (by omega) rfl
      (fun k a hk hi => by
        subst hi
        have hlt : (k : Int) < (ds.length : Int) := by omega
        exact .inl ⟨_, by simp only [f_wicketlaw16_Apart_L84, hul, Option.bind_some, hlt, decide_true, cond_true, inner k hk, thenB_inl, wrap_succ (show k < 4611686018427387904 by omega)], rfl⟩)
      (fun a hi => by
        subst hi
        have hlt : ¬ (ds.length : Int) < (ds.length : Int) := by omega
        exact ⟨_, by simp only [f_wicketlaw16_Apart_L84, hul, Option.bind_some, hlt, decide_false, cond_false], rfl⟩)
    rw [e, q]
  have e1 : loopT (fun a => f_wicketlaw16_Apart_L16 n u a.1.1 a.2) n (((0 : Int), ()), clrH h) = some ((), h1) := e1
  simp only [f_wicketlaw16_Apart, bnd_eq, e1, Option.bind_some, e2, e3]
end
end Go.Proofs.Ytpihoicfnolepaa

/- Forms, values by block, images: what they are. -/
namespace Go.Proofs.Ytpihoicfnolepaa
open Go
set_option linter.unusedVariables false
set_option linter.unusedSimpArgs false
section
variable {v : Value} {L : List Int} {t : Int} {kv : List (Int × List Int)}
def Good (L : List Int) : Prop := 1 ≤ L.length ∧ L.length ≤ 16 ∧ (∀ h : 0 < L.length, 0 ≤ L[0]) ∧ (∀ h : 0 < L.length, L[L.length - 1] < 64) ∧ ∀ j, 1 ≤ j → (h : j < L.length) → L[j - 1] < L[j]
noncomputable def isB (L : List Int) : Bool := by classical exact decide (Good L)
theorem isB_true (h : Good L) : isB L = true := by simp [isB, h]
theorem isB_false (h : ¬ Good L) : isB L = false := by simp [isB, h]
theorem Good.lt (h : Good L) : ∀ {j i : Nat} (hj : j < L.length) (hi : i < j), L[i]'(by omega) < L[j] := by
  intro j
  induction j with
  | zero => intro i hj hi; omega
  | succ j ih =>
    intro i hj hi
    have h1 := h.2.2.2.2 (j + 1) (by omega) hj
    simp only [Nat.add_sub_cancel] at h1
    rcases Nat.lt_or_ge i j with h2 | h2
    · have := ih (i := i) (by omega) h2; omega
    · obtain rfl : i = j := by omega
      exact h1
theorem Good.nodup (h : Good L) : L.Nodup := by
  refine List.pairwise_iff_getElem.2 fun i j hi hj hij he => ?_
  have := h.lt hj hij
  omega
def bvs (kv : List (Int × List Int)) : List (Value × Value) := kv.map fun p => (.int .i64 p.1, .agg ⟨iz .u8 p.2⟩)
def vidx (t : Int) : List (Int × List Int) → Nat → Option (Nat × List Int)
  | [], _ => none
  | (a, b) :: r, i => if a = t then some (i, b) else vidx t r (i + 1)
def getV (t : Int) (kv : List (Int × List Int)) : Option (List Int) := (vidx t kv 0).map (·.2)
def putV (t : Int) (w : List Int) (kv : List (Int × List Int)) : List (Int × List Int) := match vidx t kv 0 with
  | some (i, _) => kv.set i (t, w)
  | none => kv ++ [(t, w)]
def zero32 : List Int := List.replicate 32 0
theorem findKv_bvs {t : Int} : ∀ (kv : List (Int × List Int)) (i : Nat), findKv .i64 t (bvs kv) i = some ((vidx t kv i).map fun p => (p.1, .agg ⟨iz .u8 p.2⟩)) := by
  intro kv
  induction kv with
  | nil => intro i; rfl
  | cons p kv ih =>
    obtain ⟨a, b⟩ := p
    intro i
    by_cases h : a = t
    · subst h
      simp [bvs, findKv, vidx]
    · have hb : (a == t) = false := by simpa using h
      simp only [bvs, List.map_cons, findKv, if_true, hb, cond_false, vidx, h, if_false]
      exact ih (i + 1)
theorem vidx_none : ∀ {kv : List (Int × List Int)} {i : Nat}, vidx t kv i = none ↔ ∀ p ∈ kv, p.1 ≠ t := by
  intro kv
  induction kv with
  | nil => intro i; simp [vidx]
  | cons p kv ih =>
    obtain ⟨a, b⟩ := p
    intro i
    by_cases h : a = t
    · simp [vidx, h]
    · simp [vidx, h, ih]
theorem vidx_at : ∀ {kv : List (Int × List Int)} {i : Nat} {j : Nat} {b : List Int}, vidx t kv i = some (j, b) → i ≤ j ∧ kv[j - i]? = some (t, b) := by
  intro kv
  induction kv with
  | nil => intro i j b h; simp [vidx] at h
  | cons p kv ih =>
    obtain ⟨a, c⟩ := p
    intro i j b h
    by_cases ha : a = t
    · simp only [vidx, ha, if_true, Option.some.injEq, Prod.mk.injEq] at h
      obtain ⟨rfl, rfl⟩ := h
      exact ⟨Nat.le_refl _, by simp [ha]⟩
    · simp only [vidx, ha, if_false] at h
      obtain ⟨h1, h2⟩ := ih h
      refine ⟨by omega, ?_⟩
      rw [show j - i = (j - (i + 1)) + 1 by omega, List.getElem?_cons_succ, h2]
structure Kv (L : List Int) (kv : List (Int × List Int)) : Prop where
  nodup : (kv.map (·.1)).Nodup
  sub : ∀ p ∈ kv, p.1 ∈ L
  len : ∀ p ∈ kv, p.2.length = 32
theorem Kv.get_iff {kv : List (Int × List Int)} (h : (kv.map (·.1)).Nodup) {w : List Int} : getV t kv = some w ↔ (t, w) ∈ kv := by
  induction kv with
  | nil => simp [getV, vidx]
  | cons p kv ih =>
    obtain ⟨a, b⟩ := p
    have hs : ∀ i, (vidx t kv i).map (·.2) = (vidx t kv 0).map (·.2) := by
      have : ∀ (kv : List (Int × List Int)) i j, (vidx t kv i).map (·.2) = (vidx t kv j).map (·.2) := by
        intro kv
        induction kv with
        | nil => intro i j; rfl
        | cons q kv ih =>
          obtain ⟨c, d⟩ := q
          intro i j
          by_cases hc : c = t
          · simp [vidx, hc]
          · simp only [vidx, hc, if_false]; exact ih _ _
      exact fun i => this kv i 0
    simp only [List.map_cons, List.nodup_cons] at h
    by_cases ha : a = t
    · subst ha
      simp only [getV, vidx, if_true, Option.map_some, Option.some.injEq, List.mem_cons, Prod.mk.injEq, true_and]
      constructor
      · rintro rfl; exact .inl rfl
      · rintro (rfl | h1)
        · rfl
        · exact absurd (List.mem_map.2 ⟨_, h1, rfl⟩) h.1
    · have := ih h.2
      simp only [getV] at this ⊢
      simp only [vidx, ha, if_false, hs, this, List.mem_cons, Prod.mk.injEq]
      constructor
      · exact .inr
      · rintro (⟨h1, _⟩ | h1)
        · exact absurd h1.symm ha
        · exact h1
theorem getV_none {kv : List (Int × List Int)} : getV t kv = none ↔ ∀ p ∈ kv, p.1 ≠ t := by
  rw [getV, Option.map_eq_none_iff]; exact vidx_none
theorem putV_keys {kv : List (Int × List Int)} {w : List Int} : (putV t w kv).map (·.1) = if getV t kv = none then kv.map (·.1) ++ [t] else kv.map (·.1) := by
  unfold putV getV
  cases hx : vidx t kv 0 with
  | none => simp
  | some p =>
    obtain ⟨i, b⟩ := p
    obtain ⟨_, h⟩ := vidx_at hx
    simp only [Nat.sub_zero] at h
    simp only [Option.map_some, reduceCtorEq, if_false, List.map_set]
    have h' : (kv.map (·.1))[i]? = some t := by simp [h]
    exact set_at_same h'
theorem Kv.put {kv : List (Int × List Int)} {w : List Int} (h : Kv L kv) (ht : t ∈ L) (hw : w.length = 32) : Kv L (putV t w kv) ∧ getV t (putV t w kv) = some w := by
  have hn : ((putV t w kv).map (·.1)).Nodup := by
    rw [putV_keys]
    split
    · rename_i h1
      rw [getV_none] at h1
      refine List.nodup_append.2 ⟨h.nodup, by simp, ?_⟩
      intro a ha b hb
      simp only [List.mem_singleton] at hb
      obtain ⟨p, hp, rfl⟩ := List.mem_map.1 ha
      rw [hb]; exact h1 p hp
    · exact h.nodup
  have hm : (t, w) ∈ putV t w kv ∧ ∀ p ∈ putV t w kv, p ∈ kv ∨ p = (t, w) := by
    unfold putV
    cases hx : vidx t kv 0 with
    | none => simp
    | some p =>
      obtain ⟨i, b⟩ := p
      obtain ⟨_, h1⟩ := vidx_at hx
      simp only [Nat.sub_zero] at h1
      have hl := (List.getElem?_eq_some_iff.1 h1).1
      exact ⟨List.mem_set hl _, fun p hp => List.mem_or_eq_of_mem_set hp⟩
  refine ⟨⟨hn, fun p hp => ?_, fun p hp => ?_⟩, (Kv.get_iff hn).2 hm.1⟩
  · rcases hm.2 p hp with h1 | rfl
    · exact h.sub p h1
    · exact ht
  · rcases hm.2 p hp with h1 | rfl
    · exact h.len p h1
    · exact hw
theorem zero32_iz : List.replicate 32 (.int .u8 0) = iz .u8 zero32 := by simp [iz, zero32, List.map_replicate, -List.reduceReplicate]
theorem zero32_length : zero32.length = 32 := by simp [zero32]
def imgs (L : List Int) (kv : List (Int × List Int)) : List (Int × List Int) := L.filterMap fun b => (getV b kv).map fun w => (b, w)
theorem getV_len (hk : Kv L kv) {w : List Int} (h : getV t kv = some w) : w.length = 32 := hk.len _ ((Kv.get_iff hk.nodup).1 h)
theorem getV_len' (hk : Kv L kv) : ((getV t kv).getD zero32).length = 32 := by
  cases h : getV t kv with
  | none => exact zero32_length
  | some w => exact getV_len hk h
theorem imgs_len (hk : Kv L kv) {M : List Int} : ∀ p ∈ imgs M kv, p.2.length = 32 := by
  intro p hp
  obtain ⟨b, _, h⟩ := List.mem_filterMap.1 hp
  obtain ⟨w, hw, rfl⟩ := Option.map_eq_some_iff.1 h
  exact getV_len hk hw
theorem imgs_step {j : Nat} (hj : j < L.length) : imgs (L.take (j + 1)) kv = imgs (L.take j) kv ++ (match getV L[j] kv with | some w => [(L[j], w)] | none => []) := by
  simp only [imgs]
  rw [List.take_add_one, List.getElem?_eq_getElem hj, Option.toList_some, List.filterMap_append, List.filterMap_cons]
  cases getV L[j] kv <;> rfl
theorem mem_imgs {p : Int × List Int} : p ∈ imgs L kv ↔ p.1 ∈ L ∧ getV p.1 kv = some p.2 := by
  simp only [imgs, List.mem_filterMap, Option.map_eq_some_iff]
  constructor
  · rintro ⟨b, hb, w, hw, rfl⟩; exact ⟨hb, hw⟩
  · rintro ⟨h1, h2⟩; exact ⟨p.1, h1, p.2, h2, rfl⟩
theorem imgs_lt (hg : Good L) : (imgs L kv).Pairwise (fun p q => p.1 < q.1) := by
  refine List.Pairwise.filterMap (R := fun a b => a < b) _ ?_ (List.pairwise_iff_getElem.2 fun i j hi hj hij => hg.lt hj hij)
  intro a a' hlt b hb b' hb'
  obtain ⟨w, _, rfl⟩ := Option.map_eq_some_iff.1 hb
  obtain ⟨w', _, rfl⟩ := Option.map_eq_some_iff.1 hb'
  exact hlt
theorem imgs_nodup (hg : Good L) : ((imgs L kv).map (·.1)).Nodup := by
  have := imgs_lt (kv := kv) hg
  refine List.pairwise_map.2 (this.imp ?_)
  intro a b h he
  omega
theorem imgs_count (hg : Good L) (hk : Kv L kv) : (imgs L kv).length = kv.length := by
  have hp : ((imgs L kv).map (·.1)).Perm (kv.map (·.1)) := by
    refine (List.perm_ext_iff_of_nodup (imgs_nodup hg) hk.nodup).2 fun a => ?_
    simp only [List.mem_map]
    constructor
    · rintro ⟨p, hp, rfl⟩
      obtain ⟨h1, h2⟩ := mem_imgs.1 hp
      exact ⟨_, (Kv.get_iff hk.nodup).1 h2, rfl⟩
    · rintro ⟨p, hp, rfl⟩
      exact ⟨p, mem_imgs.2 ⟨hk.sub p hp, (Kv.get_iff hk.nodup).2 hp⟩, rfl⟩
  have := hp.length_eq
  simpa using this
theorem imgs_le : (imgs L kv).length ≤ L.length := List.length_filterMap_le _ _
theorem Kv.put_ne {w : List Int} {t' : Int} (h : Kv L kv) (ht : t ∈ L) (hw : w.length = 32) (hne : t' ≠ t) : getV t' (putV t w kv) = getV t' kv := by
  have hn := (h.put ht hw).1.nodup
  have hm : ∀ x, (t', x) ∈ putV t w kv ↔ (t', x) ∈ kv := by
    intro x
    unfold putV
    cases hx : vidx t kv 0 with
    | none => simp [hne]
    | some p =>
      obtain ⟨i, b⟩ := p
      obtain ⟨_, h1⟩ := vidx_at hx
      simp only [Nat.sub_zero] at h1
      constructor
      · intro hp
        rcases List.mem_or_eq_of_mem_set hp with hp | hp
        · exact hp
        · simp only [Prod.mk.injEq] at hp; exact absurd hp.1 hne
      · intro hp
        obtain ⟨j, hj⟩ := List.getElem?_of_mem hp
        have hij : i ≠ j := by
          rintro rfl
          rw [h1] at hj
          simp only [Option.some.injEq, Prod.mk.injEq] at hj
          exact hne hj.1.symm
        refine List.mem_of_getElem? (i := j) ?_
        rw [List.getElem?_set_ne hij]; exact hj
  cases hg : getV t' kv with
  | none =>
    cases hg2 : getV t' (putV t w kv) with
    | none => rfl
    | some x =>
      have := (Kv.get_iff h.nodup).2 ((hm x).1 ((Kv.get_iff hn).1 hg2))
      rw [hg] at this; cases this
  | some x => exact (Kv.get_iff hn).2 ((hm x).2 ((Kv.get_iff h.nodup).1 hg))
/-- What was written last. -/
def lastW (t : Int) (W : List (Int × List Int)) : Option (List Int) := W.foldl (fun a p => if p.1 = t then some p.2 else a) none
theorem lastW_snoc {W : List (Int × List Int)} {p : Int × List Int} : lastW t (W ++ [p]) = if p.1 = t then some p.2 else lastW t W := by simp [lastW]
theorem lastW_len {W : List (Int × List Int)} (hW : ∀ p ∈ W, p.2.length = 32) {w : List Int} (h : lastW t W = some w) : w.length = 32 := by
  have : ∀ (W : List (Int × List Int)) (a : Option (List Int)), (∀ p ∈ W, p.2.length = 32) → (∀ w, a = some w → w.length = 32) → ∀ w, W.foldl (fun a p => if p.1 = t then some p.2 else a) a = some w → w.length = 32 := by
    intro W
    induction W with
    | nil => intro a _ ha w h; exact ha w h
    | cons p W ih =>
      intro a hW ha w h
      refine ih _ (fun q hq => hW q (List.mem_cons_of_mem _ hq)) (fun w hw => ?_) w h
      dsimp only at hw
      split at hw
      · cases hw; exact hW p (List.mem_cons_self ..)
      · exact ha w hw
  exact this W none hW (fun w h => by cases h) w h
theorem lastW_len' {W : List (Int × List Int)} (hW : ∀ p ∈ W, p.2.length = 32) : ((lastW t W).getD zero32).length = 32 := by
  cases h : lastW t W with
  | none => exact zero32_length
  | some w => exact lastW_len hW h
def imgsW (L : List Int) (W : List (Int × List Int)) : List (Int × List Int) := L.filterMap fun b => (lastW b W).map fun w => (b, w)
theorem imgsW_step {W : List (Int × List Int)} {j : Nat} (hj : j < L.length) : imgsW (L.take (j + 1)) W = imgsW (L.take j) W ++ (match lastW L[j] W with | some w => [(L[j], w)] | none => []) := by
  simp only [imgsW]
  rw [List.take_add_one, List.getElem?_eq_getElem hj, Option.toList_some, List.filterMap_append, List.filterMap_cons]
  cases lastW L[j] W <;> rfl
theorem imgsW_len {W : List (Int × List Int)} (hW : ∀ p ∈ W, p.2.length = 32) {M : List Int} : ∀ p ∈ imgsW M W, p.2.length = 32 := by
  intro p hp
  obtain ⟨b, _, h⟩ := List.mem_filterMap.1 hp
  obtain ⟨w, hw, rfl⟩ := Option.map_eq_some_iff.1 h
  exact lastW_len hW hw
theorem imgsW_eq {W : List (Int × List Int)} (h : ∀ t, getV t kv = lastW t W) : imgsW L W = imgs L kv := by
  simp only [imgsW, imgs, h]
theorem imgs_flen {M : List (Int × List Int)} (hM : ∀ p ∈ M, p.2.length = 32) : ∀ p ∈ M, (img p).length = 33 := fun p hp => img_length (hM p hp)
end
end Go.Proofs.Ytpihoicfnolepaa

/- Forms: has, is, the same, copies; new buffers. -/
namespace Go.Proofs.Ytpihoicfnolepaa
open Go
set_option linter.unusedVariables false
set_option linter.unusedSimpArgs false
section
variable {n m i : Nat} {s u : Value} {L X Y : List Int} {t z : Int} {h : Heap} {G F A B : Ch} {cs : List Value}
theorem take_mem_snoc {j : Nat} (hj : j < L.length) : t ∈ L.take (j + 1) ↔ t ∈ L.take j ∨ t = L[j] := by
  rw [take_snoc hj, List.mem_append, List.mem_singleton]
theorem index_ok (hr : Rds h 1 s L.length (iz .i64 L)) (hn : L.length + 1 ≤ n) (hl : L.length < 4611686018427387904) :
    ∃ z : Int, f_slices_Index_int_int n s t h = some ((z, ()), h) ∧ (0 ≤ z ↔ t ∈ L) := by
  obtain ⟨⟨⟨z, _⟩, h'⟩, e, q1, q2⟩ := loopT_up (f := fun a => f_slices_Index_int_int_L5 n t s L.length a.1.1 a.2)
    (fun j (a : (Int × Unit) × Heap) => a = (((j : Int), ()), h) ∧ ¬ t ∈ L.take j) (fun r => r.2 = h ∧ (0 ≤ r.1.1 ↔ t ∈ L)) (N := L.length) (k := n) (j := 0) (a := ((0, ()), h)) (by omega) (by omega) ⟨rfl, by simp⟩
    (fun j a hj hi => by
      obtain ⟨rfl, hi⟩ := hi
      have hlt : (j : Int) < (L.length : Int) := by omega
      obtain ⟨q, e1, e2⟩ := hr.int hj
      by_cases hc : t = L[j]
      · refine .inr ⟨(((j : Int), ()), h), by simp only [f_slices_Index_int_int_L5, hlt, decide_true, cond_true, e1, e2, Option.bind_some, hc], rfl, ?_⟩
        exact ⟨fun _ => hc ▸ List.getElem_mem hj, fun _ => by simp only; omega⟩
      · refine .inl ⟨_, by simp only [f_slices_Index_int_int_L5, hlt, decide_true, cond_true, e1, e2, Option.bind_some, hc, decide_false, cond_false, wrap_succ (show j < 4611686018427387904 by omega)], rfl, ?_⟩
        rw [take_mem_snoc hj]
        exact fun h => h.elim hi hc)
    (fun a hi => by
      obtain ⟨rfl, hi⟩ := hi
      have hlt : ¬ (L.length : Int) < (L.length : Int) := by omega
      rw [List.take_length] at hi
      exact ⟨((-1, ()), h), by simp only [f_slices_Index_int_int_L5, hlt, decide_false, cond_false], rfl, ⟨fun h => by simp only at h; omega, fun h => absurd h hi⟩⟩)
  have q1 : h' = h := q1
  subst q1
  exact ⟨z, by simp only [f_slices_Index_int_int, hr.lenB, Option.bind_some, e], q2⟩
theorem has_ok (hr : Rds h 1 s L.length (iz .i64 L)) (hn : L.length + 1 ≤ n) (hl : L.length < 4611686018427387904) : f_blocks_Has n s t h = some ((decide (t ∈ L), ()), h) := by
  obtain ⟨z, e, hz⟩ := index_ok (n := n) (t := t) hr hn hl
  simp only [f_blocks_Has, f_slices_Contains_int_int, e, Option.bind_some, hz]
theorem rhas_ok (hr : Rds h 1 s L.length (iz .i64 L)) (hn : L.length + 1 ≤ n) (hl : L.length < 4611686018427387904) : f_wicketref05_Has n s t h = some ((decide (t ∈ L), ()), h) := by
  obtain ⟨r, e, q⟩ := loopT_up (f := fun a => f_wicketref05_Has_L5 n t s a.1.1 a.2)
    (fun j (a : (Int × Unit) × Heap) => a = (((j : Int), ()), h) ∧ ¬ t ∈ L.take j) (fun r => r = ((decide (t ∈ L), ()), h)) (N := L.length) (k := n) (j := 0) (a := ((0, ()), h)) (by omega) (by omega) ⟨rfl, by simp⟩
    (fun j a hj hi => by
      obtain ⟨rfl, hi⟩ := hi
      have hlt : (j : Int) < (L.length : Int) := by omega
      obtain ⟨q, e1, e2⟩ := hr.int hj
      by_cases hc : L[j] = t
      · have hm : t ∈ L := hc ▸ List.getElem_mem hj
        exact .inr ⟨((true, ()), h), by simp only [f_wicketref05_Has_L5, hr.lenB, hlt, decide_true, cond_true, e1, e2, Option.bind_some, hc], by simp only [hm, decide_true]⟩
      · refine .inl ⟨_, by simp only [f_wicketref05_Has_L5, hr.lenB, hlt, decide_true, cond_true, e1, e2, Option.bind_some, hc, decide_false, cond_false, wrap_succ (show j < 4611686018427387904 by omega)], rfl, ?_⟩
        rw [take_mem_snoc hj]
        exact fun h => h.elim hi fun e => hc e.symm)
    (fun a hi => by
      obtain ⟨rfl, hi⟩ := hi
      have hlt : ¬ (L.length : Int) < (L.length : Int) := by omega
      rw [List.take_length] at hi
      exact ⟨((false, ()), h), by simp only [f_wicketref05_Has_L5, hr.lenB, Option.bind_some, hlt, decide_false, cond_false], by simp only [hi, decide_false]⟩)
  rw [f_wicketref05_Has, e, q]
theorem same5_ok (hr : Rds h 1 s L.length (iz .i64 L)) (hr2 : Rds h 1 u L.length (iz .i64 L)) (hn : L.length + 1 ≤ n) (hl : L.length < 4611686018427387904) : f_wicketref05_Same n s u h = some ((true, ()), h) := by
  obtain ⟨r, e, q⟩ := loopT_up (f := fun a => f_wicketref05_Same_L9 n u s a.1.1 a.2)
    (fun j (a : (Int × Unit) × Heap) => a = (((j : Int), ()), h)) (fun r => r = ((true, ()), h)) (N := L.length) (k := n) (j := 0) (a := ((0, ()), h)) (by omega) (by omega) rfl
    (fun j a hj hi => by
      subst hi
      have hlt : (j : Int) < (L.length : Int) := by omega
      obtain ⟨q, e1, e2⟩ := hr.int hj
      obtain ⟨q', e3, e4⟩ := hr2.int hj
      exact .inl ⟨_, by simp only [f_wicketref05_Same_L9, hr.lenB, hlt, decide_true, cond_true, e1, e2, e3, e4, Option.bind_some, Bool.not_true, cond_false, wrap_succ (show j < 4611686018427387904 by omega)], rfl⟩)
    (fun a hi => by
      subst hi
      have hlt : ¬ (L.length : Int) < (L.length : Int) := by omega
      exact ⟨_, by simp only [f_wicketref05_Same_L9, hr.lenB, Option.bind_some, hlt, decide_false, cond_false], rfl⟩)
  simp only [f_wicketref05_Same, hr.lenB, hr2.lenB, Option.bind_some, decide_true, Bool.not_true, cond_false, e, q]

/-- Does the list rise up to here? -/
def Ris (L : List Int) (j : Nat) : Prop := ∀ i, 1 ≤ i → (h : i < L.length) → i < j → L[i - 1] < L[i]
theorem is_ok (hr : Rds h 1 s L.length (iz .i64 L)) (hn : 100 ≤ n) : f_blocks_Is n s h = some ((isB L, ()), h) := by
  by_cases h1 : (L.length : Int) < 1
  · rw [isB_false (fun g => by have := g.1; omega)]
    simp only [f_blocks_Is, hr.lenB, Option.bind_some, h1, decide_true, cond_true]
  by_cases h2 : 16 < (L.length : Int)
  · rw [isB_false (fun g => by have := g.2.1; omega)]
    simp only [f_blocks_Is, hr.lenB, Option.bind_some, h1, h2, decide_true, decide_false, cond_true, cond_false]
  have hl0 : 0 < L.length := by omega
  obtain ⟨q0, e1, e2⟩ := hr.int hl0
  by_cases h3 : L[0] < 0
  · rw [isB_false (fun g => by have := g.2.2.1 hl0; omega)]
    have e1 : ixB 1 s 0 = some q0 := e1
    simp only [f_blocks_Is, hr.lenB, Option.bind_some, h1, h2, e1, e2, h3, decide_true, decide_false, cond_true, cond_false]
  obtain ⟨q1, e3, e4⟩ := hr.int (i := L.length - 1) (by omega)
  have hw : IntKind.i64.wrap ((L.length : Int) - 1) = ((L.length - 1 : Nat) : Int) := by rw [wrap_i64 (by omega) (by omega)]; omega
  have e1 : ixB 1 s 0 = some q0 := e1
  by_cases h4 : 64 ≤ L[L.length - 1]
  · rw [isB_false (fun g => by have := g.2.2.2.1 hl0; omega)]
    simp only [f_blocks_Is, hr.lenB, Option.bind_some, h1, h2, e1, e2, h3, hw, e3, e4, h4, decide_true, decide_false, cond_true, cond_false]
  obtain ⟨r, e, q⟩ := loopT_up (f := fun a => f_blocks_Is_L15 n s a.1.1 a.2)
    (fun j (a : (Int × Unit) × Heap) => a = ((((j + 1 : Nat) : Int), ()), h) ∧ Ris L (j + 1)) (fun r => r = ((isB L, ()), h)) (N := L.length - 1) (k := n) (j := 0) (a := ((1, ()), h)) (by omega) (by omega) ⟨rfl, fun i h1 _ h2 => by omega⟩
    (fun j a hj hi => by
      obtain ⟨rfl, hi⟩ := hi
      have hlt : ((j + 1 : Nat) : Int) < (L.length : Int) := by omega
      obtain ⟨q, f1, f2⟩ := hr.int (i := j + 1) (by omega)
      obtain ⟨q', f3, f4⟩ := hr.int (i := j) (by omega)
      have hw1 : IntKind.i64.wrap (((j + 1 : Nat) : Int) - 1) = (j : Int) := by rw [wrap_i64 (by omega) (by omega)]; omega
      by_cases hc : L[j + 1] ≤ L[j]
      · refine .inr ⟨((false, ()), h), by simp only [f_blocks_Is_L15, hr.lenB, hlt, decide_true, cond_true, f1, f2, hw1, f3, f4, Option.bind_some, hc], ?_⟩
        rw [isB_false (fun g => by have := g.2.2.2.2 (j + 1) (by omega) (by omega); simp only [Nat.add_sub_cancel] at this; omega)]
      · refine .inl ⟨_, by simp only [f_blocks_Is_L15, hr.lenB, hlt, decide_true, cond_true, f1, f2, hw1, f3, f4, Option.bind_some, hc, decide_false, cond_false, wrap_succ (show j + 1 < 4611686018427387904 by omega)], rfl, fun i g1 g2 g3 => ?_⟩
        by_cases hij : i < j + 1
        · exact hi i g1 g2 hij
        · obtain rfl : i = j + 1 := by omega
          simp only [Nat.add_sub_cancel]; omega)
    (fun a hi => by
      obtain ⟨rfl, hi⟩ := hi
      have he : L.length - 1 + 1 = L.length := by omega
      rw [he] at hi ⊢
      have hlt : ¬ (L.length : Int) < (L.length : Int) := by omega
      refine ⟨((true, ()), h), by simp only [f_blocks_Is_L15, hr.lenB, Option.bind_some, hlt, decide_false, cond_false], ?_⟩
      rw [isB_true ⟨by omega, by omega, fun _ => by omega, fun _ => by omega, fun j g1 g2 => hi j g1 g2 g2⟩])
  simp only [f_blocks_Is, hr.lenB, Option.bind_some, h1, h2, e1, e2, h3, hw, e3, e4, h4, decide_false, cond_false, e, q]
theorem ris_ok (hr : Rds h 1 s L.length (iz .i64 L)) (hn : 100 ≤ n) : f_wicketref05_Is n s h = some ((isB L, ()), h) := by
  by_cases h1 : (L.length : Int) < 1
  · rw [isB_false (fun g => by have := g.1; omega)]
    simp only [f_wicketref05_Is, hr.lenB, Option.bind_some, h1, decide_true, cond_true]
  by_cases h2 : 16 < (L.length : Int)
  · rw [isB_false (fun g => by have := g.2.1; omega)]
    simp only [f_wicketref05_Is, hr.lenB, Option.bind_some, h1, h2, decide_true, decide_false, cond_true, cond_false]
  obtain ⟨r, e, q⟩ := loopT_up (f := fun a => f_wicketref05_Is_L15 n s a.1.1 a.2)
    (fun j (a : (Int × Unit) × Heap) => a = (((j : Int), ()), h) ∧ Ris L j ∧ ∀ i, (h : i < L.length) → i < j → 0 ≤ L[i] ∧ L[i] < 64) (fun r => r = ((isB L, ()), h)) (N := L.length) (k := n) (j := 0) (a := ((0, ()), h)) (by omega) (by omega) ⟨rfl, fun i h1 _ h2 => by omega, fun i _ h => by omega⟩
    (fun j a hj hi => by
      obtain ⟨rfl, hi, hi2⟩ := hi
      have hlt : (j : Int) < (L.length : Int) := by omega
      obtain ⟨q, f1, f2⟩ := hr.int hj
      by_cases c1 : L[j] < 0
      · refine .inr ⟨((false, ()), h), by simp only [f_wicketref05_Is_L15, hr.lenB, hlt, decide_true, cond_true, f1, f2, Option.bind_some, c1], ?_⟩
        rw [isB_false (fun g => by
          have := g.2.2.1 (by omega)
          rcases Nat.eq_zero_or_pos j with rfl | h0
          · omega
          · have := g.lt hj h0; omega)]
      by_cases c2 : 64 ≤ L[j]
      · refine .inr ⟨((false, ()), h), by simp only [f_wicketref05_Is_L15, hr.lenB, hlt, decide_true, cond_true, f1, f2, Option.bind_some, c1, c2, decide_false, cond_false], ?_⟩
        rw [isB_false (fun g => by
          have := g.2.2.2.1 (by omega)
          by_cases h0 : j = L.length - 1
          · subst h0; omega
          · have := g.lt (j := L.length - 1) (i := j) (by omega) (by omega); omega)]
      rcases Nat.eq_zero_or_pos j with rfl | h0
      · refine .inl ⟨_, by simp only [f_wicketref05_Is_L15, hr.lenB, hlt, decide_true, cond_true, f1, f2, Option.bind_some, c1, c2, decide_false, cond_false, show (decide ((0 : Int) < ((0 : Nat) : Int))) = false from rfl, wrap_succ (show 0 < 4611686018427387904 by omega)], rfl, fun i g1 g2 g3 => by omega, fun i g1 g2 => ?_⟩
        obtain rfl : i = 0 := by omega
        omega
      · have hj0 : (0 : Int) < (j : Int) := by omega
        obtain ⟨q', f3, f4⟩ := hr.int (i := j - 1) (by omega)
        have hw1 : IntKind.i64.wrap ((j : Int) - 1) = ((j - 1 : Nat) : Int) := by rw [wrap_i64 (by omega) (by omega)]; omega
        by_cases hc : L[j] ≤ L[j - 1]
        · refine .inr ⟨((false, ()), h), by simp only [f_wicketref05_Is_L15, hr.lenB, hlt, decide_true, cond_true, f1, f2, hw1, f3, f4, Option.bind_some, c1, c2, hj0, hc, decide_false, cond_false], ?_⟩
          rw [isB_false (fun g => by have := g.2.2.2.2 j (by omega) (by omega); omega)]
        · refine .inl ⟨_, by simp only [f_wicketref05_Is_L15, hr.lenB, hlt, decide_true, cond_true, f1, f2, hw1, f3, f4, Option.bind_some, c1, c2, hj0, hc, decide_false, cond_false, wrap_succ (show j < 4611686018427387904 by omega)], rfl, fun i g1 g2 g3 => ?_, fun i g1 g2 => ?_⟩
          · by_cases hij : i < j
            · exact hi i g1 g2 hij
            · obtain rfl : i = j := by omega
              omega
          · by_cases hij : i < j
            · exact hi2 i g1 hij
            · obtain rfl : i = j := by omega
              omega)
    (fun a hi => by
      obtain ⟨rfl, hi, hi2⟩ := hi
      have hlt : ¬ (L.length : Int) < (L.length : Int) := by omega
      refine ⟨((true, ()), h), by simp only [f_wicketref05_Is_L15, hr.lenB, Option.bind_some, hlt, decide_false, cond_false], ?_⟩
      rw [isB_true ⟨by omega, by omega, fun h => (hi2 0 h h).1, fun h => (hi2 (L.length - 1) (by omega) (by omega)).2, fun j g1 g2 => hi j g1 g2 g2⟩])
  simp only [f_wicketref05_Is, hr.lenB, Option.bind_some, h1, h2, decide_false, cond_false, e, q]
theorem cloneI_ok (hr : Sow 1 s m cs G) (ho : Own h (G ++ F)) (hlen : m ≤ 1000000) :
    ∃ s' h' A', f_slices_Clone_int_int n s h = some ((s', ()), h') ∧ Slc 1 s' m cs A' ∧ Own h' (A' ++ (G ++ F)) := by
  obtain ⟨a, c, hf, hsrc⟩ := (hr.rds ho).src
  have hcl := (hr.rds ho).len
  subst hf
  cases a with
  | none =>
    have h1 : (some [] : Option (List Value)) = some cs := hsrc
    have h2 := Option.some.inj h1
    subst h2
    obtain rfl : m = 0 := by simpa using hcl.symm
    exact ⟨.slice none 0 0, h, [], by simp [f_slices_Clone_int_int, eqVals_slice_nil], .nil, ho⟩
  | some b =>
    have hs : Slc 1 (.slice (some ⟨h.next, 0, some 0⟩) 0 0) 0 [] [(h.next, .cells ([] ++ ([] ++ [])) false 1)] := .mk rfl rfl rfl
    have o1 := ho.new (.cells [] false 1)
    obtain ⟨s', h', A', e1, e2, e3⟩ := hr.app hs (F := F) (h := h.new (.cells [] false 1)) (o1.to fun x => by simp only [cnt_append, cnt_cons, cnt_nil, List.nil_append, List.append_nil]; omega) (by decide) (bytes := 8) (by omega)
    refine ⟨s', h', A', ?_, by simpa using e2, e3⟩
    have := e2.notT
    simp [f_slices_Clone_int_int, eqVals_slice_nil, e1, this]
end
end Go.Proofs.Ytpihoicfnolepaa

/- Buffers on both sides: made, written, read. -/
namespace Go.Proofs.Ytpihoicfnolepaa
open Go
set_option linter.unusedVariables false
set_option linter.unusedSimpArgs false
/-- A buffer. -/
def Bu (p : Nat) (L : List Int) (kv : List (Int × List Int)) (Lx : Ch) : Prop := ∃ s mb A, Slc 1 s L.length (iz .i64 L) A ∧ Good L ∧ Kv L kv ∧ Lx = (p, .cells [s, .map (some mb)] false 0) :: (mb, .map (bvs kv)) :: A
/-- The document's buffer. -/
def Rb (p : Nat) (L : List Int) (W : List (Int × List Int)) (Lx : Ch) : Prop := ∃ s w A B, Slc 1 s L.length (iz .i64 L) A ∧ Slc 33 w W.length (W.flatMap img) B ∧ Good L ∧ (∀ q ∈ W, q.2.length = 32) ∧ Lx = (p, .cells [s, w] false 0) :: (A ++ B)
def rdv (L : List Int) (o : Option (List Int)) (t : Int) : List Int := if t ∈ L then o.getD zero32 else zero32
def rdi (L : List Int) (o : Option (List Int)) (t : Int) : Bool := if t ∈ L then o.isSome else false
def rdc (L : List Int) (t : Int) : Int := if t ∈ L then 0 else 160
section
variable {n m i p k e b : Nat} {s u : Value} {L X Y w : List Int} {t z : Int} {h : Heap} {G F A B Lx : Ch} {cs xs : List Value} {kv W : List (Int × List Int)}
theorem zero_iz : (List.replicate 32 (Value.int .u8 0)) = iz .u8 zero32 := zero32_iz
theorem tmp32 (ho : Own h ((b, .cells xs false e) :: F)) (hx : xs.length = 32) (hw : w.length = 32) : ∃ h', stB 32 (.agg ⟨iz .u8 w⟩) h (some ⟨b, 0, none⟩) = some h' ∧ Own h' ((b, .cells (iz .u8 w) false e) :: F) ∧ ldA 32 h' (some ⟨b, 0, none⟩) = some (iz .u8 w) := by
  have h1 := stBA_of (sp := none) (o := 0) (sz := 32) (vs := iz .u8 w) ho.head (by simp; omega) iz_cell (by omega)
  have e1 : writeAt xs 0 (iz .u8 w) = iz .u8 w := by
    rw [writeAt_eq _ _ _ (by simp; omega)]
    rw [List.drop_of_length_le (by simp; omega)]; simp
  rw [e1] at h1
  have o1 := ho.put (.cells (iz .u8 w) false e)
  refine ⟨_, h1, o1, ?_⟩
  rw [ldA_of o1.head (by simp; omega), List.drop_zero, List.take_of_length_le (by simp; omega)]
theorem agg_cells {vs : List Value} : cellsOf (.agg ⟨vs⟩) = vs := rfl
theorem z33_fill3 {w : List Int} (hw : w.length = 32) : fillL [.int .i64 0, .int .u8 0, .int .u8 0, .int .u8 0, .int .u8 0, .int .u8 0, .int .u8 0, .int .u8 0, .int .u8 0, .int .u8 0, .int .u8 0, .int .u8 0, .int .u8 0, .int .u8 0, .int .u8 0, .int .u8 0, .int .u8 0, .int .u8 0, .int .u8 0, .int .u8 0, .int .u8 0, .int .u8 0, .int .u8 0, .int .u8 0, .int .u8 0, .int .u8 0, .int .u8 0, .int .u8 0, .int .u8 0, .int .u8 0, .int .u8 0, .int .u8 0, .int .u8 0] [(0, 1, .int .i64 t), (1, 32, .agg ⟨iz .u8 w⟩)] = some (img (t, w)) := by
  have h1 : cellsOf (.agg ⟨iz .u8 w⟩) = iz .u8 w := rfl
  have h2 : Nat.ble (1 + 32) 33 = true := rfl
  have hl : (iz .u8 w).length = 32 := by simp; omega
  have h3 : fillL [.int .i64 0, .int .u8 0, .int .u8 0, .int .u8 0, .int .u8 0, .int .u8 0, .int .u8 0, .int .u8 0, .int .u8 0, .int .u8 0, .int .u8 0, .int .u8 0, .int .u8 0, .int .u8 0, .int .u8 0, .int .u8 0, .int .u8 0, .int .u8 0, .int .u8 0, .int .u8 0, .int .u8 0, .int .u8 0, .int .u8 0, .int .u8 0, .int .u8 0, .int .u8 0, .int .u8 0, .int .u8 0, .int .u8 0, .int .u8 0, .int .u8 0, .int .u8 0, .int .u8 0] [(0, 1, .int .i64 t), (1, 32, .agg ⟨iz .u8 w⟩)] = fillL (img (t, List.replicate 32 0)) [(1, 32, .agg ⟨iz .u8 w⟩)] := rfl
  rw [h3]
  simp only [fillL, h1, iz_cell]
  rw [hl, img33]
  have h4 : writeAt (img (t, List.replicate 32 0)) 1 (iz .u8 w) = img (t, w) := by
    rw [writeAt_eq _ _ _ (by rw [img33, hl]; decide), hl]
    rw [List.drop_of_length_le (by rw [img33]; decide)]
    simp [img]
  rw [h4]; rfl
theorem isB_eq : isB L = true ↔ Good L := by
  by_cases h : Good L
  · simp [isB_true h, h]
  · simp [isB_false h, h]
theorem bnew_bad (hr : Rds h 1 u L.length (iz .i64 L)) (hn : 100 ≤ n) (hg : ¬ Good L) : f_buffer_New n u h = some ((none, (53, ())), h) := by
  simp only [f_buffer_New, is_ok hr hn, isB_false hg, Option.bind_some, Bool.not_false, cond_true]
theorem rnew_bad (hr : Rds h 1 u L.length (iz .i64 L)) (hn : 100 ≤ n) (hg : ¬ Good L) : f_wicketref16_New n u h = some ((none, (53, ())), h) := by
  simp only [f_wicketref16_New, ris_ok hr hn, isB_false hg, Option.bind_some, Bool.not_false, cond_true]
theorem bnew_ok (hu : Sow 1 u L.length (iz .i64 L) G) (ho : Own h (G ++ F)) (hn : 100 ≤ n) (hg : Good L) :
    ∃ p h' Lx, f_buffer_New n u h = some ((some ⟨p, 0, none⟩, (0, ())), h') ∧ Bu p L [] Lx ∧ Own h' (Lx ++ (G ++ F)) := by
  obtain ⟨s1, h1, A1, e1, a1, o1⟩ := cloneI_ok (n := n) hu ho (by have := hg.2.1; omega)
  have o2 := o1.new (.map (bvs []))
  generalize hb : h1.next = mb at o2
  generalize hh2 : h1.new (.map (bvs [])) = h2 at o2
  have o3 := o2.new (.cells [s1, .map (some mb)] false 0)
  refine ⟨h2.next, _, _, ?_, ⟨s1, mb, A1, a1, hg, ⟨List.nodup_nil, fun _ h => absurd h List.not_mem_nil, fun _ h => absurd h List.not_mem_nil⟩, rfl⟩, o3.to fun x => by simp only [cnt_append, cnt_cons, List.cons_append]; omega⟩
  have f1 : fillL [.slice none 0 0, .map none] [(0, 1, s1), (1, 1, .map (some mb))] = some [s1, .map (some mb)] := by obtain ⟨x, y, rfl⟩ := a1.form; rfl
  have hc : ([s1, .map (some mb)] : List Value).all isCell = true := by obtain ⟨x, y, rfl⟩ := a1.form; rfl
  have hh2 : h1.new (.map []) = h2 := hh2
  simp only [f_buffer_New, is_ok (hu.rds ho) hn, isB_true hg, Option.bind_some, Bool.not_true, cond_false, e1, bnd_eq, hb, hh2, f1, hc, cond_true, nwA_eq]
theorem rnew_ok (hu : Sow 1 u L.length (iz .i64 L) G) (ho : Own h (G ++ F)) (hn : 100 ≤ n) (hg : Good L) :
    ∃ p h' Lx, f_wicketref16_New n u h = some ((some ⟨p, 0, none⟩, (0, ())), h') ∧ Rb p L [] Lx ∧ Own h' (Lx ++ (G ++ F)) := by
  have o1 := ho.new (.cells [] false 1)
  have hs0 : Slc 1 (.slice (some ⟨h.next, 0, some 0⟩) 0 0) 0 [] [(h.next, .cells ([] ++ ([] ++ [])) false 1)] := .mk rfl rfl rfl
  generalize hb : h.next = b at hs0 o1
  generalize hh1 : h.new (.cells [] false 1) = h1 at o1
  obtain ⟨s2, h2, A2, e2, a2, o2⟩ := hu.app hs0 (F := F) (h := h1) (o1.to fun x => by simp only [cnt_append, cnt_cons, cnt_nil, List.nil_append, List.append_nil]; omega) (by decide) (bytes := 8) (by have := hg.2.1; omega)
  have a2 : Slc 1 s2 L.length (iz .i64 L) A2 := by simpa using a2
  have o3 := o2.new (.cells [s2, .slice none 0 0] false 0)
  refine ⟨h2.next, _, _, ?_, ⟨s2, .slice none 0 0, A2, [], a2, .nil, hg, fun _ h => absurd h List.not_mem_nil, rfl⟩, o3.to fun x => by simp only [cnt_append, cnt_cons, cnt_nil, List.cons_append]; omega⟩
  have f0 : fillL [] [] = some [] := rfl
  have f1 : fillL [.slice none 0 0, .slice none 0 0] [(0, 1, s2)] = some [s2, .slice none 0 0] := by obtain ⟨x, y, rfl⟩ := a2.form; rfl
  have hc : ([s2, .slice none 0 0] : List Value).all isCell = true := by obtain ⟨x, y, rfl⟩ := a2.form; rfl
  simp only [f_wicketref16_New, ris_ok (hu.rds ho) hn, isB_true hg, Option.bind_some, Bool.not_true, cond_false, f0, bnd_eq, hb, hh1, e2, f1, hc, cond_true, nwA_eq]
theorem refused_ok (hb : Bu p L kv Lx) (ho : Own h (Lx ++ F)) (hn : 100 ≤ n) : f_buffer_Buffer_refused n (some ⟨p, 0, none⟩) t h = some ((rdc L t, ()), h) := by
  obtain ⟨s, mb, A, a1, hg, hk, rfl⟩ := hb
  have l0 : ldT .any h (some ⟨p, 0, none⟩) = some s := by rw [ldT_of ho.head]; rfl
  have hh := has_ok (n := n) (t := t) (a1.rds (h := h) (F := (p, .cells [s, .map (some mb)] false 0) :: (mb, .map (bvs kv)) :: F) (ho.to fun x => by simp only [cnt_append, cnt_cons, List.cons_append]; omega)) (by have := hg.2.1; omega) (by have := hg.2.1; omega)
  by_cases ht : t ∈ L
  · simp only [f_buffer_Buffer_refused, Option.isNone_some, cond_false, Option.bind_some, fa_mk, Nat.zero_add, l0, hh, ht, decide_true, Bool.not_true, rdc, if_true]
  · simp only [f_buffer_Buffer_refused, Option.isNone_some, cond_false, Option.bind_some, fa_mk, Nat.zero_add, l0, hh, ht, decide_false, Bool.not_false, cond_true, rdc, if_false]
theorem upd_ok {mb : Nat} (hg : h.get mb = some (.map (bvs kv))) : mapUpdateK h .i64 (.map (some mb)) (.int .i64 t) (.agg ⟨iz .u8 w⟩) = some (undef, h.put mb (.map (bvs (putV t w kv)))) := by
  cases hx : vidx t kv 0 with
  | none => rw [mapUpdateK_none hg (by rw [findKv_bvs, hx]; rfl) rfl]; simp [putV, hx, bvs]
  | some p =>
    obtain ⟨i, b⟩ := p
    rw [mapUpdateK_some (i := i) (u := .agg ⟨iz .u8 b⟩) hg (by rw [findKv_bvs, hx]; rfl) rfl]; simp [putV, hx, bvs, List.map_set]
theorem lk_ok {mb : Nat} (hg : h.get mb = some (.map (bvs kv))) : lkT .any h .i64 (.agg ⟨iz .u8 zero32⟩) (.map (some mb)) t = some (.agg ⟨iz .u8 ((getV t kv).getD zero32)⟩, (getV t kv).isSome) := by
  simp only [lkT, hg, findKv_bvs]
  cases hx : vidx t kv 0 with
  | none => simp [getV, hx]
  | some p => obtain ⟨i, b⟩ := p; simp [getV, hx]
theorem bwrite_ok (hb : Bu p L kv Lx) (ho : Own h (Lx ++ F)) (hw : w.length = 32) (hn : 100 ≤ n) :
    ∃ h' Lx', f_buffer_Buffer_Write n (some ⟨p, 0, none⟩) t (.agg ⟨iz .u8 w⟩) h = some ((rdc L t, ()), h') ∧ Bu p L (if t ∈ L then putV t w kv else kv) Lx' ∧ Own h' (Lx' ++ F) := by
  have o1 := ho.new (.cells (iz .u8 w) false 0)
  generalize hb0 : h.next = b0 at o1
  generalize hh1 : h.new (.cells (iz .u8 w) false 0) = h1 at o1
  have er := refused_ok (n := n) (t := t) (h := h1) hb (F := (b0, .cells (iz .u8 w) false 0) :: F) (o1.to fun x => by simp only [cnt_append, cnt_cons, List.cons_append]; omega) hn
  obtain ⟨s, mb, A, a1, hg, hk, rfl⟩ := hb
  by_cases ht : t ∈ L
  · have hrc : rdc L t = 0 := by rw [rdc, if_pos ht]
    have l1 : ldT .any h1 (some ⟨p, 1, none⟩) = some (.map (some mb)) := by rw [ldT_of (o1.get (p, .cells [s, .map (some mb)] false 0) (by simp))]; rfl
    have l2 : ldA 32 h1 (some ⟨b0, 0, none⟩) = some (iz .u8 w) := by rw [ldA_of o1.head (by simp; omega), List.drop_zero, List.take_of_length_le (by simp; omega)]
    have o2 : Own h1 ((mb, .map (bvs kv)) :: ((p, .cells [s, .map (some mb)] false 0) :: (A ++ F))) := o1.to fun x => by simp only [cnt_append, cnt_cons, List.cons_append]; omega
    have e2 := upd_ok (t := t) (w := w) o2.head
    have o3 := o2.put (.map (bvs (putV t w kv)))
    refine ⟨_, _, ?_, ⟨s, mb, A, a1, hg, by rw [if_pos ht]; exact (hk.put ht hw).1, rfl⟩, by rw [if_pos ht]; exact o3.to fun x => by simp only [cnt_append, cnt_cons, List.cons_append]; omega⟩
    simp only [f_buffer_Buffer_Write, agg_cells, iz_cell, cond_true, bnd_eq, hb0, hh1, er, hrc, Option.bind_some, decide_true, Bool.not_true, cond_false, fa_mk, Nat.zero_add, l1, nwA_eq, l2, e2]
  · have hrc : rdc L t = 160 := by rw [rdc, if_neg ht]
    refine ⟨h1, _, ?_, ⟨s, mb, A, a1, hg, by rw [if_neg ht]; exact hk, rfl⟩, by rw [if_neg ht]; exact o1.to fun x => by simp only [cnt_append, cnt_cons, List.cons_append]; omega⟩
    simp only [f_buffer_Buffer_Write, agg_cells, iz_cell, cond_true, bnd_eq, hb0, hh1, er, hrc, Option.bind_some, show (decide ((160 : Int) = 0)) = false from rfl, Bool.not_false]
theorem bread_ok (hb : Bu p L kv Lx) (ho : Own h (Lx ++ F)) (hn : 100 ≤ n) :
    ∃ h', f_buffer_Buffer_Read n (some ⟨p, 0, none⟩) t h = some ((.agg ⟨iz .u8 (rdv L (getV t kv) t)⟩, (rdi L (getV t kv) t, (rdc L t, ()))), h') ∧ Own h' (Lx ++ F) := by
  have o1 := ho.new (.cells (iz .u8 zero32) false 0)
  generalize hb0 : h.next = b0 at o1
  generalize hh1 : h.new (.cells (iz .u8 zero32) false 0) = h1 at o1
  have er := refused_ok (n := n) (t := t) (h := h1) hb (F := (b0, .cells (iz .u8 zero32) false 0) :: F) (o1.to fun x => by simp only [cnt_append, cnt_cons, List.cons_append]; omega) hn
  have f0 : fillL (iz .u8 zero32) [] = some (iz .u8 zero32) := rfl
  have hz : (iz .u8 zero32).length = 32 := by simp [zero32_length]
  by_cases ht : t ∈ L
  · have hrc : rdc L t = 0 := by rw [rdc, if_pos ht]
    rw [rdv, rdi, if_pos ht, if_pos ht]
    obtain ⟨s, mb, A, a1, hg, hk, rfl⟩ := hb
    have l1 : ldT .any h1 (some ⟨p, 1, none⟩) = some (.map (some mb)) := by rw [ldT_of (o1.get (p, .cells [s, .map (some mb)] false 0) (by simp))]; rfl
    have e2 := lk_ok (t := t) (o1.get (mb, .map (bvs kv)) (by simp))
    have hwl := getV_len' (t := t) hk
    generalize (getV t kv).getD zero32 = w at e2 hwl
    obtain ⟨h2, s2, o2, l2⟩ := tmp32 o1 hz hwl
    obtain ⟨h3, s3, o3, l3⟩ := tmp32 o2 (by simp; omega) hwl
    refine ⟨h3, ?_, o3.tail⟩
    simp only [f_buffer_Buffer_Read, zero_iz, bnd_eq, hb0, hh1, er, hrc, Option.bind_some, decide_true, Bool.not_true, cond_false, fa_mk, Nat.zero_add, l1, nwA_eq, e2, s2, l2, s3, l3]
  · have hrc : rdc L t = 160 := by rw [rdc, if_neg ht]
    rw [rdv, rdi, if_neg ht, if_neg ht]
    obtain ⟨h2, s2, o2, l2⟩ := tmp32 o1 hz zero32_length
    refine ⟨h2, ?_, o2.tail⟩
    simp only [f_buffer_Buffer_Read, zero_iz, bnd_eq, hb0, hh1, er, hrc, Option.bind_some, show (decide ((160 : Int) = 0)) = false from rfl, Bool.not_false, cond_true, f0, nwA_eq, s2, l2]

theorem img_ld {q : Addr} {pr : Int × List Int} (ha : At h q (img pr)) (hp : pr.2.length = 32) : ldT (.int .i64) h (some (fa q 0)) = some pr.1 ∧ ldA 32 h (some (fa q 1)) = some (iz .u8 pr.2) ∧ ldA 33 h (some q) = some (img pr) := by
  refine ⟨?_, ?_, ?_⟩
  · rw [ha.ldT (v := .int .i64 pr.1) rfl]; simp
  · rw [ha.ldA (by rw [img_length hp]; decide)]
    simp only [img, List.drop_succ_cons, List.drop_zero]
    rw [List.take_of_length_le (by simp; omega)]
  · rw [ha.ldA0 (by rw [img_length hp]; exact Nat.le_refl _), List.take_of_length_le (by rw [img_length hp]; exact Nat.le_refl _)]
theorem rwrite_ok (hb : Rb p L W Lx) (ho : Own h (Lx ++ F)) (hw : w.length = 32) (hW : W.length ≤ 100000) (hn : 100 ≤ n) :
    ∃ h' Lx', f_wicketref16_Buffer_Write n (some ⟨p, 0, none⟩) t (.agg ⟨iz .u8 w⟩) h = some ((rdc L t, ()), h') ∧ Rb p L (if t ∈ L then W ++ [(t, w)] else W) Lx' ∧ Own h' (Lx' ++ F) := by
  obtain ⟨s, wv, A, B, a1, a2, hg, hk, rfl⟩ := hb
  have o1 := ho.new (.cells (iz .u8 w) false 0)
  generalize hb0 : h.next = b0 at o1
  generalize hh1 : h.new (.cells (iz .u8 w) false 0) = h1 at o1
  have l0 : ldT .any h1 (some ⟨p, 0, none⟩) = some s := by rw [ldT_of (o1.get (p, .cells [s, wv] false 0) (by simp))]; rfl
  have l1 : ldT .any h1 (some ⟨p, 1, none⟩) = some wv := by rw [ldT_of (o1.get (p, .cells [s, wv] false 0) (by simp))]; rfl
  have hh := rhas_ok (n := n) (t := t) (a1.rds (h := h1) (F := (b0, .cells (iz .u8 w) false 0) :: (p, .cells [s, wv] false 0) :: (B ++ F)) (o1.to fun x => by simp only [cnt_append, cnt_cons, List.cons_append]; omega)) (by have := hg.2.1; omega) (by have := hg.2.1; omega)
  by_cases ht : t ∈ L
  · have l2 : ldA 32 h1 (some ⟨b0, 0, none⟩) = some (iz .u8 w) := by rw [ldA_of o1.head (by simp; omega), List.drop_zero, List.take_of_length_le (by simp; omega)]
    obtain ⟨v3, h3, B3, e3, a3, o3⟩ := a2.push (new := img (t, w)) (h := h1) (F := (b0, .cells (iz .u8 w) false 0) :: (p, .cells [s, wv] false 0) :: (A ++ F)) (o1.to fun x => by simp only [cnt_append, cnt_cons, List.cons_append]; omega) (by decide) (img_length hw) (bytes := 40) (by omega)
    have o3' : Own h3 ((p, .cells [s, wv] false 0) :: (B3 ++ (A ++ F))) := o3.to fun x => by simp only [cnt_append, cnt_cons]; omega
    have s4 := stB1_of (sp := none) (o := 1) (v := v3) o3'.head a3.cellsOf a3.isCell (by simp)
    have o4 := o3'.put (.cells ([s, wv].set 1 v3) false 0)
    have o4 : Own _ ((p, .cells [s, v3] false 0) :: (B3 ++ (A ++ F))) := o4
    rw [rdc, if_pos ht, if_pos ht]
    refine ⟨_, _, ?_, ⟨s, v3, A, B3, a1, by simpa using a3, hg, fun q hq => ?_, rfl⟩, o4.to fun x => by simp only [cnt_append, cnt_cons, List.cons_append]; omega⟩
    · simp only [f_wicketref16_Buffer_Write, agg_cells, iz_cell, cond_true, bnd_eq, hb0, hh1, Option.bind_some, fa_mk, Nat.zero_add, l0, hh, ht, decide_true, Bool.not_true, cond_false, l1, nwA_eq, l2, z33_fill3 hw, z33_fill2 (p := (t, w)) hw, e3, s4]
    · rcases List.mem_append.1 hq with hq | hq
      · exact hk q hq
      · rw [List.mem_singleton.1 hq]; exact hw
  · rw [rdc, if_neg ht, if_neg ht]
    refine ⟨h1, _, ?_, ⟨s, wv, A, B, a1, a2, hg, hk, rfl⟩, o1.tail⟩
    simp only [f_wicketref16_Buffer_Write, agg_cells, iz_cell, cond_true, bnd_eq, hb0, hh1, Option.bind_some, fa_mk, Nat.zero_add, l0, hh, ht, decide_false, Bool.not_false]
theorem rread_ok (hb : Rb p L W Lx) (ho : Own h (Lx ++ F)) (hW : W.length ≤ 100000) (hn : W.length + 100 ≤ n) :
    ∃ h', f_wicketref16_Buffer_Read n (some ⟨p, 0, none⟩) t h = some ((.agg ⟨iz .u8 (rdv L (lastW t W) t)⟩, (rdi L (lastW t W) t, (rdc L t, ()))), h') ∧ Own h' (Lx ++ F) := by
  obtain ⟨s, wv, A, B, a1, a2, hg, hk, rfl⟩ := hb
  have o1 := ho.new (.cells (iz .u8 zero32) false 0)
  generalize hb0 : h.next = b0 at o1
  generalize hh1 : h.new (.cells (iz .u8 zero32) false 0) = h1 at o1
  have l0 : ldT .any h1 (some ⟨p, 0, none⟩) = some s := by rw [ldT_of (o1.get (p, .cells [s, wv] false 0) (by simp))]; rfl
  have l1 : ldT .any h1 (some ⟨p, 1, none⟩) = some wv := by rw [ldT_of (o1.get (p, .cells [s, wv] false 0) (by simp))]; rfl
  have hh := rhas_ok (n := n) (t := t) (a1.rds (h := h1) (F := (b0, .cells (iz .u8 zero32) false 0) :: (p, .cells [s, wv] false 0) :: (B ++ F)) (o1.to fun x => by simp only [cnt_append, cnt_cons, List.cons_append]; omega)) (by have := hg.2.1; omega) (by have := hg.2.1; omega)
  have f0 : fillL (iz .u8 zero32) [] = some (iz .u8 zero32) := rfl
  have hz : (iz .u8 zero32).length = 32 := by simp [zero32_length]
  by_cases ht : t ∈ L
  · rw [rdv, rdi, rdc, if_pos ht, if_pos ht, if_pos ht]
    have hr := a2.rds (h := h1) (F := (b0, .cells (iz .u8 zero32) false 0) :: (p, .cells [s, wv] false 0) :: (A ++ F)) (o1.to fun x => by simp only [cnt_append, cnt_cons, List.cons_append]; omega)
    obtain ⟨r, e, q⟩ := loopT_up (f := fun a => f_wicketref16_Buffer_Read_L23 n h t (some ⟨p, 0, none⟩) a.1.1 a.2)
      (fun j (a : (Int × Unit) × Heap) => a = ((((W.length : Int) - 1 - (j : Int)), ()), h1) ∧ lastW t (W.take (W.length - j)) = lastW t W)
      (fun r => (lastW t W = none ∧ r = .inl ((), h1)) ∨ ∃ w h2, lastW t W = some w ∧ r = .inr ((.agg ⟨iz .u8 w⟩, (true, (0, ()))), h2) ∧ Own h2 ((p, .cells [s, wv] false 0) :: (A ++ B) ++ F)) (N := W.length) (k := n) (j := 0) (a := ((((W.length : Int) - 1), ()), h1)) (by omega) (by omega) ⟨by simp, by simp⟩
      (fun j a hj hi => by
        obtain ⟨rfl, hi⟩ := hi
        have hlt : (0 : Int) ≤ (W.length : Int) - 1 - (j : Int) := by omega
        obtain ⟨i, hi2, hil⟩ : ∃ i : Nat, (W.length : Int) - 1 - (j : Int) = (i : Int) ∧ W.length - j = i + 1 := ⟨W.length - 1 - j, by omega, by omega⟩
        have hiW : i < W.length := by omega
        obtain ⟨q, e1, e2⟩ := hr.ix i hiW
        rw [flat_get (imgs_flen hk) hiW] at e2
        obtain ⟨g1, g2, g3⟩ := img_ld e2 (hk _ (List.getElem_mem hiW))
        rw [hil, take_snoc hiW, lastW_snoc] at hi
        by_cases hc : W[i].1 = t
        · rw [if_pos hc] at hi
          obtain ⟨h2, s2, o2, l2⟩ := tmp32 o1 hz (hk _ (List.getElem_mem hiW))
          refine .inr ⟨_, ?_, .inr ⟨W[i].2, h2, hi.symm, rfl, o2.tail⟩⟩
          rw [hi2]
          simp only [f_wicketref16_Buffer_Read_L23, show (decide ((0 : Int) ≤ (i : Int))) = true from decide_eq_true (by omega), cond_true, Option.bind_some, fa_mk, Nat.zero_add, l1, e1, g1, hc, decide_true, g2, nwA_eq, hb0, s2, l2, Option.map_some]
        · rw [if_neg hc] at hi
          refine .inl ⟨((((W.length : Int) - 1 - ((j + 1 : Nat) : Int)), ()), h1), ?_, rfl, ?_⟩
          · rw [hi2]
            have hw1 : IntKind.i64.wrap ((i : Int) - 1) = (W.length : Int) - 1 - ((j + 1 : Nat) : Int) := by rw [wrap_i64 (by omega) (by omega)]; omega
            simp only [f_wicketref16_Buffer_Read_L23, show (decide ((0 : Int) ≤ (i : Int))) = true from decide_eq_true (by omega), cond_true, Option.bind_some, fa_mk, Nat.zero_add, l1, e1, g1, hc, decide_false, cond_false, hw1]
          · rw [show W.length - (j + 1) = i by omega]; exact hi)
      (fun a hi => by
        obtain ⟨rfl, hi⟩ := hi
        have hlt : ¬ (0 : Int) ≤ (W.length : Int) - 1 - (W.length : Int) := by omega
        refine ⟨.inl ((), h1), by simp only [f_wicketref16_Buffer_Read_L23, hlt, decide_false, cond_false], .inl ⟨?_, rfl⟩⟩
        rw [← hi]; simp [lastW])
    have hw0 : IntKind.i64.wrap ((W.length : Int) - 1) = (W.length : Int) - 1 := wrap_i64 (by omega) (by omega)
    have e : f_wicketref16_Buffer_Read_C24 n h t (some ⟨p, 0, none⟩) h1 = some r := by
      simp only [f_wicketref16_Buffer_Read_C24, Option.bind_some, fa_mk, Nat.zero_add, l1, a2.lenB, hw0]
      exact e
    rcases q with ⟨hq, rfl⟩ | ⟨w, h2, hq, rfl, o2⟩
    · rw [hq]
      obtain ⟨h2, s2, o2, l2⟩ := tmp32 o1 hz zero32_length
      refine ⟨h2, ?_, o2.tail⟩
      simp only [f_wicketref16_Buffer_Read, zero_iz, bnd_eq, hb0, hh1, Option.bind_some, fa_mk, Nat.zero_add, l0, hh, ht, decide_true, Bool.not_true, cond_false, e, thenB_inl, f0, nwA_eq, s2, l2, Option.getD_none, Option.isSome_none]
    · rw [hq]
      refine ⟨h2, ?_, o2⟩
      simp only [f_wicketref16_Buffer_Read, zero_iz, bnd_eq, hb0, hh1, Option.bind_some, fa_mk, Nat.zero_add, l0, hh, ht, decide_true, Bool.not_true, cond_false, e, thenB_inr, Option.getD_some, Option.isSome_some]
  · rw [rdv, rdi, rdc, if_neg ht, if_neg ht, if_neg ht]
    obtain ⟨h2, s2, o2, l2⟩ := tmp32 o1 hz zero32_length
    refine ⟨h2, ?_, o2.tail⟩
    simp only [f_wicketref16_Buffer_Read, zero_iz, bnd_eq, hb0, hh1, Option.bind_some, fa_mk, Nat.zero_add, l0, hh, ht, decide_false, Bool.not_false, cond_true, f0, nwA_eq, s2, l2]
end
end Go.Proofs.Ytpihoicfnolepaa

/- Buffers on both sides: images, forms. -/
namespace Go.Proofs.Ytpihoicfnolepaa
open Go
set_option linter.unusedVariables false
set_option linter.unusedSimpArgs false
section
variable {n m i p k e b : Nat} {s u : Value} {L X Y w : List Int} {t z : Int} {h : Heap} {G F A B Lx : Ch} {cs xs : List Value} {kv W M : List (Int × List Int)}
theorem same16_ok (hM : ∀ q ∈ M, q.2.length = 32) (hr : Rds h 33 s M.length (M.flatMap img)) (hr2 : Rds h 33 u M.length (M.flatMap img)) (hn : M.length + 1 ≤ n) (hl : M.length < 4611686018427387904) : f_wicketref16_Same n s u h = some ((true, ()), h) := by
  obtain ⟨r, e, q⟩ := loopT_up (f := fun a => f_wicketref16_Same_L10 n u s a.1.1 a.2)
    (fun j (a : (Int × Unit) × Heap) => a = (((j : Int), ()), h)) (fun r => r = ((true, ()), h)) (N := M.length) (k := n) (j := 0) (a := ((0, ()), h)) (by omega) (by omega) rfl
    (fun j a hj hi => by
      subst hi
      have hlt : (j : Int) < (M.length : Int) := by omega
      obtain ⟨q, e1, e2⟩ := hr.ix j hj
      obtain ⟨q', e3, e4⟩ := hr2.ix j hj
      rw [flat_get (imgs_flen hM) hj] at e2 e4
      have hl := hM _ (List.getElem_mem hj)
      have ev := img_eqV (h := h) hl hl
      rw [decide_eq_true rfl] at ev
      exact .inl ⟨_, by simp only [f_wicketref16_Same_L10, hr.lenB, hlt, decide_true, cond_true, e1, (img_ld e2 hl).2.2, e3, (img_ld e4 hl).2.2, ev, Option.bind_some, Bool.not_true, cond_false, wrap_succ (show j < 4611686018427387904 by omega)], rfl⟩)
    (fun a hi => by
      subst hi
      have hlt : ¬ (M.length : Int) < (M.length : Int) := by omega
      exact ⟨_, by simp only [f_wicketref16_Same_L10, hr.lenB, Option.bind_some, hlt, decide_false, cond_false], rfl⟩)
  simp only [f_wicketref16_Same, hr.lenB, hr2.lenB, Option.bind_some, decide_true, Bool.not_true, cond_false, e, q]
theorem blen_ok (hb : Bu p L kv Lx) (ho : Own h (Lx ++ F)) : f_buffer_Buffer_Len n (some ⟨p, 0, none⟩) h = some (((kv.length : Int), ()), h) := by
  obtain ⟨s, mb, A, a1, hg, hk, rfl⟩ := hb
  have l1 : ldT .any h (some ⟨p, 1, none⟩) = some (.map (some mb)) := by rw [ldT_of ho.head]; rfl
  have g1 := ho.get (mb, .map (bvs kv)) (by simp)
  have l2 : lenMB h (.map (some mb)) = some kv.length := by simp only [lenMB, g1]; simp [bvs]
  simp only [f_buffer_Buffer_Len, Option.isNone_some, cond_false, Option.bind_some, fa_mk, Nat.zero_add, l1, l2]
theorem bform_ok (hb : Bu p L kv Lx) (ho : Own h (Lx ++ F)) : ∃ s h' A', f_buffer_Buffer_Form n (some ⟨p, 0, none⟩) h = some ((s, ()), h') ∧ Slc 1 s L.length (iz .i64 L) A' ∧ Own h' (A' ++ (Lx ++ F)) := by
  obtain ⟨s, mb, A, a1, hg, hk, rfl⟩ := hb
  have l0 : ldT .any h (some ⟨p, 0, none⟩) = some s := by rw [ldT_of ho.head]; rfl
  obtain ⟨s1, h1, A1, e1, a2, o1⟩ := cloneI_ok (n := n) a1.sow (h := h) (F := (p, .cells [s, .map (some mb)] false 0) :: (mb, .map (bvs kv)) :: F) (ho.to fun x => by simp only [cnt_append, cnt_cons, List.cons_append]; omega) (by have := hg.2.1; omega)
  refine ⟨s1, h1, A1, ?_, a2, o1.to fun x => by simp only [cnt_append, cnt_cons, List.cons_append]; omega⟩
  simp only [f_buffer_Buffer_Form, Option.isNone_some, cond_false, Option.bind_some, fa_mk, Nat.zero_add, l0, e1, a2.notT, Bool.not_false, cond_true]
theorem bimages_ok (hb : Bu p L kv Lx) (ho : Own h (Lx ++ F)) (hn : 100 ≤ n) :
    ∃ s h' A', f_buffer_Buffer_Images n (some ⟨p, 0, none⟩) h = some ((s, ()), h') ∧ Slc 33 s (imgs L kv).length ((imgs L kv).flatMap img) A' ∧ Own h' (A' ++ (Lx ++ F)) := by
  obtain ⟨s, mb, A, a1, hg, hk, rfl⟩ := hb
  have hL := hg.2.1
  have l0 : ldT .any h (some ⟨p, 0, none⟩) = some s := by rw [ldT_of ho.head]; rfl
  have hz : (iz .u8 zero32).length = 32 := by simp [zero32_length]
  obtain ⟨⟨⟨s', _⟩, h'⟩, e, A', q1, q2⟩ := loopT_up (f := fun a => f_buffer_Buffer_Images_L19 n (some ⟨p, 0, none⟩) s L.length a.1.1 a.1.2.1 a.2)
    (fun j (a : (Value × Int × Unit) × Heap) => a.1.2.1 = (j : Int) ∧ ∃ A', Slc 33 a.1.1 (imgs (L.take j) kv).length ((imgs (L.take j) kv).flatMap img) A' ∧ Own a.2 (A' ++ ((p, .cells [s, .map (some mb)] false 0) :: (mb, .map (bvs kv)) :: (A ++ F))))
    (fun r => ∃ A', Slc 33 r.1.1 (imgs L kv).length ((imgs L kv).flatMap img) A' ∧ Own r.2 (A' ++ ((p, .cells [s, .map (some mb)] false 0) :: (mb, .map (bvs kv)) :: (A ++ F)))) (N := L.length) (k := n) (j := 0) (a := ((.slice none 0 0, (0, ())), h)) (by omega) (by omega)
    ⟨rfl, [], .nil, ho⟩
    (fun j a hj hi => by
      obtain ⟨⟨v, i0, _⟩, h1⟩ := a
      obtain ⟨e0, A', i1, i2⟩ := hi
      have e0 : i0 = (j : Int) := e0
      subst e0
      have i1 : Slc 33 v _ _ A' := i1
      have i2 : Own h1 _ := i2
      have hlt : (j : Int) < (L.length : Int) := by omega
      have ra := a1.rds (h := h1) (F := A' ++ ((p, .cells [s, .map (some mb)] false 0) :: (mb, .map (bvs kv)) :: F)) (i2.to fun x => by simp only [cnt_append, cnt_cons]; omega)
      obtain ⟨q, e1, e2⟩ := ra.int hj
      have l1 : ldT .any h1 (some ⟨p, 1, none⟩) = some (.map (some mb)) := by rw [ldT_of (i2.get (p, .cells [s, .map (some mb)] false 0) (by simp))]; rfl
      have e3 := lk_ok (t := L[j]) (i2.get (mb, .map (bvs kv)) (by simp))
      have hwl := getV_len' (t := L[j]) hk
      have o1 := i2.new (.cells (iz .u8 zero32) false 0)
      generalize hb0 : h1.next = b0 at o1
      generalize hh1 : h1.new (.cells (iz .u8 zero32) false 0) = h2 at o1
      obtain ⟨h3, s3, o3, l3⟩ := tmp32 o1 hz hwl
      have hst := imgs_step (kv := kv) hj
      have hle : (imgs (L.take j) kv).length ≤ 16 := Nat.le_trans (imgs_le) (by rw [List.length_take]; omega)
      cases hv : getV L[j] kv with
      | none =>
        rw [hv] at hst e3 s3
        rw [List.append_nil] at hst
        refine .inl ⟨((v, (((j + 1 : Nat) : Int), ())), h3), ?_, rfl, A', by rw [hst]; exact i1, o3.tail⟩
        simp only [f_buffer_Buffer_Images_L19, hlt, decide_true, cond_true, e1, e2, Option.bind_some, fa_mk, Nat.zero_add, l1, zero_iz, e3, bnd_eq, nwA_eq, hb0, hh1, s3, Option.isSome_none, cond_false, wrap_succ (show j < 4611686018427387904 by omega)]
      | some w =>
        rw [hv] at hst e3 s3 l3 o3 hwl
        simp only [Option.getD_some, Option.isSome_some] at hst e3 s3 l3 o3 hwl
        obtain ⟨v4, h4, A4, e4, a4, o4⟩ := i1.push (new := img (L[j], w)) (h := h3) (F := (b0, .cells (iz .u8 w) false 0) :: ((p, .cells [s, .map (some mb)] false 0) :: (mb, .map (bvs kv)) :: (A ++ F))) (o3.to fun x => by simp only [cnt_append, cnt_cons]; omega) (by decide) (img_length hwl) (bytes := 40) (by omega)
        refine .inl ⟨((v4, (((j + 1 : Nat) : Int), ())), h4), ?_, rfl, A4, ?_, o4.to fun x => by simp only [cnt_append, cnt_cons]; omega⟩
        · simp only [f_buffer_Buffer_Images_L19, hlt, decide_true, cond_true, e1, e2, Option.bind_some, fa_mk, Nat.zero_add, l1, zero_iz, e3, bnd_eq, nwA_eq, hb0, hh1, s3, l3, z33_fill3 hwl, z33_fill2 (p := (L[j], w)) hwl, e4, wrap_succ (show j < 4611686018427387904 by omega)]
        · rw [hst]; simpa using a4)
    (fun a hi => by
      obtain ⟨⟨v, i0, _⟩, h1⟩ := a
      obtain ⟨e0, A', i1, i2⟩ := hi
      have e0 : i0 = ((L.length : Nat) : Int) := e0
      subst e0
      have i1 : Slc 33 v _ _ A' := i1
      rw [List.take_length] at i1
      have hlt : ¬ (L.length : Int) < (L.length : Int) := by omega
      exact ⟨((v, ()), h1), by simp only [f_buffer_Buffer_Images_L19, hlt, decide_false, cond_false, i1.notT, Bool.not_false, cond_true, Option.map_some], A', i1, i2⟩)
  have q2 : Own h' _ := q2
  have q1 : Slc 33 s' _ _ A' := q1
  refine ⟨s', h', A', ?_, q1, q2.to fun x => by simp only [cnt_append, cnt_cons, List.cons_append]; omega⟩
  simp only [f_buffer_Buffer_Images, Option.isNone_some, cond_false, Option.bind_some, fa_mk, Nat.zero_add, l0, a1.lenB, e]
theorem rimages_ok (hb : Rb p L W Lx) (ho : Own h (Lx ++ F)) (hW : W.length ≤ 100000) (hn : W.length + 100 ≤ n) :
    ∃ s h' A', f_wicketref16_Buffer_Images n (some ⟨p, 0, none⟩) h = some ((s, ()), h') ∧ Slc 33 s (imgsW L W).length ((imgsW L W).flatMap img) A' ∧ Own h' (A' ++ (Lx ++ F)) := by
  have hb' := hb
  obtain ⟨s, wv, A, B, a1, a2, hg, hk, hLx⟩ := hb'
  have hL := hg.2.1
  have hz : (iz .u8 zero32).length = 32 := by simp [zero32_length]
  have lds : ∀ {h1 : Heap} {F1 : Ch}, Own h1 (Lx ++ F1) → ldT .any h1 (some ⟨p, 0, none⟩) = some s ∧ Rds h1 1 s L.length (iz .i64 L) := fun {h1 F1} o => by
    rw [hLx] at o
    exact ⟨by rw [ldT_of o.head]; rfl, a1.rds (F := (p, .cells [s, wv] false 0) :: (B ++ F1)) (o.to fun x => by simp only [cnt_append, cnt_cons, List.cons_append]; omega)⟩
  obtain ⟨⟨⟨s', _⟩, h'⟩, e, A', q1, q2⟩ := loopT_up (f := fun a => f_wicketref16_Buffer_Images_L23 n (some ⟨p, 0, none⟩) a.1.1 a.1.2.1 a.2)
    (fun j (a : (Value × Int × Unit) × Heap) => a.1.2.1 = (j : Int) ∧ ∃ A', Slc 33 a.1.1 (imgsW (L.take j) W).length ((imgsW (L.take j) W).flatMap img) A' ∧ Own a.2 (A' ++ (Lx ++ F)))
    (fun r => ∃ A', Slc 33 r.1.1 (imgsW L W).length ((imgsW L W).flatMap img) A' ∧ Own r.2 (A' ++ (Lx ++ F))) (N := L.length) (k := n) (j := 0) (a := ((.slice none 0 0, (0, ())), h)) (by omega) (by omega)
    ⟨rfl, [], .nil, ho⟩
    (fun j a hj hi => by
      obtain ⟨⟨v, i0, _⟩, h1⟩ := a
      obtain ⟨e0, A', i1, i2⟩ := hi
      have e0 : i0 = (j : Int) := e0
      subst e0
      have i1 : Slc 33 v _ _ A' := i1
      have i2 : Own h1 _ := i2
      have hlt : (j : Int) < (L.length : Int) := by omega
      obtain ⟨l0, ra⟩ := lds (h1 := h1) (F1 := A' ++ F) (i2.to fun x => by simp only [cnt_append]; omega)
      obtain ⟨q, e1, e2⟩ := ra.int hj
      obtain ⟨h2, e3, o3⟩ := rread_ok (n := n) (t := L[j]) hb (h := h1) (F := A' ++ F) (i2.to fun x => by simp only [cnt_append]; omega) hW hn
      have hmem : L[j] ∈ L := List.getElem_mem hj
      rw [rdv, rdi, if_pos hmem, if_pos hmem] at e3
      have hwl := lastW_len' (t := L[j]) hk
      have o4 := o3.new (.cells (iz .u8 zero32) false 0)
      generalize hb0 : h2.next = b0 at o4
      generalize hh1 : h2.new (.cells (iz .u8 zero32) false 0) = h4 at o4
      obtain ⟨h5, s5, o5, l5⟩ := tmp32 o4 hz hwl
      have hst := imgsW_step (W := W) hj
      have hle : (imgsW (L.take j) W).length ≤ 16 := Nat.le_trans (List.length_filterMap_le _ _) (by rw [List.length_take]; omega)
      cases hv : lastW L[j] W with
      | none =>
        rw [hv] at hst e3 s5
        rw [List.append_nil] at hst
        refine .inl ⟨((v, (((j + 1 : Nat) : Int), ())), h5), ?_, rfl, A', by rw [hst]; exact i1, o5.to fun x => by simp only [cnt_append, cnt_cons]; omega⟩
        simp only [f_wicketref16_Buffer_Images_L23, Option.bind_some, fa_mk, Nat.zero_add, l0, a1.lenB, hlt, decide_true, cond_true, e1, e2, e3, bnd_eq, zero_iz, nwA_eq, hb0, hh1, s5, Option.isSome_none, cond_false, wrap_succ (show j < 4611686018427387904 by omega)]
      | some w =>
        rw [hv] at hst e3 s5 l5 o5 hwl
        simp only [Option.getD_some, Option.isSome_some] at hst e3 s5 l5 o5 hwl
        obtain ⟨l6, ra6⟩ := lds (h1 := h5) (F1 := (b0, .cells (iz .u8 w) false 0) :: (A' ++ F)) (o5.to fun x => by simp only [cnt_append, cnt_cons]; omega)
        obtain ⟨q6, e6, e7⟩ := ra6.int hj
        obtain rfl : q = q6 := by rw [e1] at e6; exact Option.some.inj e6
        obtain ⟨v4, h8, A4, e8, a4, o8⟩ := i1.push (new := img (L[j], w)) (h := h5) (F := (b0, .cells (iz .u8 w) false 0) :: (Lx ++ F)) (o5.to fun x => by simp only [cnt_append, cnt_cons]; omega) (by decide) (img_length hwl) (bytes := 40) (by omega)
        refine .inl ⟨((v4, (((j + 1 : Nat) : Int), ())), h8), ?_, rfl, A4, ?_, o8.to fun x => by simp only [cnt_append, cnt_cons]; omega⟩
        · simp only [f_wicketref16_Buffer_Images_L23, Option.bind_some, fa_mk, Nat.zero_add, l0, a1.lenB, hlt, decide_true, cond_true, e1, e2, e3, bnd_eq, zero_iz, nwA_eq, hb0, hh1, s5, l6, e7, l5, z33_fill3 hwl, z33_fill2 (p := (L[j], w)) hwl, e8, wrap_succ (show j < 4611686018427387904 by omega)]
        · rw [hst]; simpa using a4)
    (fun a hi => by
      obtain ⟨⟨v, i0, _⟩, h1⟩ := a
      obtain ⟨e0, A', i1, i2⟩ := hi
      have e0 : i0 = ((L.length : Nat) : Int) := e0
      subst e0
      have i1 : Slc 33 v _ _ A' := i1
      have i2 : Own h1 _ := i2
      rw [List.take_length] at i1
      have hlt : ¬ (L.length : Int) < (L.length : Int) := by omega
      obtain ⟨l0, ra⟩ := lds (h1 := h1) (F1 := A' ++ F) (i2.to fun x => by simp only [cnt_append]; omega)
      exact ⟨((v, ()), h1), by simp only [f_wicketref16_Buffer_Images_L23, Option.bind_some, fa_mk, Nat.zero_add, l0, a1.lenB, hlt, decide_false, cond_false, i1.notT, Bool.not_false, cond_true, Option.map_some], A', i1, i2⟩)
  exact ⟨s', h', A', e, q1, q2⟩
end
end Go.Proofs.Ytpihoicfnolepaa

/- Buffers on both sides: copies; marked lists. -/
namespace Go.Proofs.Ytpihoicfnolepaa
open Go
set_option linter.unusedVariables false
set_option linter.unusedSimpArgs false
section
variable {n m i p k e b : Nat} {s u : Value} {L X Y w : List Int} {t z : Int} {h : Heap} {G F A B Lx : Ch} {cs xs : List Value} {kv W M : List (Int × List Int)}
theorem bcopy_ok (hb : Bu p L kv Lx) (ho : Own h (Lx ++ F)) : ∃ p' h' L', f_buffer_Buffer_Copy n (some ⟨p, 0, none⟩) h = some ((some ⟨p', 0, none⟩, ()), h') ∧ Bu p' L kv L' ∧ Own h' (L' ++ (Lx ++ F)) := by
  obtain ⟨s, mb, A, a1, hg, hk, rfl⟩ := hb
  have o0 : Own h ((p, .cells [s, .map (some mb)] false 0) :: (A ++ ((mb, .map (bvs kv)) :: F))) := ho.to fun x => by simp only [cnt_append, cnt_cons, List.cons_append]; omega
  have hg0 := o0.head
  have l0 : ldT .any h (some ⟨p, 0, none⟩) = some s := by rw [ldT_of hg0]; rfl
  have l1 : ldT .any h (some ⟨p, 1, none⟩) = some (.map (some mb)) := by rw [ldT_of hg0]; rfl
  obtain ⟨s1, h1, A1, e1, a2, o1⟩ := cloneI_ok (n := n) a1.sow (h := hid h [] [p]) (F := (p, .cells [s, .map (some mb)] true 0) :: ((mb, .map (bvs kv)) :: F)) (o0.ro.to fun x => by simp only [cnt_append, cnt_cons]; omega) (by have := hg.2.1; omega)
  have o2 := Own.back (h0 := h) (r := p) (X := A1 ++ (A ++ ((mb, .map (bvs kv)) :: F))) (o1.to fun x => by simp only [cnt_append, cnt_cons]; omega) hg0
  generalize hh2 : h1.putBack h [p] = h2 at o2
  have gm := o2.get (mb, .map (bvs kv)) (by simp)
  have e3 : f_maps_Clone_map_int_api_Value_int_api_Value n (.map (some mb)) h2 = some ((.map (some h2.next), ()), h2.new (.map (bvs kv))) := by
    simp only [f_maps_Clone_map_int_api_Value_int_api_Value, cloneB, gm]
  have o3 := o2.new (.map (bvs kv))
  generalize hmb : h2.next = mb' at e3 o3
  generalize hh3 : h2.new (.map (bvs kv)) = h3 at e3 o3
  have o4 := o3.new (.cells [s1, .map (some mb')] false 0)
  refine ⟨h3.next, _, _, ?_, ⟨s1, mb', A1, a2, hg, hk, rfl⟩, o4.to fun x => by simp only [cnt_append, cnt_cons, List.cons_append]; omega⟩
  have f1 : fillL [.slice none 0 0, .map none] [(0, 1, s1), (1, 1, .map (some mb'))] = some [s1, .map (some mb')] := by obtain ⟨x, y, rfl⟩ := a2.form; rfl
  have hc : ([s1, .map (some mb')] : List Value).all isCell = true := by obtain ⟨x, y, rfl⟩ := a2.form; rfl
  simp only [f_buffer_Buffer_Copy, Option.isNone_some, cond_false, Option.bind_some, fa_mk, Nat.zero_add, l0, l1, e1, List.nil_append, bnd_eq, hh2, e3, f1, hc, cond_true, nwA_eq]
theorem rcopy_ok (hb : Rb p L W Lx) (ho : Own h (Lx ++ F)) (hW : W.length ≤ 100000) : ∃ p' h' L', f_wicketref16_Buffer_Copy n (some ⟨p, 0, none⟩) h = some ((some ⟨p', 0, none⟩, ()), h') ∧ Rb p' L W L' ∧ Own h' (L' ++ (Lx ++ F)) := by
  obtain ⟨s, wv, A, B, a1, a2, hg, hk, rfl⟩ := hb
  have hs1 : Slc 1 (.slice (some ⟨h.next, 0, some 0⟩) 0 0) 0 [] [(h.next, .cells ([] ++ ([] ++ [])) false 1)] := .mk rfl rfl rfl
  have o1 := ho.new (.cells [] false 1)
  have lp := ho.lt (p, .cells [s, wv] false 0) (by simp)
  generalize hb1 : h.next = b1 at hs1 o1 lp
  generalize hh1 : h.new (.cells [] false 1) = h1 at o1
  have l0 : ldT .any (Heap.dropAll h1 [b1]) (some ⟨p, 0, none⟩) = some s := by
    have : (Heap.dropAll h1 [b1]).get p = some (.cells [s, wv] false 0) := by
      rw [Heap.get_dropAll, if_neg (by simp only [List.mem_singleton]; omega)]
      exact o1.get (p, .cells [s, wv] false 0) (by simp)
    rw [ldT_of this]; rfl
  have hs2 : Slc 33 (.slice (some ⟨h1.next, 0, some 0⟩) 0 0) 0 [] [(h1.next, .cells ([] ++ ([] ++ [])) false 33)] := .mk rfl rfl rfl
  have o2 := o1.new (.cells [] false 33)
  have l1 := o1.lt (b1, .cells [] false 1) (by simp)
  have lp1 := o1.lt (p, .cells [s, wv] false 0) (by simp)
  have hb2n : h1.next < (h1.new (.cells [] false 33)).next := Nat.lt_succ_self _
  generalize hb2 : h1.next = b2 at hs2 o2 l1 lp1 hb2n
  generalize hh2 : h1.new (.cells [] false 33) = h2 at o2 hb2n
  have l1' : ldT .any (Heap.dropAll h2 [b2, b1]) (some ⟨p, 1, none⟩) = some wv := by
    have : (Heap.dropAll h2 [b2, b1]).get p = some (.cells [s, wv] false 0) := by
      rw [Heap.get_dropAll, if_neg (by simp only [List.mem_cons, List.not_mem_nil, or_false]; omega)]
      exact o2.get (p, .cells [s, wv] false 0) (by simp)
    rw [ldT_of this]; rfl
  have o2' : Own h2 ((b2, .cells [] false 33) :: (p, .cells [s, wv] false 0) :: ((b1, .cells [] false 1) :: (A ++ (B ++ F)))) := o2.to fun x => by simp only [cnt_append, cnt_cons, List.cons_append]; omega
  obtain ⟨v3, h3, A3, e3, a3, o4⟩ := a1.sow.app hs1 (h := hid h2 [b2] [p]) (F := (p, .cells [s, wv] true 0) :: (B ++ F)) (o2'.roD.to fun x => by simp only [cnt_append, cnt_cons, cnt_nil, List.nil_append, List.append_nil]; omega) (by decide) (bytes := 8) (by have := hg.2.1; omega)
  have hnx : (hid h2 [b2] [p]).next = h2.next := next_hid
  have hA3 : ∀ x ∈ A3, x.1 ≠ b2 := by
    intro x hx
    obtain ⟨q, k, c, rfl, e⟩ := a3.at_keys x hx
    rcases append_at e3 with ⟨p, hp, e'⟩ | e'
    · cases hp
      have e' : q.block = b1 := e'
      omega
    · rw [e, e', hnx]; omega
  have hX : ∀ x ∈ A3 ++ (A ++ (B ++ F)), x.1 ≠ b2 := by
    intro x hx
    rcases List.mem_append.1 hx with hx | hx
    · exact hA3 x hx
    · exact o2'.notin x (by simp only [List.mem_cons]; exact .inr (.inr hx))
  have hl3 := append_next e3
  rw [hnx] at hl3
  have o5 := Own.backD (h0 := h2) (b := b2) (r := p) (X := A3 ++ (A ++ (B ++ F))) (o4.to fun x => by simp only [cnt_append, cnt_cons]; omega) (o2'.get (p, .cells [s, wv] false 0) (by simp)) o2'.head (by omega) (o2'.notin (p, .cells [s, wv] false 0) (by simp)).symm hX
  generalize hh4 : h3.putBack h2 ([b2] ++ [p]) = h4 at o5
  have a3 : Slc 1 v3 L.length (iz .i64 L) A3 := by simpa using a3
  obtain ⟨v5, h5, A5, e5, a5, o6⟩ := a2.sow.app hs2 (h := h4) (F := (p, .cells [s, wv] false 0) :: (A3 ++ (A ++ F))) (o5.to fun x => by simp only [cnt_append, cnt_cons, cnt_nil, List.nil_append, List.append_nil]; omega) (by decide) (bytes := 40) (by omega)
  have a5 : Slc 33 v5 W.length (W.flatMap img) A5 := by simpa using a5
  have o7 := o6.new (.cells [v3, v5] false 0)
  refine ⟨h5.next, _, _, ?_, ⟨v3, v5, A3, A5, a3, a5, hg, hk, rfl⟩, o7.to fun x => by simp only [cnt_append, cnt_cons, List.cons_append]; omega⟩
  have f1 : fillL [.slice none 0 0, .slice none 0 0] [(0, 1, v3), (1, 1, v5)] = some [v3, v5] := by obtain ⟨x, y, rfl⟩ := a3.form; obtain ⟨x, y, rfl⟩ := a5.form; rfl
  have hc : ([v3, v5] : List Value).all isCell = true := by obtain ⟨x, y, rfl⟩ := a3.form; obtain ⟨x, y, rfl⟩ := a5.form; rfl
  simp only [f_wicketref16_Buffer_Copy, fill0, Option.bind_some, bnd_eq, hb1, hh1, fa_mk, Nat.zero_add, l0, hb2, hh2, l1', e3, hh4, e5, f1, hc, cond_true, nwA_eq]

/-- Marked: two numbers stand behind. -/
def Mk5 (s : Value) (X : List Int) (A : Ch) : Prop := ∃ b off sp c, Slc 1 (.slice (some ⟨b, off, sp⟩) (X.length + 2) c) (X.length + 2) (iz .i64 (X ++ [7777, 8888])) A ∧ X.length + 2 ≤ c ∧ s = .slice (some ⟨b, off, sp⟩) X.length c
theorem Mk5.slc (hm : Mk5 s X A) : Slc 1 s X.length (iz .i64 X) A := by
  obtain ⟨b, off, sp, c, h1, h2, rfl⟩ := hm
  have := h1.pre' (k := X.length) (by omega)
  have ek : (iz .i64 (X ++ [7777, 8888])).take X.length = iz .i64 X := by
    rw [iz, List.map_append, List.take_append_of_le_length (by simp), List.take_of_length_le (by simp)]; rfl
  rwa [ek] at this
theorem ownI_ok (hr : Sow 1 u m cs G) (ho : Own h (G ++ F)) (hm : m * 8 ≤ 140737488355328) :
    ∃ s h' A', f_wicketlaw05_Own n u h = some ((s, ()), h') ∧ Slc 1 s m cs A' ∧ Own h' (A' ++ (G ++ F)) := by
  have o1 := ho.new (.cells [] false 1)
  have hs : Slc 1 (.slice (some ⟨h.next, 0, some 0⟩) 0 0) 0 [] [(h.next, .cells ([] ++ ([] ++ [])) false 1)] := .mk rfl rfl rfl
  obtain ⟨s', h', A', e1, e2, e3⟩ := hr.app hs (F := F) (h := h.new (.cells [] false 1)) (o1.to fun x => by simp only [cnt_append, cnt_cons, cnt_nil, List.nil_append, List.append_nil]; omega) (by decide) (bytes := 8) (by omega)
  refine ⟨s', h', A', ?_, by simpa using e2, e3⟩
  simp only [f_wicketlaw05_Own, fill0, Option.bind_some, bnd_eq, e1, e2.notT, Bool.not_false, cond_true]
theorem roomy_ok (hr : Sow 1 u X.length (iz .i64 X) G) (ho : Own h (G ++ F)) (hm : (X.length + 2) * 8 ≤ 140737488355328) :
    ∃ s h' A', f_wicketlaw05_Roomy n u h = some ((s, ()), h') ∧ Mk5 s X A' ∧ Own h' (A' ++ (G ++ F)) := by
  obtain ⟨s1, h1, A1, e1, e2, o1⟩ := ownI_ok (n := n) hr ho (by omega)
  have o2 := o1.new (.cells [.int .i64 7777, .int .i64 8888] false 1)
  have hy : Slc 1 (.slice (some ⟨h1.next, 0, some 0⟩) 2 2) 2 [.int .i64 7777, .int .i64 8888] [(h1.next, .cells ([] ++ ([.int .i64 7777, .int .i64 8888] ++ [])) false 1)] := .mk rfl rfl rfl
  obtain ⟨s3, h3, A3, e3, e4, o3⟩ := hy.sow.app e2 (F := G ++ F) (h := h1.new (.cells [.int .i64 7777, .int .i64 8888] false 1)) (o2.to fun x => by simp only [cnt_append, cnt_cons, cnt_nil, List.nil_append, List.append_nil]; omega) (by decide) (bytes := 8) (by omega)
  have e4 : Slc 1 s3 (X.length + 2) (iz .i64 (X ++ [7777, 8888])) A3 := by simpa [iz] using e4
  have f1 : fillL [.int .i64 0, .int .i64 0] [(0, 1, .int .i64 7777), (1, 1, .int .i64 8888)] = some [.int .i64 7777, .int .i64 8888] := rfl
  have hl := (hr.rds ho).lenB
  obtain ⟨a, c, rfl⟩ := e4.form
  cases a with
  | none => cases e4
  | some q =>
    obtain ⟨b, off, sp⟩ := q
    have hc : X.length + 2 ≤ c := by
      have hl := e4.len
      generalize iz .i64 (X ++ [7777, 8888]) = zs at e4 hl
      cases e4 with
      | mk hp hl' hr => omega
    have s5 : sliceK h3 1 none (some (.int .i64 (X.length : Int))) none (.slice (some ⟨b, off, sp⟩) (X.length + 2) c) = some (.slice (some ⟨b, off, sp⟩) X.length c, h3) := sliceK_h (by omega)
    refine ⟨.slice (some ⟨b, off, sp⟩) X.length c, h3, A3, ?_, ⟨b, off, sp, c, e4, hc, rfl⟩, o3.to fun x => by simp only [cnt_append, cnt_cons]; omega⟩
    simp only [f_wicketlaw05_Roomy, e1, Option.bind_some, f1, bnd_eq, e3, hl, s5, isTuple, Bool.not_false, cond_true]
theorem heldI_ok (hk : Mk5 s X A) (hr : Sow 1 u X.length (iz .i64 X) G) (ho : Own h (A ++ (G ++ F))) (hm : (X.length + 2) * 8 ≤ 140737488355328) (hn : X.length + 100 ≤ n) : f_wicketlaw05_Held n s u h = some ((true, ()), h) := by
  have h2 := hk.slc
  obtain ⟨b, off, sp, c, h1, hc, rfl⟩ := hk
  have rr := hr.rds (h := h) (F := A ++ F) (ho.to fun x => by simp only [cnt_append]; omega)
  have r1 := h1.rds ho
  have e1 : sliceK h 1 none (some (.int .i64 (IntKind.i64.wrap ((X.length : Int) + 2)))) none (.slice (some ⟨b, off, sp⟩) X.length c) = some (.slice (some ⟨b, off, sp⟩) (X.length + 2) c, h) := by
    have : IntKind.i64.wrap ((X.length : Int) + 2) = ((X.length + 2 : Nat) : Int) := by rw [wrap_i64 (by omega) (by omega)]; omega
    rw [this]; exact sliceK_h hc
  have e2 : sliceK h 1 none (some (.int .i64 (X.length : Int))) none (.slice (some ⟨b, off, sp⟩) (X.length + 2) c) = some (.slice (some ⟨b, off, sp⟩) X.length c, h) := sliceK_h (by omega)
  have e3 := same5_ok (n := n) (h2.rds ho) rr (by omega) (by omega)
  have hl2 : (X ++ [7777, 8888] : List Int).length = X.length + 2 := by simp
  obtain ⟨q4, e4, e5⟩ := r1.intn hl2 (i := X.length) (by omega)
  obtain ⟨q6, e6, e7⟩ := r1.intn hl2 (i := X.length + 1) (by omega)
  have x4 : (X ++ [7777, 8888])[X.length]'(by omega) = 7777 := by simp
  have x6 : (X ++ [7777, 8888])[X.length + 1]'(by omega) = 8888 := by simp
  rw [x4] at e5
  rw [x6] at e7
  simp only [f_wicketlaw05_Held, rr.lenB, Option.bind_some, e1, e2, e3, cond_true, e4, e5, decide_true, wrap_succ (show X.length < 4611686018427387904 by omega), e6, e7]
end
end Go.Proofs.Ytpihoicfnolepaa

/- The pair of buffers on both sides; what is told is kept. -/
namespace Go.Proofs.Ytpihoicfnolepaa
open Go
set_option linter.unusedVariables false
set_option linter.unusedSimpArgs false
/-- A buffer on both sides. -/
structure Bs where
  p : Nat
  r : Nat
  L : List Int
  kv : List (Int × List Int)
  W : List (Int × List Int)
  A : Ch
  B : Ch
structure BsOk (k : Nat) (x : Bs) : Prop where
  hb : Bu x.p x.L x.kv x.A
  hr : Rb x.r x.L x.W x.B
  hs : ∀ t, getV t x.kv = lastW t x.W
  hk : x.W.length ≤ k
/-- What was told once. -/
structure Tt where
  i : Value
  k : Value
  f : Value
  M : List (Int × List Int)
  L : List Int
  A : Ch
  B : Ch
  C : Ch
structure TtOk (e : Tt) : Prop where
  i : Slc 33 e.i e.M.length (e.M.flatMap img) e.A
  k : Slc 33 e.k e.M.length (e.M.flatMap img) e.B
  f : Slc 1 e.f e.L.length (iz .i64 e.L) e.C
  m : ∀ q ∈ e.M, q.2.length = 32
  n : e.M.length ≤ 16
  l : e.L.length ≤ 16
def Tt.G (e : Tt) : Ch := e.A ++ (e.B ++ e.C)
/-- The three lists of what was told. -/
structure Tq where
  i : Value
  k : Value
  f : Value
  vi : List Value
  vk : List Value
  vf : List Value
  A : Ch
  B : Ch
  C : Ch
structure TqOk (N : Nat) (q : Tq) : Prop where
  i : Slc 1 q.i N q.vi q.A
  k : Slc 1 q.k N q.vk q.B
  f : Slc 1 q.f N q.vf q.C
def Tq.L (q : Tq) : Ch := q.A ++ (q.B ++ q.C)
def pcl (w : Nat) (x y : Bs) (q : Tq) : List Value :=
  if w = 0 then [.pointer (some ⟨x.p, 0, none⟩), .pointer (some ⟨y.p, 0, none⟩), .pointer (some ⟨x.r, 0, none⟩), .pointer (some ⟨y.r, 0, none⟩), q.i, q.k, q.f]
  else [.pointer (some ⟨y.p, 0, none⟩), .pointer (some ⟨x.p, 0, none⟩), .pointer (some ⟨y.r, 0, none⟩), .pointer (some ⟨x.r, 0, none⟩), q.i, q.k, q.f]
def prO (w : Nat) (x y : Bs) (q : Tq) : AObj := .cells (pcl w x y q) false 0
def sides (x y : Bs) : Ch := x.A ++ (x.B ++ (y.A ++ y.B))
theorem pcl_ld {w pp es : Nat} {ro : Bool} {x y : Bs} {q : Tq} {h : Heap} (hw : w < 2) (hg : h.get pp = some (.cells (pcl w x y q) ro es)) :
    (∃ a, ixA 2 1 (some ⟨pp, 0, none⟩) (w : Int) = some a ∧ ldT .ptr h (some a) = some (some ⟨x.p, 0, none⟩) ∧ a.block = pp) ∧ (∃ a, ixA 2 1 (some ⟨pp, 2, none⟩) (w : Int) = some a ∧ ldT .ptr h (some a) = some (some ⟨x.r, 0, none⟩) ∧ a.block = pp) ∧
      ldT .any h (some ⟨pp, 4, none⟩) = some q.i ∧ ldT .any h (some ⟨pp, 5, none⟩) = some q.k ∧ ldT .any h (some ⟨pp, 6, none⟩) = some q.f := by
  have : w = 0 ∨ w = 1 := by omega
  rcases this with rfl | rfl
  · exact ⟨⟨⟨pp, 0, none⟩, rfl, by rw [ldT_of hg]; rfl, rfl⟩, ⟨⟨pp, 2, none⟩, rfl, by rw [ldT_of hg]; rfl, rfl⟩, by rw [ldT_of hg]; rfl, by rw [ldT_of hg]; rfl, by rw [ldT_of hg]; rfl⟩
  · exact ⟨⟨⟨pp, 1, none⟩, rfl, by rw [ldT_of hg]; rfl, rfl⟩, ⟨⟨pp, 3, none⟩, rfl, by rw [ldT_of hg]; rfl, rfl⟩, by rw [ldT_of hg]; rfl, by rw [ldT_of hg]; rfl, by rw [ldT_of hg]; rfl⟩
theorem pcl_told {w pp : Nat} {x y : Bs} {q q' : Tq} {h : Heap} {F : Ch} (hw : w < 2) (ho : Own h ((pp, prO w x y q) :: F)) (h1 : cellsOf q'.i = [q'.i]) (h2 : cellsOf q'.k = [q'.k]) (h3 : cellsOf q'.f = [q'.f]) (c1 : isCell q'.i = true) (c2 : isCell q'.k = true) (c3 : isCell q'.f = true) :
    ∃ h4 h5 h6, stB 1 q'.i h (some ⟨pp, 4, none⟩) = some h4 ∧ stB 1 q'.k h4 (some ⟨pp, 5, none⟩) = some h5 ∧ stB 1 q'.f h5 (some ⟨pp, 6, none⟩) = some h6 ∧ Own h6 ((pp, prO w x y q') :: F) := by
  have : w = 0 ∨ w = 1 := by omega
  rcases this with rfl | rfl
  · have s1 := stB1_of (sp := none) (o := 4) (v := q'.i) ho.head h1 c1 (by simp [pcl])
    have o1 := ho.put (.cells ((pcl 0 x y q).set 4 q'.i) false 0)
    have s2 := stB1_of (sp := none) (o := 5) (v := q'.k) o1.head h2 c2 (by simp [pcl])
    have o2 := o1.put (.cells (((pcl 0 x y q).set 4 q'.i).set 5 q'.k) false 0)
    have s3 := stB1_of (sp := none) (o := 6) (v := q'.f) o2.head h3 c3 (by simp [pcl])
    have o3 := o2.put (.cells ((((pcl 0 x y q).set 4 q'.i).set 5 q'.k).set 6 q'.f) false 0)
    exact ⟨_, _, _, s1, s2, s3, o3⟩
  · have s1 := stB1_of (sp := none) (o := 4) (v := q'.i) ho.head h1 c1 (by simp [pcl])
    have o1 := ho.put (.cells ((pcl 1 x y q).set 4 q'.i) false 0)
    have s2 := stB1_of (sp := none) (o := 5) (v := q'.k) o1.head h2 c2 (by simp [pcl])
    have o2 := o1.put (.cells (((pcl 1 x y q).set 4 q'.i).set 5 q'.k) false 0)
    have s3 := stB1_of (sp := none) (o := 6) (v := q'.f) o2.head h3 c3 (by simp [pcl])
    have o3 := o2.put (.cells ((((pcl 1 x y q).set 4 q'.i).set 5 q'.k).set 6 q'.f) false 0)
    exact ⟨_, _, _, s1, s2, s3, o3⟩

section
variable {n m i p k j e b w pp N : Nat} {s u : Value} {L X Y : List Int} {t z : Int} {h : Heap} {G F A B Lx : Ch} {cs xs : List Value} {kv W M : List (Int × List Int)} {x y : Bs} {q : Tq}
theorem told1 (hx : BsOk k x) (hq : TqOk N q) (hw : w < 2) (ho : Own h ((pp, prO w x y q) :: (x.A ++ (x.B ++ (q.L ++ F))))) (hk : k ≤ 1000) (hN : N ≤ 10000) (hj : j < 2) (hn : 5000 ≤ n) :
    ∃ h' q' e, f_wicketlaw16_pair_told_L51 n (w : Int) (some ⟨pp, 0, none⟩) (j : Int) h = some (.inl ((((j + 1 : Nat) : Int), ()), h')) ∧ TqOk (N + 1) q' ∧ TtOk e ∧ q'.vi = q.vi ++ [e.i] ∧ q'.vk = q.vk ++ [e.k] ∧ q'.vf = q.vf ++ [e.f] ∧
      Own h' ((pp, prO w x y q') :: (x.A ++ (x.B ++ (q'.L ++ (e.G ++ F))))) := by
  have hxk := hx.hk
  have hxb := hx.hb
  have hxr := hx.hr
  obtain ⟨s0, wv, RA, RB, a1, a2, hg, hkW, hL⟩ := hxr
  obtain ⟨_, _, _, _, _, hkv, _⟩ := hxb
  obtain ⟨⟨q1, i1, l1, z1⟩, ⟨q2, i2, l2, z2⟩, _, _, _⟩ := pcl_ld hw (ho.get (pp, .cells (pcl w x y q) false 0) (by simp [prO]))
  have o1 : Own (hid h [] [pp]) ((pp, .cells (pcl w x y q) true 0) :: (x.A ++ (x.B ++ (q.L ++ F)))) := Own.ro ho
  obtain ⟨v2, h2, A2, e2, b2, o2⟩ := bimages_ok (n := n) hx.hb (h := hid h [] [pp]) (F := (pp, .cells (pcl w x y q) true 0) :: (x.B ++ (q.L ++ F))) (o1.to fun z => by simp only [cnt_append, cnt_cons]; omega) (by omega)
  have o3 := Own.back (h0 := h) (r := pp) (cs := pcl w x y q) (ro := false) (es := 0) (X := A2 ++ (x.A ++ (x.B ++ (q.L ++ F)))) (o2.to fun z => by simp only [cnt_append, cnt_cons]; omega) ho.head
  generalize hh3 : h2.putBack h [pp] = h3 at o3
  have o3 : Own h3 ((pp, prO w x y q) :: (A2 ++ (x.A ++ (x.B ++ (q.L ++ F))))) := o3
  obtain ⟨v4, h4, A4, e4, b4, o4⟩ := bform_ok (n := n) hx.hb (h := h3) (F := (pp, prO w x y q) :: (A2 ++ (x.B ++ (q.L ++ F)))) (o3.to fun z => by simp only [cnt_append, cnt_cons]; omega)
  obtain ⟨_, ⟨q5, i5, l5, _⟩, _, _, _⟩ := pcl_ld hw (o4.get (pp, .cells (pcl w x y q) false 0) (by simp [prO]))
  obtain rfl : q5 = q2 := by rw [i2] at i5; exact (Option.some.inj i5).symm
  obtain ⟨v6, h6, A6, e6, b6, o6⟩ := rimages_ok (n := n) hx.hr (h := h4) (F := (pp, prO w x y q) :: (A2 ++ (A4 ++ (x.A ++ (q.L ++ F))))) (o4.to fun z => by simp only [cnt_append, cnt_cons]; omega) (by omega) (by omega)
  have hM32 := imgs_len hkv (M := x.L)
  have hMl : (imgs x.L x.kv).length ≤ 16 := Nat.le_trans imgs_le hg.2.1
  rw [imgsW_eq hx.hs] at b6
  have hct := imgs_count hg hkv
  obtain ⟨M, hM⟩ : ∃ M, M = imgs x.L x.kv := ⟨_, rfl⟩
  rw [← hM] at b2 b6 hM32 hMl hct
  have o6' : Own h6 ((pp, prO w x y q) :: (A6 ++ (A2 ++ (A4 ++ (x.A ++ (x.B ++ (q.L ++ F))))))) := o6.to fun z => by simp only [cnt_append, cnt_cons]; omega
  have e7 := same16_ok (n := n) hM32 (b2.rds (h := h6) (F := (pp, prO w x y q) :: (A6 ++ (A4 ++ (x.A ++ (x.B ++ (q.L ++ F)))))) (o6'.to fun z => by simp only [cnt_append, cnt_cons]; omega)) (b6.rds (h := h6) (F := (pp, prO w x y q) :: (A2 ++ (A4 ++ (x.A ++ (x.B ++ (q.L ++ F)))))) (o6'.to fun z => by simp only [cnt_append, cnt_cons]; omega)) (by omega) (by omega)
  obtain ⟨⟨q8, i8, l8, _⟩, ⟨q9, i9, l9, _⟩, t4, _, _⟩ := pcl_ld hw (o6'.get (pp, .cells (pcl w x y q) false 0) (by simp [prO]))
  obtain rfl : q8 = q1 := by rw [i1] at i8; exact (Option.some.inj i8).symm
  obtain rfl : q9 = q5 := by rw [i2] at i9; exact (Option.some.inj i9).symm
  have oR : Own h6 ((x.r, .cells [s0, wv] false 0) :: (RA ++ (RB ++ (A4 ++ [])))) := o6'.to fun z => by
    rw [hL]; simp only [cnt_append, cnt_cons, cnt_nil, List.cons_append]; omega
  have l10 : ldT .any h6 (some ⟨x.r, 0, none⟩) = some s0 := by rw [ldT_of oR.head]; rfl
  have e11 := same5_ok (n := n) (b4.rds (h := h6) (F := (x.r, .cells [s0, wv] false 0) :: (RA ++ RB)) (oR.to fun z => by simp only [cnt_append, cnt_cons, cnt_nil]; omega)) (a1.rds (h := h6) (F := (x.r, .cells [s0, wv] false 0) :: (A4 ++ RB)) (oR.to fun z => by simp only [cnt_append, cnt_cons, cnt_nil]; omega)) (by have := hg.2.1; omega) (by have := hg.2.1; omega)
  have e12 := blen_ok (n := n) hx.hb (h := h6) (F := (pp, prO w x y q) :: (A6 ++ (A2 ++ (A4 ++ (x.B ++ (q.L ++ F)))))) (o6'.to fun z => by simp only [cnt_append, cnt_cons]; omega)
  -- the three lists
  obtain ⟨qi, qk, qf⟩ := hq
  have o6'' : Own h6 ((pp, prO w x y q) :: (q.A ++ (q.B ++ (q.C ++ (A6 ++ (A2 ++ (A4 ++ (x.A ++ (x.B ++ F))))))))) := o6'.to fun z => by simp only [Tq.L, cnt_append, cnt_cons]; omega
  have f1 := fill1 (d := .slice none 0 0) b2.cellsOf b2.isCell
  have f2 := fill1 (d := .slice none 0 0) b6.cellsOf b6.isCell
  have f3 := fill1 (d := .slice none 0 0) b4.cellsOf b4.isCell
  have o31 := o6''.new (.cells [v2] false 1)
  have y1 : Slc 1 (.slice (some ⟨h6.next, 0, some 0⟩) 1 1) 1 [v2] [(h6.next, .cells ([] ++ ([v2] ++ [])) false 1)] := .mk rfl rfl rfl
  have lpp := o6''.lt (pp, prO w x y q) (by simp)
  generalize hc1 : h6.next = c1 at o31 y1 lpp
  generalize hh31 : h6.new (.cells [v2] false 1) = h31 at o31
  have g31 : (Heap.dropAll h31 [c1]).get pp = some (.cells (pcl w x y q) false 0) := by
    have lpp : pp < c1 := lpp
    rw [Heap.get_dropAll, if_neg (by simp only [List.mem_singleton]; omega)]
    exact o31.get (pp, prO w x y q) (by simp)
  obtain ⟨_, _, _, t5, _⟩ := pcl_ld hw g31
  have o35 := o31.new (.cells [v6] false 1)
  have y2 : Slc 1 (.slice (some ⟨h31.next, 0, some 0⟩) 1 1) 1 [v6] [(h31.next, .cells ([] ++ ([v6] ++ [])) false 1)] := .mk rfl rfl rfl
  have lpp2 := o31.lt (pp, prO w x y q) (by simp)
  generalize hc2 : h31.next = c2 at o35 y2 lpp2
  generalize hh35 : h31.new (.cells [v6] false 1) = h35 at o35
  have g35 : (Heap.dropAll h35 [c2, c1]).get pp = some (.cells (pcl w x y q) false 0) := by
    have lpp : pp < c1 := lpp
    have lpp2 : pp < c2 := lpp2
    rw [Heap.get_dropAll, if_neg (by simp only [List.mem_cons, List.not_mem_nil, or_false]; omega)]
    exact o35.get (pp, prO w x y q) (by simp)
  obtain ⟨_, _, _, _, t6⟩ := pcl_ld hw g35
  have o39 := o35.new (.cells [v4] false 1)
  have y3 : Slc 1 (.slice (some ⟨h35.next, 0, some 0⟩) 1 1) 1 [v4] [(h35.next, .cells ([] ++ ([v4] ++ [])) false 1)] := .mk rfl rfl rfl
  generalize hc3 : h35.next = c3 at o39 y3
  generalize hh39 : h35.new (.cells [v4] false 1) = h39 at o39
  have hro : ∀ z ∈ [(pp, prO w x y q)], ∃ cs q es, z.2 = AObj.cells cs q es := fun z hz => by rw [List.mem_singleton.1 hz]; exact ⟨_, _, _, rfl⟩
  obtain ⟨v40, h40, A40, e40, b40, o41⟩ := qi.appH (l1 := [c3, c2]) (l2 := [pp, pp]) (D := [(c3, .cells [v4] false 1), (c2, .cells [v6] false 1)]) (R := [(pp, prO w x y q)]) y1.sow (h := h39) (F := q.B ++ (q.C ++ (A6 ++ (A2 ++ (A4 ++ (x.A ++ (x.B ++ F))))))) (o39.to fun z => by simp only [cnt_append, cnt_cons, cnt_nil, List.nil_append, List.append_nil, List.cons_append]; omega)
    (fun r => by simp only [List.mem_cons, List.not_mem_nil, or_false, exists_eq_or_imp, exists_eq_left, eq_comm]) (fun r => by simp [eq_comm]) hro (by decide) (bytes := 24) (by omega)
  generalize hh41 : h40.putBack h39 ([c3, c2] ++ [pp, pp]) = h41 at o41
  obtain ⟨v42, h42, A42, e42, b42, o43⟩ := qk.appH (l1 := [c3]) (l2 := [pp]) (D := [(c3, .cells [v4] false 1)]) (R := [(pp, prO w x y q)]) y2.sow (h := h41) (F := A40 ++ (q.C ++ (A6 ++ (A2 ++ (A4 ++ (x.A ++ (x.B ++ F))))))) (o41.to fun z => by simp only [cnt_append, cnt_cons, cnt_nil, List.nil_append, List.append_nil, List.cons_append]; omega)
    (fun r => by simp [eq_comm]) (fun r => by simp [eq_comm]) hro (by decide) (bytes := 24) (by omega)
  generalize hh43 : h42.putBack h41 ([c3] ++ [pp]) = h43 at o43
  obtain ⟨v44, h44, A44, e44, b44, o44⟩ := y3.sow.app qf (h := h43) (F := (pp, prO w x y q) :: (A42 ++ (A40 ++ (A6 ++ (A2 ++ (A4 ++ (x.A ++ (x.B ++ F)))))))) (o43.to fun z => by simp only [cnt_append, cnt_cons, cnt_nil, List.nil_append, List.append_nil, List.cons_append]; omega) (by decide) (bytes := 24) (by omega)
  have o44' : Own h44 ((pp, prO w x y q) :: (A40 ++ (A42 ++ (A44 ++ (A6 ++ (A2 ++ (A4 ++ (x.A ++ (x.B ++ F)))))))))  := o44.to fun z => by simp only [cnt_append, cnt_cons]; omega
  obtain ⟨h46, h48, h50, s46, s48, s50, o50⟩ := pcl_told (q' := ⟨v40, v42, v44, q.vi ++ [v2], q.vk ++ [v6], q.vf ++ [v4], A40, A42, A44⟩) hw o44' b40.cellsOf b42.cellsOf b44.cellsOf b40.isCell b42.isCell b44.isCell
  have s46 : stB 1 v40 h44 (some ⟨pp, 4, none⟩) = some h46 := s46
  have s48 : stB 1 v42 h46 (some ⟨pp, 5, none⟩) = some h48 := s48
  have s50 : stB 1 v44 h48 (some ⟨pp, 6, none⟩) = some h50 := s50
  refine ⟨h50, ⟨v40, v42, v44, q.vi ++ [v2], q.vk ++ [v6], q.vf ++ [v4], A40, A42, A44⟩, ⟨v2, v6, v4, M, x.L, A2, A6, A4⟩, ?_, ⟨b40, b42, b44⟩, ⟨b2, b6, b4, hM32, hMl, hg.2.1⟩, rfl, rfl, rfl, o50.to fun z => by simp only [Tq.L, Tt.G, cnt_append, cnt_cons]; omega⟩
  have hlt : (j : Int) < 2 := by omega
  have hcti : (x.kv.length : Int) = (M.length : Int) := by omega
  simp only [f_wicketlaw16_pair_told_L51, hlt, decide_true, cond_true, Option.bind_some, fa_mk, Nat.zero_add, i1, l1, z1, e2, bnd_eq, List.nil_append, hh3, e4, i2, l5, e6, e7, Bool.not_true, cond_false, l9, l10, e11, l8, e12, b6.lenB, hcti, t4, f1, hc1, hh31, t5, f2, hc2, hh35, t6, f3, hc3, hh39, e40, hh41, e42, hh43, e44, s46, s48, s50, wrap_succ (show j < 4611686018427387904 by omega)]
end
end Go.Proofs.Ytpihoicfnolepaa

/- Every step of the pair of buffers. -/
namespace Go.Proofs.Ytpihoicfnolepaa
open Go
set_option linter.unusedVariables false
set_option linter.unusedSimpArgs false
section
variable {n m i p k j e b w pp N : Nat} {s u : Value} {L X Y : List Int} {t z : Int} {h : Heap} {G F A B Lx : Ch} {cs xs : List Value} {kv W M : List (Int × List Int)} {x y : Bs} {q : Tq}
theorem told_ok (hx : BsOk k x) (hq : TqOk N q) (hw : w < 2) (ho : Own h ((pp, prO w x y q) :: (x.A ++ (x.B ++ (q.L ++ F))))) (hk : k ≤ 1000) (hN : N + 2 ≤ 10000) (hn : 5000 ≤ n) :
    ∃ (h' : Heap) (q' : Tq) (es : List Tt), f_wicketlaw16_pair_told n (some ⟨pp, 0, none⟩) (w : Int) h = some ((true, ()), h') ∧ TqOk (N + 2) q' ∧ es.length = 2 ∧ (∀ e ∈ es, TtOk e) ∧ q'.vi = q.vi ++ es.map Tt.i ∧ q'.vk = q.vk ++ es.map Tt.k ∧ q'.vf = q.vf ++ es.map Tt.f ∧
      Own h' ((pp, prO w x y q') :: (x.A ++ (x.B ++ (q'.L ++ (es.flatMap Tt.G ++ F))))) := by
  obtain ⟨⟨⟨r, _⟩, h'⟩, e, q0, q', es, r1, r2, r3, r4, r5, r6, r7⟩ := loopT_up (f := fun a => f_wicketlaw16_pair_told_L51 n (w : Int) (some ⟨pp, 0, none⟩) a.1.1 a.2)
    (fun j (a : (Int × Unit) × Heap) => a.1 = ((j : Int), ()) ∧ ∃ (q' : Tq) (es : List Tt), TqOk (N + j) q' ∧ es.length = j ∧ (∀ e ∈ es, TtOk e) ∧ q'.vi = q.vi ++ es.map Tt.i ∧ q'.vk = q.vk ++ es.map Tt.k ∧ q'.vf = q.vf ++ es.map Tt.f ∧
      Own a.2 ((pp, prO w x y q') :: (x.A ++ (x.B ++ (q'.L ++ (es.flatMap Tt.G ++ F))))))
    (fun r => r.1 = (true, ()) ∧ ∃ (q' : Tq) (es : List Tt), TqOk (N + 2) q' ∧ es.length = 2 ∧ (∀ e ∈ es, TtOk e) ∧ q'.vi = q.vi ++ es.map Tt.i ∧ q'.vk = q.vk ++ es.map Tt.k ∧ q'.vf = q.vf ++ es.map Tt.f ∧
      Own r.2 ((pp, prO w x y q') :: (x.A ++ (x.B ++ (q'.L ++ (es.flatMap Tt.G ++ F)))))) (N := 2) (k := n) (j := 0) (a := ((0, ()), h)) (by omega) (by omega)
    ⟨rfl, q, [], hq, rfl, fun _ h => absurd h List.not_mem_nil, by simp, by simp, by simp, by simpa using ho⟩
    (fun j a hj hi => by
      obtain ⟨⟨v, _⟩, h1⟩ := a
      obtain ⟨e0, q1, es, r1, r2, r3, r4, r5, r6, r7⟩ := hi
      cases e0
      obtain ⟨h2, q2, e, g1, g2, g3, g4, g5, g6, g7⟩ := told1 (n := n) hx r1 hw r7 hk (by omega) hj hn
      refine .inl ⟨_, g1, rfl, q2, es ++ [e], g2, by simp [r2], fun a ha => ?_, by rw [g4, r4]; simp, by rw [g5, r5]; simp, by rw [g6, r6]; simp, g7.to fun z => by simp only [cnt_append, cnt_cons, List.flatMap_append, List.flatMap_cons, List.flatMap_nil, cnt_nil]; omega⟩
      rcases List.mem_append.1 ha with ha | ha
      · exact r3 a ha
      · rw [List.mem_singleton.1 ha]; exact g3)
    (fun a hi => by
      obtain ⟨⟨v, _⟩, h1⟩ := a
      obtain ⟨e0, hi⟩ := hi
      cases e0
      exact ⟨((true, ()), h1), rfl, rfl, hi⟩)
  have q0 : r = true := by cases q0; rfl
  subst q0
  exact ⟨h', q', es, e, r1, r2, r3, r4, r5, r6, r7⟩
end
/-- The pair, k steps on. -/
structure PrB (w pp k : Nat) (x y : Bs) (q : Tq) (es : List Tt) (L : Ch) : Prop where
  hx : BsOk k x
  hy : BsOk k y
  hq : TqOk es.length q
  he : ∀ e ∈ es, TtOk e
  vi : q.vi = es.map Tt.i
  vk : q.vk = es.map Tt.k
  vf : q.vf = es.map Tt.f
  hk : es.length ≤ 2 * k
  hl : L = (pp, prO w x y q) :: (x.A ++ (x.B ++ (y.A ++ (y.B ++ (q.L ++ es.flatMap Tt.G)))))
theorem BsOk.mono {k k' : Nat} {x : Bs} (hx : BsOk k x) (hk : k ≤ k') : BsOk k' x := ⟨hx.hb, hx.hr, hx.hs, Nat.le_trans hx.hk hk⟩
theorem PrB.swap {w pp k : Nat} {x y : Bs} {q : Tq} {es : List Tt} {L : Ch} (hp : PrB w pp k x y q es L) (hw : w < 2) : ∃ L', PrB (1 - w) pp k y x q es L' ∧ ∀ z, cnt z L' = cnt z L := by
  refine ⟨_, ⟨hp.hy, hp.hx, hp.hq, hp.he, hp.vi, hp.vk, hp.vf, hp.hk, rfl⟩, fun z => ?_⟩
  have e : prO (1 - w) y x q = prO w x y q := by
    have : w = 0 ∨ w = 1 := by omega
    rcases this with rfl | rfl <;> rfl
  rw [hp.hl, e]
  simp only [cnt_append, cnt_cons]; omega
theorem pcl_st {w pp : Nat} {x y z : Bs} {q : Tq} {h : Heap} {F : Ch} (hw : w < 2) (ho : Own h ((pp, prO w x y q) :: F)) :
    ∃ q1 h1 q2 h2, ixA 2 1 (some ⟨pp, 0, none⟩) ((1 - w : Nat) : Int) = some q1 ∧ stB 1 (.pointer (some ⟨z.p, 0, none⟩)) h (some q1) = some h1 ∧ ixA 2 1 (some ⟨pp, 2, none⟩) ((1 - w : Nat) : Int) = some q2 ∧ stB 1 (.pointer (some ⟨z.r, 0, none⟩)) h1 (some q2) = some h2 ∧
      ldT .ptr h2 (some q1) = some (some ⟨z.p, 0, none⟩) ∧ Own h2 ((pp, prO w x z q) :: F) := by
  have : w = 0 ∨ w = 1 := by omega
  rcases this with rfl | rfl
  · have s1 := stB1_of (sp := none) (o := 1) (v := .pointer (some ⟨z.p, 0, none⟩)) ho.head rfl rfl (by simp [pcl])
    have o1 := ho.put (.cells ((pcl 0 x y q).set 1 (.pointer (some ⟨z.p, 0, none⟩))) false 0)
    have s2 := stB1_of (sp := none) (o := 3) (v := .pointer (some ⟨z.r, 0, none⟩)) o1.head rfl rfl (by simp [pcl])
    have o2 := o1.put (.cells (((pcl 0 x y q).set 1 (.pointer (some ⟨z.p, 0, none⟩))).set 3 (.pointer (some ⟨z.r, 0, none⟩))) false 0)
    exact ⟨⟨pp, 1, none⟩, _, ⟨pp, 3, none⟩, _, rfl, s1, rfl, s2, by rw [ldT_of o2.head]; rfl, o2⟩
  · have s1 := stB1_of (sp := none) (o := 0) (v := .pointer (some ⟨z.p, 0, none⟩)) ho.head rfl rfl (by simp [pcl])
    have o1 := ho.put (.cells ((pcl 1 x y q).set 0 (.pointer (some ⟨z.p, 0, none⟩))) false 0)
    have s2 := stB1_of (sp := none) (o := 2) (v := .pointer (some ⟨z.r, 0, none⟩)) o1.head rfl rfl (by simp [pcl])
    have o2 := o1.put (.cells (((pcl 1 x y q).set 0 (.pointer (some ⟨z.p, 0, none⟩))).set 2 (.pointer (some ⟨z.r, 0, none⟩))) false 0)
    exact ⟨⟨pp, 0, none⟩, _, ⟨pp, 2, none⟩, _, rfl, s1, rfl, s2, by rw [ldT_of o2.head]; rfl, o2⟩

/-- A step's cells. -/
def opc (kind which t : Int) (v : List Int) : List Value := .int .i64 kind :: .int .i64 which :: .int .i64 t :: iz .u8 v
def opO (kind which t : Int) (v : List Int) : AObj := .cells (opc kind which t v) false 0
theorem opc_cell {kind which t : Int} {v : List Int} : (opc kind which t v).all isCell = true := by simp only [opc, List.all_cons, iz_cell]; rfl
theorem op_ld {kind which z : Int} {v : List Int} {h : Heap} {t es : Nat} {ro : Bool} (hv : v.length = 32) (hg : h.get t = some (.cells (opc kind which z v) ro es)) :
    ldT (.int .i64) h (some ⟨t, 0, none⟩) = some kind ∧ ldT (.int .i64) h (some ⟨t, 1, none⟩) = some which ∧ ldT (.int .i64) h (some ⟨t, 2, none⟩) = some z ∧ ldA 32 h (some ⟨t, 3, none⟩) = some (iz .u8 v) := by
  refine ⟨?_, ?_, ?_, ?_⟩
  · rw [ldT_of hg]; simp [opc]
  · rw [ldT_of hg]; simp [opc]
  · rw [ldT_of hg]; simp [opc]
  · rw [ldA_of hg (by simp [opc]; omega)]
    simp only [opc, List.drop_succ_cons, List.drop_zero]
    rw [List.take_of_length_le (by simp; omega)]
theorem val_eq {h : Heap} {a : List Int} (ha : a.length = 32) : eqVals h (.agg (List.replicate 32 false)) (.agg ⟨iz .u8 a⟩) (.agg ⟨iz .u8 a⟩) = some true := by
  have := eqCells_iz (k := .u8) ha ha
  rw [decide_eq_true rfl] at this
  exact this
/-- A step's answer. -/
def Played (n w pp k : Nat) (kind which z : Int) (v : List Int) (h : Heap) (F : Ch) : Prop :=
  ∃ h' x' y' q' es' L', f_wicketlaw16_pair_plays n (some ⟨pp, 0, none⟩) (.agg ⟨opc kind which z v⟩) h = some ((true, ()), h') ∧ PrB w pp (k + 1) x' y' q' es' L' ∧ Own h' (L' ++ F)
section
variable {n k pp w : Nat} {x y : Bs} {q : Tq} {es : List Tt} {L F : Ch} {h : Heap} {which z : Int} {v : List Int}
theorem rdv_len {L : List Int} {o : Option (List Int)} {t : Int} (h : (o.getD zero32).length = 32) : (rdv L o t).length = 32 := by
  unfold rdv; split
  · exact h
  · exact zero32_length
theorem play_write (hp : PrB w pp k x y q es L) (hw : w < 2) (hwh : Int.tmod (IntKind.i64.wrap (Int.tmod which 2 + 2)) 2 = (w : Int)) (hv : v.length = 32) (ho : Own h (L ++ F)) (hk : k ≤ 200) (hn : 5000 ≤ n) : Played n w pp k 1 which z v h F := by
  obtain ⟨hx, hy, hq, he, vi, vk, vf, hek, rfl⟩ := hp
  have hxk := hx.hk
  have o0 := ho.new (opO 1 which z v)
  generalize ht : h.next = t at o0
  generalize hh0 : h.new (opO 1 which z v) = h0 at o0
  obtain ⟨m0, m1, m2, m3⟩ := op_ld hv o0.head
  obtain ⟨⟨q1, i1, l1, _⟩, ⟨q2, i2, l2, _⟩, _, _, _⟩ := pcl_ld hw (o0.get (pp, .cells (pcl w x y q) false 0) (by simp [prO]))
  have o1 := Own.roL (l := [t, t]) (A := [(t, opO 1 which z v)]) (h := h0) (F := x.A ++ ((pp, prO w x y q) :: (x.B ++ (y.A ++ (y.B ++ (q.L ++ (es.flatMap Tt.G ++ F))))))) (o0.to fun z => by simp only [cnt_append, cnt_cons, cnt_nil, List.cons_append]; omega) (fun r => by simp [eq_comm]) (fun z hz => by rw [List.mem_singleton.1 hz]; exact ⟨_, _, _, rfl⟩)
  obtain ⟨h2, A2, e2, b2, o2⟩ := bwrite_ok (n := n) (t := z) (w := v) hx.hb (h := hid h0 [] [t, t]) (F := [(t, opO 1 which z v)].map roA ++ ((pp, prO w x y q) :: (x.B ++ (y.A ++ (y.B ++ (q.L ++ (es.flatMap Tt.G ++ F))))))) (o1.to fun z => by simp only [cnt_append, cnt_cons]; omega) hv (by omega)
  have o3 := Own.backL (h0 := h0) (A := [(t, opO 1 which z v)]) (X := A2 ++ ((pp, prO w x y q) :: (x.B ++ (y.A ++ (y.B ++ (q.L ++ (es.flatMap Tt.G ++ F))))))) (l := [t, t]) (o2.to fun z => by simp only [cnt_append, cnt_cons]; omega) (fun r => by simp [eq_comm]) (fun z hz => by rw [List.mem_singleton.1 hz]; exact o0.head)
  generalize hh3 : h2.putBack h0 [t, t] = h3 at o3
  obtain ⟨h4, B4, e4, b4, o4⟩ := rwrite_ok (n := n) (t := z) (w := v) hx.hr (h := h3) (F := (pp, prO w x y q) :: (A2 ++ (y.A ++ (y.B ++ (q.L ++ (es.flatMap Tt.G ++ F)))))) (o3.to fun z => by simp only [cnt_append, cnt_cons, cnt_nil]; omega) hv (by omega) (by omega)
  have hs' : ∀ t', getV t' (if z ∈ x.L then putV z v x.kv else x.kv) = lastW t' (if z ∈ x.L then x.W ++ [(z, v)] else x.W) := by
    intro t'
    by_cases hz : z ∈ x.L
    · rw [if_pos hz, if_pos hz, lastW_snoc]
      obtain ⟨_, _, _, _, _, hkv, _⟩ := hx.hb
      by_cases htz : z = t'
      · subst htz
        rw [if_pos rfl]; exact (hkv.put hz hv).2
      · rw [if_neg htz, hkv.put_ne hz hv (fun e => htz e.symm)]; exact hx.hs t'
    · rw [if_neg hz, if_neg hz]; exact hx.hs t'
  have hwl : (if z ∈ x.L then x.W ++ [(z, v)] else x.W).length ≤ k + 1 := by
    split
    · rw [List.length_append, List.length_singleton]; omega
    · omega
  refine ⟨h4, { x with kv := if z ∈ x.L then putV z v x.kv else x.kv, W := if z ∈ x.L then x.W ++ [(z, v)] else x.W, A := A2, B := B4 }, y, q, es, (pp, prO w x y q) :: (A2 ++ (B4 ++ (y.A ++ (y.B ++ (q.L ++ es.flatMap Tt.G))))), ?_, ⟨⟨b2, b4, hs', hwl⟩, hy.mono (Nat.le_succ _), hq, he, vi, vk, vf, by omega, rfl⟩, o4.to fun z => by simp only [cnt_append, cnt_cons, List.cons_append]; omega⟩
  have hco : cellsOf (.agg ⟨opc 1 which z v⟩) = opc 1 which z v := rfl
  have hh0 : h.new (.cells (opc 1 which z v) false 0) = h0 := hh0
  simp only [f_wicketlaw16_pair_plays, hco, opc_cell, cond_true, bnd_eq, nwA_eq, ht, hh0, fa_mk, Nat.zero_add, m0, m1, m2, m3, hwh, Option.bind_some, i1, l1, i2, l2, decide_true, e2, List.nil_append, hh3, e4]
theorem play_read (hp : PrB w pp k x y q es L) (hw : w < 2) (hwh : Int.tmod (IntKind.i64.wrap (Int.tmod which 2 + 2)) 2 = (w : Int)) (hv : v.length = 32) (ho : Own h (L ++ F)) (hk : k ≤ 200) (hn : 5000 ≤ n) : Played n w pp k 2 which z v h F := by
  obtain ⟨hx, hy, hq, he, vi, vk, vf, hek, rfl⟩ := hp
  have hxk := hx.hk
  have o0 := ho.new (opO 2 which z v)
  generalize ht : h.next = t at o0
  generalize hh0 : h.new (opO 2 which z v) = h0 at o0
  obtain ⟨m0, m1, m2, m3⟩ := op_ld hv o0.head
  obtain ⟨⟨q1, i1, l1, _⟩, ⟨q2, i2, l2, _⟩, _, _, _⟩ := pcl_ld hw (o0.get (pp, .cells (pcl w x y q) false 0) (by simp [prO]))
  obtain ⟨h2, e2, o2⟩ := bread_ok (n := n) (t := z) hx.hb (h := h0) (F := (t, opO 2 which z v) :: (pp, prO w x y q) :: (x.B ++ (y.A ++ (y.B ++ (q.L ++ (es.flatMap Tt.G ++ F)))))) (o0.to fun z => by simp only [cnt_append, cnt_cons, List.cons_append]; omega) (by omega)
  have hzl : (iz .u8 zero32).length = 32 := by simp [zero32_length]
  have hwl : (rdv x.L (getV z x.kv) z).length = 32 := rdv_len (by obtain ⟨_, _, _, _, _, hkv, _⟩ := hx.hb; exact getV_len' hkv)
  have hsz := hx.hs z
  obtain ⟨R, hR⟩ : ∃ R, R = rdv x.L (getV z x.kv) z := ⟨_, rfl⟩
  rw [← hR] at e2 hwl
  have o3 := o2.new (.cells (iz .u8 zero32) false 0)
  generalize hc3 : h2.next = c3 at o3
  generalize hh3 : h2.new (.cells (iz .u8 zero32) false 0) = h3 at o3
  obtain ⟨h4, s4, o4, l4⟩ := tmp32 o3 hzl hwl
  obtain ⟨_, _, m2b, _⟩ := op_ld hv (o4.get (t, .cells (opc 2 which z v) false 0) (by simp [opO]))
  obtain ⟨h5, e5, o5⟩ := rread_ok (n := n) (t := z) hx.hr (h := h4) (F := (c3, .cells (iz .u8 R) false 0) :: (t, opO 2 which z v) :: (pp, prO w x y q) :: (x.A ++ (y.A ++ (y.B ++ (q.L ++ (es.flatMap Tt.G ++ F)))))) (o4.to fun z => by simp only [cnt_append, cnt_cons]; omega) (by omega) (by omega)
  rw [← hsz, ← hR] at e5
  have o6 := o5.new (.cells (iz .u8 zero32) false 0)
  generalize hc6 : h5.next = c6 at o6
  generalize hh6 : h5.new (.cells (iz .u8 zero32) false 0) = h6 at o6
  obtain ⟨h7, s7, o7, l7⟩ := tmp32 o6 hzl hwl
  have l8 : ldA 32 h7 (some ⟨c3, 0, none⟩) = some (iz .u8 R) := by rw [ldA_of (o7.get (c3, .cells (iz .u8 R) false 0) (by simp)) (by simp; omega), List.drop_zero, List.take_of_length_le (by simp; omega)]
  have ev := val_eq (h := h7) hwl
  refine ⟨h7, x, y, q, es, _, ?_, ⟨hx.mono (Nat.le_succ _), hy.mono (Nat.le_succ _), hq, he, vi, vk, vf, by omega, rfl⟩, o7.to fun z => by simp only [cnt_append, cnt_cons, List.cons_append]; omega⟩
  have hco : cellsOf (.agg ⟨opc 2 which z v⟩) = opc 2 which z v := rfl
  have hh0 : h.new (.cells (opc 2 which z v) false 0) = h0 := hh0
  simp only [f_wicketlaw16_pair_plays, hco, opc_cell, cond_true, bnd_eq, nwA_eq, ht, hh0, fa_mk, Nat.zero_add, m0, m1, m2, m3, hwh, Option.bind_some, i1, l1, i2, l2, show (decide ((2 : Int) = 1)) = false from rfl, decide_true, cond_false, e2, zero_iz, hc3, hh3, s4, m2b, e5, hc6, hh6, s7, l8, l7, ev, beq_self_eq_true]
theorem play_told (hp : PrB w pp k x y q es L) (hw : w < 2) (hwh : Int.tmod (IntKind.i64.wrap (Int.tmod which 2 + 2)) 2 = (w : Int)) (hv : v.length = 32) (ho : Own h (L ++ F)) (hk : k ≤ 200) (hn : 5000 ≤ n) : Played n w pp k 3 which z v h F := by
  obtain ⟨hx, hy, hq, he, vi, vk, vf, hek, rfl⟩ := hp
  have hxk := hx.hk
  have o0 := ho.new (opO 3 which z v)
  generalize ht : h.next = t at o0
  generalize hh0 : h.new (opO 3 which z v) = h0 at o0
  obtain ⟨m0, m1, m2, m3⟩ := op_ld hv o0.head
  obtain ⟨⟨q1, i1, l1, _⟩, ⟨q2, i2, l2, _⟩, _, _, _⟩ := pcl_ld hw (o0.get (pp, .cells (pcl w x y q) false 0) (by simp [prO]))
  obtain ⟨h2, q', es2, e2, r1, r2, r3, r4, r5, r6, o2⟩ := told_ok (n := n) (pp := pp) (y := y) hx hq hw (h := h0) (F := (t, opO 3 which z v) :: (y.A ++ (y.B ++ (es.flatMap Tt.G ++ F)))) (o0.to fun z => by simp only [cnt_append, cnt_cons, List.cons_append]; omega) (by omega) (by omega) (by omega)
  refine ⟨h2, x, y, q', es ++ es2, _, ?_, ⟨hx.mono (Nat.le_succ _), hy.mono (Nat.le_succ _), by rw [List.length_append, r2]; exact r1, fun e he' => ?_, by rw [r4, vi]; simp, by rw [r5, vk]; simp, by rw [r6, vf]; simp, by rw [List.length_append, r2]; omega, rfl⟩, o2.to fun z => by simp only [cnt_append, cnt_cons, List.cons_append, List.flatMap_append]; omega⟩
  · have hco : cellsOf (.agg ⟨opc 3 which z v⟩) = opc 3 which z v := rfl
    have hh0 : h.new (.cells (opc 3 which z v) false 0) = h0 := hh0
    simp only [f_wicketlaw16_pair_plays, hco, opc_cell, cond_true, bnd_eq, nwA_eq, ht, hh0, fa_mk, Nat.zero_add, m0, m1, m2, m3, hwh, Option.bind_some, i1, l1, i2, l2, show (decide ((3 : Int) = 1)) = false from rfl, show (decide ((3 : Int) = 2)) = false from rfl, decide_true, cond_false, e2]
  · rcases List.mem_append.1 he' with he' | he'
    · exact he e he'
    · exact r3 e he'
theorem play_copy (hp : PrB w pp k x y q es L) (hw : w < 2) (hwh : Int.tmod (IntKind.i64.wrap (Int.tmod which 2 + 2)) 2 = (w : Int)) (hwo : IntKind.i64.wrap (1 - (w : Int)) = ((1 - w : Nat) : Int)) (hv : v.length = 32) (ho : Own h (L ++ F)) (hk : k ≤ 200) (hn : 5000 ≤ n) : Played n w pp k 4 which z v h F := by
  obtain ⟨hx, hy, hq, he, vi, vk, vf, hek, rfl⟩ := hp
  have hxk := hx.hk
  have o0 := ho.new (opO 4 which z v)
  generalize ht : h.next = t at o0
  generalize hh0 : h.new (opO 4 which z v) = h0 at o0
  obtain ⟨m0, m1, m2, m3⟩ := op_ld hv o0.head
  obtain ⟨⟨q1, i1, l1, _⟩, ⟨q2, i2, l2, _⟩, _, _, _⟩ := pcl_ld hw (o0.get (pp, .cells (pcl w x y q) false 0) (by simp [prO]))
  obtain ⟨p', h2, A2, e2, b2, o2⟩ := bcopy_ok (n := n) hx.hb (h := h0) (F := (t, opO 4 which z v) :: (pp, prO w x y q) :: (x.B ++ (y.A ++ (y.B ++ (q.L ++ (es.flatMap Tt.G ++ F)))))) (o0.to fun z => by simp only [cnt_append, cnt_cons, List.cons_append]; omega)
  obtain ⟨r', h4, B4, e4, b4, o4⟩ := rcopy_ok (n := n) hx.hr (h := h2) (F := (t, opO 4 which z v) :: (pp, prO w x y q) :: (A2 ++ (x.A ++ (y.A ++ (y.B ++ (q.L ++ (es.flatMap Tt.G ++ F))))))) (o2.to fun z => by simp only [cnt_append, cnt_cons, List.cons_append]; omega) (by omega)
  obtain ⟨q3, h5, q4, h6, i3, s3, i4, s4, l6, o6⟩ := pcl_st (pp := pp) (z := ⟨p', r', x.L, x.kv, x.W, A2, B4⟩) hw (h := h4) (q := q) (x := x) (y := y) (F := (t, opO 4 which z v) :: (A2 ++ (B4 ++ (x.A ++ (x.B ++ (q.L ++ (es.flatMap Tt.G ++ F))))))) (o4.to fun z => by simp only [cnt_append, cnt_cons, List.cons_append]; omega)
  have s3 : stB 1 (.pointer (some ⟨p', 0, none⟩)) h4 (some q3) = some h5 := s3
  have s4 : stB 1 (.pointer (some ⟨r', 0, none⟩)) h5 (some q4) = some h6 := s4
  have l6 : ldT .ptr h6 (some q3) = some (some ⟨p', 0, none⟩) := l6
  refine ⟨h6, x, ⟨p', r', x.L, x.kv, x.W, A2, B4⟩, q, es, (pp, prO w x ⟨p', r', x.L, x.kv, x.W, A2, B4⟩ q) :: (x.A ++ (x.B ++ (A2 ++ (B4 ++ (q.L ++ es.flatMap Tt.G))))), ?_, ⟨hx.mono (Nat.le_succ _), ⟨b2, b4, hx.hs, Nat.le_succ_of_le hxk⟩, hq, he, vi, vk, vf, by omega, rfl⟩, o6.to fun z => by simp only [cnt_append, cnt_cons, List.cons_append]; omega⟩
  have hco : cellsOf (.agg ⟨opc 4 which z v⟩) = opc 4 which z v := rfl
  have hh0 : h.new (.cells (opc 4 which z v) false 0) = h0 := hh0
  simp only [f_wicketlaw16_pair_plays, hco, opc_cell, cond_true, bnd_eq, nwA_eq, ht, hh0, fa_mk, Nat.zero_add, m0, m1, m2, m3, hwh, Option.bind_some, i1, l1, i2, l2, show (decide ((4 : Int) = 1)) = false from rfl, show (decide ((4 : Int) = 2)) = false from rfl, show (decide ((4 : Int) = 3)) = false from rfl, decide_true, cond_false, e2, e4, hwo, i3, s3, i4, s4, l6, Option.isNone_some, Bool.not_false]
theorem play_none (hp : PrB w pp k x y q es L) {kind : Int} (hkd : kind < 1 ∨ 4 < kind) (hw : w < 2) (hwh : Int.tmod (IntKind.i64.wrap (Int.tmod which 2 + 2)) 2 = (w : Int)) (hv : v.length = 32) (ho : Own h (L ++ F)) : Played n w pp k kind which z v h F := by
  obtain ⟨hx, hy, hq, he, vi, vk, vf, hek, rfl⟩ := hp
  have o0 := ho.new (opO kind which z v)
  generalize ht : h.next = t at o0
  generalize hh0 : h.new (opO kind which z v) = h0 at o0
  obtain ⟨m0, m1, m2, m3⟩ := op_ld hv o0.head
  obtain ⟨⟨q1, i1, l1, _⟩, ⟨q2, i2, l2, _⟩, _, _, _⟩ := pcl_ld hw (o0.get (pp, .cells (pcl w x y q) false 0) (by simp [prO]))
  refine ⟨h0, x, y, q, es, _, ?_, ⟨hx.mono (Nat.le_succ _), hy.mono (Nat.le_succ _), hq, he, vi, vk, vf, by omega, rfl⟩, o0.to fun z => by simp only [cnt_append, cnt_cons, List.cons_append]; omega⟩
  have hco : cellsOf (.agg ⟨opc kind which z v⟩) = opc kind which z v := rfl
  have hh0 : h.new (.cells (opc kind which z v) false 0) = h0 := hh0
  have k1 : ¬ kind = 1 := by omega
  have k2 : ¬ kind = 2 := by omega
  have k3 : ¬ kind = 3 := by omega
  have k4 : ¬ kind = 4 := by omega
  simp only [f_wicketlaw16_pair_plays, hco, opc_cell, cond_true, bnd_eq, nwA_eq, ht, hh0, fa_mk, Nat.zero_add, m0, m1, m2, m3, hwh, Option.bind_some, i1, l1, i2, l2, k1, k2, k3, k4, decide_false, cond_false]
theorem plays_ok {kind : Int} (hp : PrB 0 pp k x y q es L) (hv : v.length = 32) (ho : Own h (L ++ F)) (hk : k ≤ 200) (hn : 5000 ≤ n) : Played n 0 pp k kind which z v h F := by
  obtain ⟨w, hw, hwh, hwo⟩ := which_ok which
  have main : ∀ {x y : Bs} {L : Ch}, PrB w pp k x y q es L → Own h (L ++ F) → Played n w pp k kind which z v h F := by
    intro x y L hp ho
    by_cases hkd : kind < 1 ∨ 4 < kind
    · exact play_none hp hkd hw hwh hv ho
    · have : kind = 1 ∨ kind = 2 ∨ kind = 3 ∨ kind = 4 := by omega
      rcases this with rfl | rfl | rfl | rfl
      · exact play_write hp hw hwh hv ho hk hn
      · exact play_read hp hw hwh hv ho hk hn
      · exact play_told hp hw hwh hv ho hk hn
      · exact play_copy hp hw hwh hwo hv ho hk hn
  have : w = 0 ∨ w = 1 := by omega
  rcases this with rfl | rfl
  · exact main hp ho
  · obtain ⟨L1, hp1, hc1⟩ := hp.swap (by decide)
    obtain ⟨h', x', y', q', es', L', e, p', o'⟩ := main hp1 (ho.to fun z => by have := hc1 z; simp only [cnt_append]; omega)
    obtain ⟨L2, hp2, hc2⟩ := p'.swap (by decide)
    exact ⟨h', y', x', q', es', L2, e, hp2, o'.to fun z => by have := hc2 z; simp only [cnt_append]; omega⟩
end
end Go.Proofs.Ytpihoicfnolepaa

/- BufferPlays, put together. -/
namespace Go.Proofs.Ytpihoicfnolepaa
open Go
set_option linter.unusedVariables false
set_option linter.unusedSimpArgs false
section
variable {n k pp w : Nat} {x y : Bs} {q : Tq} {es : List Tt} {L F G : Ch} {h : Heap} {u u0 u1 u2 : Value} {X X0 X1 : List Int} {cl : List Value} {p0 : (Bool × Unit) × Heap}
theorem good025 : Good [0, 2, 5] := by
  refine ⟨by decide, by decide, fun _ => by simp, fun _ => by simp, fun j h1 h2 => ?_⟩
  have : j = 1 ∨ j = 2 := by simp at h2; omega
  rcases this with rfl | rfl <;> simp
/-- A buffer of the form 0, 2, 5 on both sides. -/
theorem own025 (ho : Own h F) (hn : 100 ≤ n) {p9 p10 : (Option Addr × Int × Unit) × Heap} (hnone : p10.1.1 = none) :
    ∃ h' x, f_wicketlaw16_BufferPlays_C28 n p9 p10 h = some (.inl ((some ⟨x.p, 0, none⟩, (some ⟨x.r, 0, none⟩, ())), h')) ∧ BsOk 0 x ∧ Own h' (x.A ++ (x.B ++ F)) := by
  have f1 : fillL [.int .i64 0, .int .i64 0, .int .i64 0] [(0, 1, .int .i64 0), (1, 1, .int .i64 2), (2, 1, .int .i64 5)] = some (iz .i64 [0, 2, 5]) := rfl
  have o1 := ho.new (.cells (iz .i64 [0, 2, 5]) false 1)
  have y1 : Slc 1 (.slice (some ⟨h.next, 0, some 0⟩) 3 3) 3 (iz .i64 [0, 2, 5]) [(h.next, .cells ([] ++ (iz .i64 [0, 2, 5] ++ [])) false 1)] := .mk rfl rfl rfl
  generalize hb1 : h.next = b1 at o1 y1
  generalize hh1 : h.new (.cells (iz .i64 [0, 2, 5]) false 1) = h1 at o1
  obtain ⟨p, h2, A, e2, b2, o2⟩ := bnew_ok (n := n) (L := [0, 2, 5]) y1.sow (h := h1) (F := F) (o1.to fun z => by simp only [cnt_append, cnt_cons, cnt_nil, List.nil_append, List.append_nil]; omega) hn good025
  have o3 := o2.new (.cells (iz .i64 [0, 2, 5]) false 1)
  have y2 : Slc 1 (.slice (some ⟨h2.next, 0, some 0⟩) 3 3) 3 (iz .i64 [0, 2, 5]) [(h2.next, .cells ([] ++ (iz .i64 [0, 2, 5] ++ [])) false 1)] := .mk rfl rfl rfl
  generalize hb2 : h2.next = b3 at o3 y2
  generalize hh3 : h2.new (.cells (iz .i64 [0, 2, 5]) false 1) = h3 at o3
  obtain ⟨r, h4, B, e4, b4, o4⟩ := rnew_ok (n := n) (L := [0, 2, 5]) y2.sow (h := h3) (F := A ++ F) (o3.to fun z => by simp only [cnt_append, cnt_cons, cnt_nil, List.nil_append, List.append_nil]; omega) hn good025
  refine ⟨h4, ⟨p, r, [0, 2, 5], [], [], A, B⟩, ?_, ⟨b2, b4, fun t => rfl, Nat.le_refl _⟩, o4.to fun z => by simp only [cnt_append, cnt_cons]; omega⟩
  have e2 : f_buffer_New n (.slice (some ⟨b1, 0, some 0⟩) 3 3) h1 = some ((some ⟨p, 0, none⟩, (0, ())), h2) := e2
  have e4 : f_wicketref16_New n (.slice (some ⟨b3, 0, some 0⟩) 3 3) h3 = some ((some ⟨r, 0, none⟩, (0, ())), h4) := e4
  simp only [f_wicketlaw16_BufferPlays_C28, hnone, Option.isNone_none, cond_true, f1, Option.bind_some, bnd_eq, hb1, hh1, e2, hb2, hh3, e4, decide_true, Bool.not_true, cond_false, Option.isNone_some]
theorem c34_ok (hw : w < 2) (hform : u = if w = 1 then u1 else u0) (hu : Sow 1 u X.length (iz .i64 X) G) (hpp : p0.2.next = pp) (hcl : cl.length = 7) (ho : Own h ((pp, .cells cl false 0) :: (G ++ F))) (hX : (X.length + 2) * 8 ≤ 140737488355328) (hn : X.length + 1000 ≤ n) :
    ∃ h' x, f_wicketlaw16_BufferPlays_C34 n u1 u0 p0 (w : Int) h = some (.inl ((), h')) ∧ BsOk 0 x ∧ Own h' ((pp, .cells ((cl.set w (.pointer (some ⟨x.p, 0, none⟩))).set (2 + w) (.pointer (some ⟨x.r, 0, none⟩))) false 0) :: (x.A ++ (x.B ++ (G ++ F)))) := by
  obtain ⟨s1, h1, A1, e1, a1, o1⟩ := roomy_ok (n := n) hu (h := h) (F := (pp, .cells cl false 0) :: F) (ho.to fun z => by simp only [cnt_append, cnt_cons]; omega) hX
  have a1' := a1.slc
  -- the two new ones
  have key : ∃ (r1 r2 : Option Addr) (c : Int) (h2 h3 h5 : Heap) (x : Bs), f_buffer_New n s1 h1 = some ((r1, (c, ())), h2) ∧ f_wicketref16_New n u h2 = some ((r2, (c, ())), h3) ∧ r1.isNone = r2.isNone ∧ f_wicketlaw05_Held n s1 u h3 = some ((true, ()), h3) ∧
      (∃ h4, loopT (fun a => f_wicketlaw16_BufferPlays_L18 n ((s1, ()), h1) a.1.1 a.2) n (((0 : Int), ()), h3) = some ((), h4) ∧
        f_wicketlaw16_BufferPlays_C28 n ((r1, (c, ())), h2) ((r2, (c, ())), h3) h4 = some (.inl ((some ⟨x.p, 0, none⟩, (some ⟨x.r, 0, none⟩, ())), h5))) ∧ BsOk 0 x ∧ Own h5 (x.A ++ (x.B ++ ((pp, .cells cl false 0) :: (G ++ F)))) := by
    have fill : ∀ {h3 : Heap} {F1 : Ch}, Own h3 (A1 ++ F1) → ∃ h4 A4, loopT (fun a => f_wicketlaw16_BufferPlays_L18 n ((s1, ()), h1) a.1.1 a.2) n (((0 : Int), ()), h3) = some ((), h4) ∧ Own h4 (A4 ++ F1) := by
      intro h3 F1 o3
      refine fills_ok (n := n) (kk := .i64) (cc := fun k => IntKind.i64.wrap (63 - (k : Int))) (r := ()) a1' o3 (fun k h1' h2' q hk g1 g2 => ?_) (fun h1' => ?_) (by omega) (by omega)
      · have hlt : (k : Int) < (X.length : Int) := by omega
        simp only [f_wicketlaw16_BufferPlays_L18, a1'.lenB, Option.bind_some, hlt, decide_true, cond_true, g1, g2]
      · have hlt : ¬ (X.length : Int) < (X.length : Int) := by omega
        simp only [f_wicketlaw16_BufferPlays_L18, a1'.lenB, Option.bind_some, hlt, decide_false, cond_false]
    by_cases hg : Good X
    · obtain ⟨p, h2, A2, e2, b2, o2⟩ := bnew_ok (n := n) (L := X) a1'.sow (h := h1) o1 (by omega) hg
      obtain ⟨r, h3, B3, e3, b3, o3⟩ := rnew_ok (n := n) (L := X) hu (h := h2) (F := A2 ++ (A1 ++ ((pp, .cells cl false 0) :: F))) (o2.to fun z => by simp only [cnt_append, cnt_cons]; omega) (by omega) hg
      have e4 := heldI_ok (n := n) a1 hu (h := h3) (F := B3 ++ (A2 ++ ((pp, .cells cl false 0) :: F))) (o3.to fun z => by simp only [cnt_append, cnt_cons]; omega) hX (by omega)
      obtain ⟨h4, A4, e5, o4⟩ := fill (h3 := h3) (F1 := B3 ++ (A2 ++ ((pp, .cells cl false 0) :: (G ++ F)))) (o3.to fun z => by simp only [cnt_append, cnt_cons]; omega)
      refine ⟨some ⟨p, 0, none⟩, some ⟨r, 0, none⟩, 0, h2, h3, h4, ⟨p, r, X, [], [], A2, B3⟩, e2, e3, rfl, e4, ⟨h4, e5, ?_⟩, ⟨b2, b3, fun t => rfl, Nat.le_refl _⟩, o4.to fun z => by simp only [cnt_append, cnt_cons]; omega⟩
      simp only [f_wicketlaw16_BufferPlays_C28, Option.isNone_some, cond_false]
    · have r1 := a1'.rds o1
      have r2 := hu.rds (h := h1) (F := A1 ++ ((pp, .cells cl false 0) :: F)) (o1.to fun z => by simp only [cnt_append, cnt_cons]; omega)
      have e4 := heldI_ok (n := n) a1 hu (h := h1) (F := (pp, .cells cl false 0) :: F) o1 hX (by omega)
      obtain ⟨h4, A4, e5, o4⟩ := fill (h3 := h1) (F1 := (pp, .cells cl false 0) :: (G ++ F)) (o1.to fun z => by simp only [cnt_append, cnt_cons]; omega)
      obtain ⟨h5, x, e6, b6, o6⟩ := own025 (n := n) (p9 := ((none, (53, ())), h1)) (p10 := ((none, (53, ())), h1)) (h := h4) (F := (pp, .cells cl false 0) :: (G ++ F)) (o4.to fun z => by simp only [cnt_append, cnt_cons]; omega) (by omega) rfl
      exact ⟨none, none, 53, h1, h1, h5, x, bnew_bad r1 (by omega) hg, rnew_bad r2 (by omega) hg, rfl, e4, ⟨h4, e5, e6⟩, b6, o6⟩
  obtain ⟨r1, r2, c, h2, h3, h5, x, e2, e3, hrr, e4, ⟨h4, e5, e6⟩, bx, o5⟩ := key
  have o5' : Own h5 ((pp, .cells cl false 0) :: (x.A ++ (x.B ++ (G ++ F)))) := o5.to fun z => by simp only [cnt_append, cnt_cons]; omega
  have s7 := stB1_of (sp := none) (o := w) (v := .pointer (some ⟨x.p, 0, none⟩)) o5'.head rfl rfl (by omega)
  have o7 := o5'.put (.cells (cl.set w (.pointer (some ⟨x.p, 0, none⟩))) false 0)
  have s8 := stB1_of (sp := none) (o := 2 + w) (v := .pointer (some ⟨x.r, 0, none⟩)) o7.head rfl rfl (by rw [List.length_set]; omega)
  have o8 := o7.put (.cells ((cl.set w (.pointer (some ⟨x.p, 0, none⟩))).set (2 + w) (.pointer (some ⟨x.r, 0, none⟩))) false 0)
  refine ⟨_, x, ?_, bx, o8⟩
  have ix1 : ixA 2 1 (some ⟨pp, 0, none⟩) (w : Int) = some ⟨pp, w, none⟩ := by
    have : w = 0 ∨ w = 1 := by omega
    rcases this with rfl | rfl <;> rfl
  have ix2 : ixA 2 1 (some ⟨pp, 2, none⟩) (w : Int) = some ⟨pp, 2 + w, none⟩ := by
    have : w = 0 ∨ w = 1 := by omega
    rcases this with rfl | rfl <;> rfl
  have hsel : ((bif (decide ((w : Int) = 1)) then (some ((u1, ()), h)) else (some ((u0, ()), h))) : Option ((Value × Unit) × Heap)) = some ((u, ()), h) := by
    have : w = 0 ∨ w = 1 := by omega
    rcases this with rfl | rfl
    · rw [hform]; rfl
    · rw [hform]; rfl
  simp only [f_wicketlaw16_BufferPlays_C34, hsel, Option.bind_some, e1, e2, e3, decide_true, Bool.not_true, cond_false, hrr, beq_self_eq_true, e4, e5, e6, thenB_inl, nwA_eq, hpp, fa_mk, Nat.zero_add, ix1, s7, ix2, s8]
theorem c37_ok (hu0 : Sow 1 u0 X0.length (iz .i64 X0) G) (hu1 : Sow 1 u1 X1.length (iz .i64 X1) G) (hpp : p0.2.next = pp) (ho : Own h ((pp, .cells [.pointer none, .pointer none, .pointer none, .pointer none, .slice none 0 0, .slice none 0 0, .slice none 0 0] false 0) :: (G ++ F)))
    (hX0 : (X0.length + 2) * 8 ≤ 140737488355328) (hX1 : (X1.length + 2) * 8 ≤ 140737488355328) (hn0 : X0.length + 1000 ≤ n) (hn1 : X1.length + 1000 ≤ n) :
    ∃ h' x y, f_wicketlaw16_BufferPlays_C37 n u1 u0 p0 h = some (.inl ((), h')) ∧ BsOk 0 x ∧ BsOk 0 y ∧ Own h' ((pp, prO 0 x y ⟨.slice none 0 0, .slice none 0 0, .slice none 0 0, [], [], [], [], [], []⟩) :: (x.A ++ (x.B ++ (y.A ++ (y.B ++ (G ++ F)))))) := by
  obtain ⟨h1, x, e1, b1, o1⟩ := c34_ok (n := n) (w := 0) (u0 := u0) (u1 := u1) (u := u0) (by decide) rfl hu0 hpp rfl ho hX0 hn0
  have o1 : Own h1 ((pp, .cells [.pointer (some ⟨x.p, 0, none⟩), .pointer none, .pointer (some ⟨x.r, 0, none⟩), .pointer none, .slice none 0 0, .slice none 0 0, .slice none 0 0] false 0) :: (x.A ++ (x.B ++ (G ++ F)))) := o1
  obtain ⟨h2, y, e2, b2, o2⟩ := c34_ok (n := n) (cl := [.pointer (some ⟨x.p, 0, none⟩), .pointer none, .pointer (some ⟨x.r, 0, none⟩), .pointer none, .slice none 0 0, .slice none 0 0, .slice none 0 0]) (w := 1) (u0 := u0) (u1 := u1) (u := u1) (h := h1) (by decide) rfl hu1 hpp rfl (F := x.A ++ (x.B ++ F)) (o1.to fun z => by simp only [cnt_append, cnt_cons]; omega) hX1 hn1
  obtain ⟨m, rfl⟩ : ∃ m, n = m + 3 := ⟨n - 3, by omega⟩
  have o2' : Own h2 ((pp, prO 0 x y ⟨.slice none 0 0, .slice none 0 0, .slice none 0 0, [], [], [], [], [], []⟩) :: (y.A ++ (y.B ++ (G ++ (x.A ++ (x.B ++ F)))))) := o2
  refine ⟨h2, x, y, ?_, b1, b2, o2'.to fun z => by simp only [cnt_append, cnt_cons]; omega⟩
  have l0 : f_wicketlaw16_BufferPlays_L36 (m + 3) u1 u0 p0 0 h = some (.inl ((1, ()), h1)) := by
    have e1 : f_wicketlaw16_BufferPlays_C34 (m + 3) u1 u0 p0 0 h = some (.inl ((), h1)) := e1
    simp only [f_wicketlaw16_BufferPlays_L36, e1, thenB_inl, show (decide ((0 : Int) < 2)) = true from rfl, cond_true]; rfl
  have l1 : f_wicketlaw16_BufferPlays_L36 (m + 3) u1 u0 p0 1 h1 = some (.inl ((2, ()), h2)) := by
    have e2 : f_wicketlaw16_BufferPlays_C34 (m + 3) u1 u0 p0 1 h1 = some (.inl ((), h2)) := e2
    simp only [f_wicketlaw16_BufferPlays_L36, e2, thenB_inl, show (decide ((1 : Int) < 2)) = true from rfl, cond_true]; rfl
  have l2 : f_wicketlaw16_BufferPlays_L36 (m + 3) u1 u0 p0 2 h2 = some (.inr (.inl ((), h2))) := rfl
  rw [f_wicketlaw16_BufferPlays_C37]
  exact ((loopT_go (f := fun a => f_wicketlaw16_BufferPlays_L36 (m + 3) u1 u0 p0 a.1.1 a.2) (k := m + 2) l0).trans (loopT_go (k := m + 1) l1)).trans (loopT_end (k := m) l2)
end
/-- A step of the script. -/
structure Sps where
  kind : Int
  which : Int
  t : Int
  v : List Int
def Sps.cells (s : Sps) : List Value := opc s.kind s.which s.t s.v
structure Scr (S : List Sps) (u : Value) (G : Ch) : Prop where
  s : Sow 35 u S.length (S.flatMap Sps.cells) G
  v : ∀ s ∈ S, s.v.length = 32
section
variable {n k pp w : Nat} {x y : Bs} {q : Tq} {es : List Tt} {L F G : Ch} {h : Heap} {u u0 u1 u2 : Value} {X X0 X1 : List Int} {cl : List Value} {p0 : (Bool × Unit) × Heap} {S : List Sps}
theorem script_ok (hs : Scr S u G) (hp : PrB 0 pp 0 x y q es L) (ho : Own h (L ++ (G ++ F))) (h7 : p0.2.next = pp) (hn : 5000 ≤ n) :
    ∃ h' x' y' q' es' L', f_wicketlaw16_BufferPlays_C48 n u p0 h = some (.inl ((), h')) ∧ PrB 0 pp 100 x' y' q' es' L' ∧ Own h' (L' ++ (G ++ F)) := by
  have hm : min S.length 100 ≤ 100 := Nat.min_le_right _ _
  obtain ⟨r, e, h', rfl, x', y', q', es', L', q1, q2⟩ := loopT_up (f := fun a => f_wicketlaw16_BufferPlays_L47 n u p0 a.1.1 a.2)
    (fun j (a : (Int × Unit) × Heap) => a.1.1 = (j : Int) ∧ ∃ x y q es L, PrB 0 pp j x y q es L ∧ Own a.2 (L ++ (G ++ F)))
    (fun r => ∃ h', r = .inl ((), h') ∧ ∃ x y q es L, PrB 0 pp 100 x y q es L ∧ Own h' (L ++ (G ++ F))) (N := min S.length 100) (k := n) (j := 0) (a := ((0, ()), h)) (by omega) (by omega)
    ⟨rfl, x, y, q, es, L, hp, ho⟩
    (fun j a hj hi => by
      obtain ⟨⟨v, _⟩, h1⟩ := a
      obtain ⟨hv, x, y, q, es, L, hp, ho⟩ := hi
      have hv : v = (j : Int) := hv
      subst hv
      have ho : Own h1 (L ++ (G ++ F)) := ho
      have hjs : j < S.length := by omega
      have c1 : (j : Int) < (S.length : Int) := by omega
      have c2 : (j : Int) < 100 := by omega
      have hr := hs.s.rds (h := h1) (F := L ++ F) (ho.to fun x => by simp only [cnt_append]; omega)
      obtain ⟨a, e1, e2⟩ := hr.ix j hjs
      have hcl : ∀ s ∈ S, s.cells.length = 35 := fun s hs' => by have := hs.v s hs'; simp [Sps.cells, opc]; omega
      rw [flat_get hcl hjs] at e2
      have hl5 := hcl _ (List.getElem_mem hjs)
      have e3 := e2.ldA0 (k := 35) (by omega)
      rw [List.take_of_length_le (by omega)] at e3
      obtain ⟨h2, x2, y2, q2, es2, L2, e4, p4, o4⟩ := plays_ok (n := n) (kind := S[j].kind) (which := S[j].which) (z := S[j].t) hp (hs.v _ (List.getElem_mem hjs)) ho (by omega) hn
      refine .inl ⟨((((j + 1 : Nat) : Int), ()), h2), ?_, rfl, x2, y2, q2, es2, L2, p4, o4⟩
      have e4 : f_wicketlaw16_pair_plays n (some ⟨pp, 0, none⟩) (.agg ⟨S[j].cells⟩) h1 = some ((true, ()), h2) := e4
      simp only [f_wicketlaw16_BufferPlays_L47, hr.lenB, Option.bind_some, c1, c2, decide_true, cond_true, e1, e3, nwA_eq, h7, e4, Bool.not_true, cond_false, wrap_succ (show j < 4611686018427387904 by omega)])
    (fun a hi => by
      obtain ⟨⟨v, _⟩, h1⟩ := a
      obtain ⟨hv, x, y, q, es, L, hp, ho⟩ := hi
      have hv : v = ((min S.length 100 : Nat) : Int) := hv
      subst hv
      have ho : Own h1 (L ++ (G ++ F)) := ho
      have hr := hs.s.rds (h := h1) (F := L ++ F) (ho.to fun x => by simp only [cnt_append]; omega)
      refine ⟨.inl ((), h1), ?_, h1, rfl, x, y, q, es, L, ⟨hp.hx.mono hm, hp.hy.mono hm, hp.hq, hp.he, hp.vi, hp.vk, hp.vf, by have := hp.hk; omega, hp.hl⟩, ho⟩
      by_cases c1 : ((min S.length 100 : Nat) : Int) < (S.length : Int)
      · have c2 : ¬ ((min S.length 100 : Nat) : Int) < 100 := by omega
        simp only [f_wicketlaw16_BufferPlays_L47, hr.lenB, Option.bind_some, c1, c2, decide_true, decide_false, cond_true, cond_false]
      · simp only [f_wicketlaw16_BufferPlays_L47, hr.lenB, Option.bind_some, c1, decide_false, cond_false])
  exact ⟨h', x', y', q', es', L', e, q1, q2⟩
theorem tt_cnt (hes : ∀ e ∈ es, e ∈ es) (z : Nat × AObj) : cnt z (es.flatMap Tt.G) = cnt z (es.flatMap Tt.A) + (cnt z (es.flatMap Tt.B) + cnt z (es.flatMap Tt.C)) := by
  clear hes
  induction es with
  | nil => simp [cnt_nil]
  | cons e es ih => simp only [List.flatMap_cons, cnt_append, ih, Tt.G]; omega
/-- What was told stays what it was. -/
theorem kept_ok (hq : TqOk es.length q) (he : ∀ e ∈ es, TtOk e) (vi : q.vi = es.map Tt.i) (vk : q.vk = es.map Tt.k) (hw : w < 2) (ho : Own h ((pp, prO w x y q) :: (q.L ++ (es.flatMap Tt.G ++ F)))) (h7 : p0.2.next = pp) (hl : es.length ≤ 1000) (hn : 5000 ≤ n) :
    f_wicketlaw16_BufferPlays_C66 n p0 h = some (.inl ((), h)) := by
  obtain ⟨_, _, l4, l5, _⟩ := pcl_ld hw (ho.get (pp, .cells (pcl w x y q) false 0) (by simp [prO]))
  have r4 := hq.i.rds (h := h) (F := q.B ++ (q.C ++ (es.flatMap Tt.G ++ ((pp, prO w x y q) :: F)))) (ho.to fun z => by simp only [Tq.L, cnt_append, cnt_cons]; omega)
  have r5 := hq.k.rds (h := h) (F := q.A ++ (q.C ++ (es.flatMap Tt.G ++ ((pp, prO w x y q) :: F)))) (ho.to fun z => by simp only [Tq.L, cnt_append, cnt_cons]; omega)
  rw [vi] at r4
  rw [vk] at r5
  obtain ⟨r, e, q'⟩ := loopT_up (f := fun a => f_wicketlaw16_BufferPlays_L65 n p0 a.1.1 a.2)
    (fun j (a : (Int × Unit) × Heap) => a = (((j : Int), ()), h)) (fun r => r = .inl ((), h)) (N := es.length) (k := n) (j := 0) (a := ((0, ()), h)) (by omega) (by omega) rfl
    (fun j a hj hi => by
      subst hi
      have hlt : (j : Int) < (es.length : Int) := by omega
      obtain ⟨q1, e1, e2⟩ := r4.ix j hj
      obtain ⟨q2, e3, e4⟩ := r5.ix j hj
      have g2 : ldT .any h (some q1) = some es[j].i := by
        have := e2.ldT0 (ty := .any) (v := es[j].i) (by rw [Nat.mul_one, List.getElem?_take, if_pos (by omega), List.getElem?_drop]; simp [hj])
        rw [this]; rfl
      have g4 : ldT .any h (some q2) = some es[j].k := by
        have := e4.ldT0 (ty := .any) (v := es[j].k) (by rw [Nat.mul_one, List.getElem?_take, if_pos (by omega), List.getElem?_drop]; simp [hj])
        rw [this]; rfl
      have ht := he _ (List.getElem_mem hj)
      have ho' : ∀ z ∈ es[j].G, h.get z.1 = some z.2 := fun z hz => ho.get z (by
        simp only [List.mem_append, List.mem_cons]
        exact .inr (.inr (.inl (List.mem_flatMap.2 ⟨_, List.getElem_mem hj, hz⟩))))
      have t1 := ht.i.sow h fun z hz => ho' z (List.mem_append_left _ hz)
      have t2 := ht.k.sow h fun z hz => ho' z (List.mem_append_right _ (List.mem_append_left _ hz))
      have e5 := same16_ok (n := n) ht.m t1 t2 (by have := ht.n; omega) (by have := ht.n; omega)
      exact .inl ⟨_, by simp only [f_wicketlaw16_BufferPlays_L65, nwA_eq, h7, fa_mk, Nat.zero_add, l4, l5, Option.bind_some, r4.lenB, hlt, decide_true, cond_true, e1, e3, g2, g4, e5, Bool.not_true, cond_false, wrap_succ (show j < 4611686018427387904 by omega)], rfl⟩)
    (fun a hi => by
      subst hi
      have hlt : ¬ (es.length : Int) < (es.length : Int) := by omega
      exact ⟨.inl ((), h), by simp only [f_wicketlaw16_BufferPlays_L65, nwA_eq, h7, fa_mk, Nat.zero_add, l4, Option.bind_some, r4.lenB, hlt, decide_false, cond_false], rfl⟩)
  rw [f_wicketlaw16_BufferPlays_C66, e, q']

theorem bufferPlays_ok (hu0 : Sow 1 u0 X0.length (iz .i64 X0) G) (hu1 : Sow 1 u1 X1.length (iz .i64 X1) G) (hs : Scr S u2 G) (ho : Own h G)
    (hX0 : (X0.length + 2) * 8 ≤ 140737488355328) (hX1 : (X1.length + 2) * 8 ≤ 140737488355328) (hn : 5000 ≤ n) (hn0 : X0.length + 1000 ≤ n) (hn1 : X1.length + 1000 ≤ n) : ∃ h', f_wicketlaw16_BufferPlays n u0 u1 u2 h = some ((true, ()), h') := by
  have aw : f_wicketlaw16_awake n h = some ((true, ()), h) := rfl
  have f1 : fillL [.pointer none, .pointer none, .pointer none, .pointer none, .slice none 0 0, .slice none 0 0, .slice none 0 0] [] = some [.pointer none, .pointer none, .pointer none, .pointer none, .slice none 0 0, .slice none 0 0, .slice none 0 0] := rfl
  have hc : ([.pointer none, .pointer none, .pointer none, .pointer none, .slice none 0 0, .slice none 0 0, .slice none 0 0] : List Value).all isCell = true := rfl
  have o1 := ho.new (.cells [.pointer none, .pointer none, .pointer none, .pointer none, .slice none 0 0, .slice none 0 0, .slice none 0 0] false 0)
  obtain ⟨pp, hpp⟩ : ∃ pp, h.next = pp := ⟨_, rfl⟩
  rw [hpp] at o1
  generalize hh1 : h.new (.cells [.pointer none, .pointer none, .pointer none, .pointer none, .slice none 0 0, .slice none 0 0, .slice none 0 0] false 0) = h1 at o1
  obtain ⟨h2, x, y, e2, bx, by', o2⟩ := c37_ok (n := n) (p0 := ((true, ()), h)) hu0 hu1 hpp (h := h1) (F := []) (by simpa using o1) hX0 hX1 hn0 hn1
  obtain ⟨h3, x3, y3, q3, es, L3, e3, p3, o3⟩ := script_ok (n := n) (p0 := ((true, ()), h)) (pp := pp) hs (x := x) (y := y) (es := []) (q := ⟨.slice none 0 0, .slice none 0 0, .slice none 0 0, [], [], [], [], [], []⟩)
    ⟨bx, by', ⟨.nil, .nil, .nil⟩, fun _ h => absurd h List.not_mem_nil, rfl, rfl, rfl, Nat.le_refl _, rfl⟩ (h := h2) (F := []) (o2.to fun z => by simp only [Tq.L, cnt_append, cnt_cons, cnt_nil, List.cons_append, List.flatMap_nil]; omega) hpp hn
  obtain ⟨hx, hy, hq, he, vi, vk, vf, hek, rfl⟩ := p3
  have sw : ∀ q, prO 0 x3 y3 q = prO 1 y3 x3 q := fun q => rfl
  -- told twice more
  obtain ⟨h4, q4, es4, e4, t4, n4, k4, vi4, vk4, vf4, o4⟩ := told_ok (n := n) (pp := pp) (y := y3) hx hq (w := 0) (by decide) (h := h3) (F := y3.A ++ (y3.B ++ (es.flatMap Tt.G ++ G))) (o3.to fun z => by simp only [cnt_append, cnt_cons, cnt_nil, List.cons_append]; omega) (by omega) (by omega) hn
  rw [sw] at o4
  obtain ⟨h5, q5, es5, e5, t5, n5, k5, vi5, vk5, vf5, o5⟩ := told_ok (n := n) (pp := pp) (y := x3) hy t4 (w := 1) (by decide) (h := h4) (F := x3.A ++ (x3.B ++ (es4.flatMap Tt.G ++ (es.flatMap Tt.G ++ G)))) (o4.to fun z => by simp only [cnt_append, cnt_cons]; omega) (by omega) (by omega) hn
  -- all that was told
  obtain ⟨E, hE⟩ : ∃ E, E = es ++ (es4 ++ es5) := ⟨_, rfl⟩
  have hEl : E.length = es.length + 2 + 2 := by rw [hE]; simp [n4, n5]
  have hEe : ∀ e ∈ E, TtOk e := by
    intro e hm
    rw [hE] at hm
    rcases List.mem_append.1 hm with hm | hm
    · exact he e hm
    · rcases List.mem_append.1 hm with hm | hm
      · exact k4 e hm
      · exact k5 e hm
  have hvi : q5.vi = E.map Tt.i := by rw [vi5, vi4, vi, hE]; simp
  have hvk : q5.vk = E.map Tt.k := by rw [vk5, vk4, vk, hE]; simp
  have hvf : q5.vf = E.map Tt.f := by rw [vf5, vf4, vf, hE]; simp
  rw [← hEl] at t5
  have o6 : Own h5 ((pp, prO 1 y3 x3 q5) :: (q5.L ++ (E.flatMap Tt.G ++ (x3.A ++ (x3.B ++ (y3.A ++ (y3.B ++ G))))))) := o5.to fun z => by rw [hE]; simp only [cnt_append, cnt_cons, List.flatMap_append]; omega
  have e6 := kept_ok (n := n) (p0 := ((true, ()), h)) t5 hEe hvi hvk (by decide) o6 hpp (by omega) hn
  obtain ⟨_, _, l4, _, l6⟩ := pcl_ld (by decide) (o6.get (pp, .cells (pcl 1 y3 x3 q5) false 0) (by simp [prO]))
  have hAi : (E.map fun e => (⟨e.i, e.M.length, e.M.flatMap img, e.A⟩ : Ax)).flatMap Ax.A = E.flatMap Tt.A := by rw [List.flatMap_map]
  have hAf : (E.map fun e => (⟨e.f, e.L.length, iz .i64 e.L, e.C⟩ : Ax)).flatMap Ax.A = E.flatMap Tt.C := by rw [List.flatMap_map]
  obtain ⟨h7, e7, o7⟩ := apart16_ok (n := n) (B := 16) (u := q5.i) (xs := E.map fun e => ⟨e.i, e.M.length, e.M.flatMap img, e.A⟩) (U := q5.A) (h := h5) (F := (pp, prO 1 y3 x3 q5) :: (q5.B ++ (q5.C ++ (E.flatMap Tt.B ++ (E.flatMap Tt.C ++ (x3.A ++ (x3.B ++ (y3.A ++ (y3.B ++ G)))))))))
    (by have := t5.i; rw [hvi] at this; simpa [Function.comp_def] using this)
    (fun a ha => by obtain ⟨e, hm, rfl⟩ := List.mem_map.1 ha; exact ⟨(hEe e hm).i, (hEe e hm).n⟩)
    (o6.to fun z => by rw [hAi]; have := tt_cnt (es := E) (fun _ h => h) z; simp only [Tq.L, cnt_append, cnt_cons]; omega) (by decide) (by rw [List.length_map]; omega) (by omega) (by rw [List.length_map]; omega)
  obtain ⟨_, _, _, _, l8⟩ := pcl_ld (by decide) (o7.get (pp, .cells (pcl 1 y3 x3 q5) false 0) (by simp [prO]))
  obtain ⟨h8, e8, o8⟩ := apart5_ok (n := n) (B := 16) (u := q5.f) (xs := E.map fun e => ⟨e.f, e.L.length, iz .i64 e.L, e.C⟩) (U := q5.C) (h := h7) (F := (pp, prO 1 y3 x3 q5) :: (q5.A ++ (q5.B ++ (x3.A ++ (x3.B ++ (y3.A ++ (y3.B ++ G)))))))
    (by have := t5.f; rw [hvf] at this; simpa [Function.comp_def] using this)
    (fun a ha => by obtain ⟨e, hm, rfl⟩ := List.mem_map.1 ha; exact ⟨(hEe e hm).f, (hEe e hm).l⟩)
    (o7.to fun z => by rw [hAf]; simp only [cnt_append, cnt_cons]; omega) (by decide) (by rw [List.length_map]; omega) (by omega) (by rw [List.length_map]; omega)
  have o8' : Own h8 ((pp, prO 0 x3 y3 q5) :: (x3.A ++ (x3.B ++ (q5.L ++ (y3.A ++ (y3.B ++ G)))))) := by
    rw [sw]; exact o8.to fun z => by simp only [Tq.L, cnt_append, cnt_cons]; omega
  obtain ⟨h9, q9, es9, e9, t9, n9, k9, _, _, _, o9⟩ := told_ok (n := n) (pp := pp) (y := y3) hx t5 (w := 0) (by decide) (h := h8) (F := y3.A ++ (y3.B ++ G)) o8' (by omega) (by omega) hn
  rw [sw] at o9
  obtain ⟨h10, q10, es10, e10, t10, _, _, _, _, _, o10⟩ := told_ok (n := n) (pp := pp) (y := x3) hy t9 (w := 1) (by decide) (h := h9) (F := x3.A ++ (x3.B ++ (es9.flatMap Tt.G ++ G))) (o9.to fun z => by simp only [cnt_append, cnt_cons]; omega) (by omega) (by omega) hn
  refine ⟨h10, ?_⟩
  have e4 : f_wicketlaw16_pair_told n (some ⟨pp, 0, none⟩) 0 h3 = some ((true, ()), h4) := e4
  have e5 : f_wicketlaw16_pair_told n (some ⟨pp, 0, none⟩) 1 h4 = some ((true, ()), h5) := e5
  have e9 : f_wicketlaw16_pair_told n (some ⟨pp, 0, none⟩) 0 h8 = some ((true, ()), h9) := e9
  have e10 : f_wicketlaw16_pair_told n (some ⟨pp, 0, none⟩) 1 h9 = some ((true, ()), h10) := e10
  simp only [f_wicketlaw16_BufferPlays, aw, Option.bind_some, Bool.not_true, cond_false, f1, hc, cond_true, bnd_eq, hh1, e2, thenB_inl, e3, nwA_eq, hpp, e4, e5, e6, fa_mk, Nat.zero_add, l4, e7, l8, e8, e9, e10]
end
end Go.Proofs.Ytpihoicfnolepaa

