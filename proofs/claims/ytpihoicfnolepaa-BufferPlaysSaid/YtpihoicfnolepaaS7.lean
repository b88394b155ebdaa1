/- Lists that are grown one by one, and looked at. -/
import Derived.Test.YtpihoicfnolepaaS6
namespace Go.Proofs.Ytpihoicfnolepaa
open Go
set_option linter.unusedVariables false
set_option linter.unusedSimpArgs false

/-- Kept: at the beginning of x, or elsewhere. -/
def Kq (es : Nat) (sh : Shs) (x : Value) (D : Ch) (a b : List Value) (m : Nat) (t : Value × Nat) : Prop := Bg es sh x t.1 (m + t.2) (cw a b m t.2) ∨ Kp es sh D t.1 (m + t.2) (cw a b m t.2)
section
variable {es n m k c i N nl : Nat} {s v u x lg : Value} {cs a b vs lvs : List Value} {A D F U Lg : Ch} {h : Heap} {ks : List (Value × Nat)}
theorem Kq.kp {sh : Shs} {t : Value × Nat} (hk : Kq es sh x D a b m t) (hs : Slc es x (m + c) (cw a b m c) A) (ht : t.2 ≤ c) (ha : a.length = es) (hb : b.length = es) : Kp es sh (A ++ D) t.1 (m + t.2) (cw a b m t.2) := by
  rcases hk with hk | hk
  · exact (hk.kp hs (cw_take ha hb ht).symm (by omega)).mono fun z hz => List.mem_append_left _ hz
  · exact hk.mono fun z hz => List.mem_append_right _ hz
/-- The list grows by one. -/
theorem grow1 (hs : Slc es x (m + c) (cw a b m c) A) (ho : Own h (A ++ (D ++ F))) (hd : ShD h) (hes : 1 ≤ es) (ha : a.length = es) (hb : b.length = es) {bytes : Nat} (hbt : (m + c + 1) * bytes ≤ 140737488355328)
    (hk : ∀ t ∈ ks, t.2 ≤ c ∧ Kq es h.sh x D a b m t) :
    ∃ x' h' A' D', appendSK (h.new (.cells b false es)) bytes es x (.slice (some ⟨h.next, 0, some 0⟩) 1 1) = some (x', h') ∧ Slc es x' (m + (c + 1)) (cw a b m (c + 1)) A' ∧ Own h' (A' ++ (D' ++ F)) ∧ ShD h' ∧ ShX F h.sh h'.sh ∧
      (∀ t ∈ ks ++ [(x', c + 1)], t.2 ≤ c + 1 ∧ Kq es h'.sh x' D' a b m t) := by
  obtain ⟨x', h', A', D1, e1, e2, e3, e4, e5, e6⟩ := hs.pushS2 (F := D ++ F) (new := b) ho hd hes hb hbt
  rw [cw_snoc] at e2
  have e2 : Slc es x' (m + (c + 1)) (cw a b m (c + 1)) A' := e2
  refine ⟨x', h', A', D1 ++ D, e1, e2, e3.to fun z => by simp only [cnt_append]; omega, e4, e5.mono fun z hz => List.mem_append_right _ hz, fun t ht => ?_⟩
  rcases List.mem_append.1 ht with ht | ht
  · obtain ⟨h1, h2⟩ := hk t ht
    refine ⟨by omega, ?_⟩
    rcases h2 with h2 | h2
    · rcases e6 h2 (cw_take ha hb h1).symm (by omega) with h3 | h3
      · exact .inl h3
      · exact .inr (h3.mono fun z hz => List.mem_append_left _ hz)
    · exact .inr ((h2.shx e5 fun z hz => List.mem_append_left _ hz).mono fun z hz => List.mem_append_right _ hz)
  · rw [List.mem_singleton.1 ht]
    exact ⟨Nat.le_refl _, .inl (e2.bg e3 e4)⟩
/-- A value is put behind the list of lists. -/
theorem long1 (hl : Slc 1 lg nl lvs Lg) (hs : Slc es x (m + c) (cw a b m c) A) (ho : Own h (Lg ++ (A ++ (D ++ F)))) (hd : ShD h) (hnl : (nl + 1) * 24 ≤ 140737488355328)
    (hk : ∀ t ∈ ks, t.2 ≤ c ∧ Kq es h.sh x D a b m t) {y : Value} :
    ∃ lg' h' Lg', appendSK (h.new (.cells [y] false 1)) 24 1 lg (.slice (some ⟨h.next, 0, some 0⟩) 1 1) = some (lg', h') ∧ Slc 1 lg' (nl + 1) (lvs ++ [y]) Lg' ∧ Own h' (Lg' ++ (A ++ (D ++ F))) ∧ ShD h' ∧ ShX (A ++ (D ++ F)) h.sh h'.sh ∧
      (∀ t ∈ ks, t.2 ≤ c ∧ Kq es h'.sh x D a b m t) := by
  obtain ⟨lg', h', Lg', D1, e1, e2, e3, e4, e5, e6⟩ := hl.pushS2 (new := [y]) ho hd (by decide) rfl hnl
  refine ⟨lg', h', Lg', e1, e2, e3.to fun z => by simp only [cnt_append]; omega, e4, e5, fun t ht => ?_⟩
  obtain ⟨h1, h2⟩ := hk t ht
  refine ⟨h1, ?_⟩
  rcases h2 with h2 | h2
  · exact .inl (h2.shx hs (by omega) e5 fun z hz => List.mem_append_left _ hz)
  · exact .inr (h2.shx e5 fun z hz => List.mem_append_right _ (List.mem_append_left _ hz))

/-- The numbers by which the kept lists of a group are longer. -/
def cc (M g : Nat) : Nat := if g < 16 then g + 1 else M
/-- One list, grown M times; the first sixteen are kept. -/
def GrI (es : Nat) (a b : List Value) (m nl : Nat) (lvs : List Value) (F : Ch) (sh0 : Shs) (v : Value) (k : Nat) (lg x : Value) (h1 : Heap) : Prop := ∃ Lg A D vs, Slc 1 lg (nl + min k 16) (lvs ++ vs) Lg ∧ vs.length = min k 16 ∧ Slc es x (m + k) (cw a b m k) A ∧ Own h1 (Lg ++ (A ++ (D ++ F))) ∧ ShD h1 ∧ ShX F sh0 h1.sh ∧
    ∃ ks : List (Value × Nat), (∀ t ∈ ks, t.2 ≤ k ∧ Kq es h1.sh x D a b m t) ∧ (∀ (g : Nat) (hg : g < vs.length), (vs[g], g + 1) ∈ ks) ∧ (v, 0) ∈ ks
theorem growIn {M : Nat} {a0 : List Value} {f : (Value × Value × Int × Unit) × Heap → Option (((Value × Value × Int × Unit) × Heap) ⊕ ((Value × Value × Unit) × Heap))} (hl : Slc 1 lg nl lvs Lg) (hv : Slc es v m (cw a0 b m 0) A) (ho : Own h (Lg ++ (A ++ F))) (hd : ShD h)
    (hes : 1 ≤ es) (ha : a0.length = es) (hb : b.length = es) {bytes : Nat} (hbt : ∀ c, c ≤ m + M → c * bytes ≤ 140737488355328) (hnl : (nl + 16) * 24 ≤ 140737488355328) (hM : 16 ≤ M) (hM2 : M ≤ 1000) (hn : M + 1 ≤ n)
    (hfA : ∀ (k : Nat) (lg x x' lg' : Value) (h h1 h2 : Heap), k < 16 → appendSK (h.new (.cells b false es)) bytes es x (.slice (some ⟨h.next, 0, some 0⟩) 1 1) = some (x', h1) → cellsOf x' = [x'] → isCell x' = true →
      appendSK (h1.new (.cells [x'] false 1)) 24 1 lg (.slice (some ⟨h1.next, 0, some 0⟩) 1 1) = some (lg', h2) → f ((lg, (x, ((k : Int), ()))), h) = some (.inl ((lg', (x', (IntKind.i64.wrap ((k : Int) + 1), ()))), h2)))
    (hfB : ∀ (k : Nat) (lg x x' : Value) (h h1 : Heap), 16 ≤ k → k < M → appendSK (h.new (.cells b false es)) bytes es x (.slice (some ⟨h.next, 0, some 0⟩) 1 1) = some (x', h1) → f ((lg, (x, ((k : Int), ()))), h) = some (.inl ((lg, (x', (IntKind.i64.wrap ((k : Int) + 1), ()))), h1)))
    (hz : ∀ (lg x : Value) (h : Heap), f ((lg, (x, ((M : Int), ()))), h) = some (.inr ((lg, (x, ())), h))) :
    ∃ lg' x' h' Lg' A' D vs, loopT f n ((lg, (v, ((0 : Int), ()))), h) = some ((lg', (x', ())), h') ∧ Slc 1 lg' (nl + 16) (lvs ++ vs) Lg' ∧ vs.length = 16 ∧ Slc es x' (m + M) (cw a0 b m M) A' ∧ Own h' (Lg' ++ (A' ++ (D ++ F))) ∧ ShD h' ∧ ShX F h.sh h'.sh ∧
      (∀ (g : Nat) (hg : g < vs.length), Kq es h'.sh x' D a0 b m (vs[g], g + 1)) ∧ Kq es h'.sh x' D a0 b m (v, 0) := by
  obtain ⟨⟨⟨lg', x', _⟩, h'⟩, e, q⟩ := loopT_up (f := f)
    (fun k (a : (Value × Value × Int × Unit) × Heap) => a.1.2.2.1 = (k : Int) ∧ GrI es a0 b m nl lvs F h.sh v k a.1.1 a.1.2.1 a.2)
    (fun r => GrI es a0 b m nl lvs F h.sh v M r.1.1 r.1.2.1 r.2) (N := M) (k := n) (j := 0) (a := ((lg, (v, ((0 : Int), ()))), h)) (by omega) (by omega)
    ⟨rfl, Lg, A, [], [], by simpa using hl, rfl, hv, ho, hd, ShX.refl, [(v, 0)], fun t ht => by
      rw [List.mem_singleton.1 ht]
      exact ⟨Nat.le_refl _, .inl (hv.bg (F := Lg ++ F) (ho.to fun z => by simp only [cnt_append]; omega) hd)⟩, fun g hg => absurd hg (Nat.not_lt_zero _), List.mem_singleton.2 rfl⟩
    (fun k a hk hi => by
      have hnl2 : k < 16 → (nl + k + 1) * 24 ≤ 140737488355328 := fun h => Nat.le_trans (Nat.mul_le_mul_right 24 (by omega)) hnl
      obtain ⟨⟨lg, x, k0, _⟩, h1⟩ := a
      obtain ⟨e0, hi⟩ := hi
      obtain ⟨Lg, A, D, vs, i1, i2, i3, i4, i5, i6, ks, i7, i8, i9⟩ := hi
      have e0 : k0 = (k : Int) := e0
      subst e0
      have i4 : Own h1 _ := i4
      have i5 : ShD h1 := i5
      have i1 : Slc 1 lg _ _ Lg := i1
      have i3 : Slc es x _ _ A := i3
      obtain ⟨x2, h2, A2, D2, g1, g2, g3, g4, g5, g6⟩ := grow1 i3 (F := Lg ++ F) (h := h1) (i4.to fun z => by simp only [cnt_append]; omega) i5 hes ha hb (hbt _ (by omega)) i7
      by_cases hk16 : k < 16
      · have hmin : min k 16 = k := Nat.min_eq_left (by omega)
        have hmin' : min (k + 1) 16 = k + 1 := Nat.min_eq_left (by omega)
        rw [hmin] at i1 i2
        obtain ⟨lg3, h3, Lg3, j1, j2, j3, j4, j5, j6⟩ := long1 i1 g2 (F := F) (h := h2) (g3.to fun z => by simp only [cnt_append]; omega) g4 (hnl2 hk16) g6 (y := x2)
        have hF := hfA k lg x x2 lg3 h1 h2 h3 hk16 g1 g2.cellsOf g2.isCell j1
        rw [wrap_succ (show k < 4611686018427387904 by omega)] at hF
        have hI : GrI es a0 b m nl lvs F h.sh v (k + 1) lg3 x2 h3 := by
         refine ⟨Lg3, A2, D2, vs ++ [x2], ?_, by simp [i2, hmin'], g2, j3, j4, ?_, ks ++ [(x2, k + 1)], j6, ?_, List.mem_append_left _ i9⟩
         · rw [hmin', ← List.append_assoc]; exact j2
         · exact (i6.trans (g5.mono fun z hz => List.mem_append_right _ hz)).trans (j5.mono fun z hz => List.mem_append_right _ (List.mem_append_right _ hz))
         · intro g hg
           by_cases hgl : g < vs.length
           · rw [List.getElem_append_left hgl]; exact List.mem_append_left _ (i8 g hgl)
           · have : g = vs.length := by simp at hg; omega
             subst this
             rw [List.getElem_append_right (Nat.le_refl _)]
             simp [i2]
        exact .inl ⟨((lg3, (x2, (((k + 1 : Nat) : Int), ()))), h3), hF, rfl, hI⟩
      · have hmin : min k 16 = 16 := Nat.min_eq_right (by omega)
        have hmin' : min (k + 1) 16 = 16 := Nat.min_eq_right (by omega)
        rw [hmin] at i1 i2
        have hF := hfB k lg x x2 h1 h2 (by omega) hk g1
        rw [wrap_succ (show k < 4611686018427387904 by omega)] at hF
        exact .inl ⟨((lg, (x2, (((k + 1 : Nat) : Int), ()))), h2), hF, rfl, Lg, A2, D2, vs, by rw [hmin']; exact i1, by rw [hmin']; exact i2, g2, g3.to fun z => by simp only [cnt_append]; omega, g4, i6.trans (g5.mono fun z hz => List.mem_append_right _ hz), ks ++ [(x2, k + 1)], g6, fun g hg => List.mem_append_left _ (i8 g hg), List.mem_append_left _ i9⟩)
    (fun a hi => by
      obtain ⟨⟨lg, x, k0, _⟩, h1⟩ := a
      obtain ⟨e0, hi⟩ := hi
      have e0 : k0 = (M : Int) := e0
      subst e0
      exact ⟨_, hz lg x h1, hi⟩)
  obtain ⟨Lg', A', D', vs, i1, i2, i3, i4, i5, i6, ks, i7, i8, i9⟩ := q
  have hmin : min M 16 = 16 := Nat.min_eq_right hM
  rw [hmin] at i1 i2
  exact ⟨lg', x', h', Lg', A', D', vs, e, i1, i2, i3, i4, i5, i6, fun g hg => (i7 _ (i8 g hg)).2, (i7 _ i9).2⟩
end

/-- A group of grown lists. -/
structure Gp where
  vs : List Value
  G : Ch
structure Gpd (es M : Nat) (mk gr : Nat → List Value) (sh : Shs) (xs : List Ax) (gs : List Gp) (j : Nat) : Prop where
  len : gs.length = j
  vs : ∀ (i : Nat) (y : Gp), gs[i]? = some y → y.vs.length = 17
  g : ∀ (i : Nat) (y : Gp) (x : Ax), gs[i]? = some y → xs[i]? = some x → ∀ (k : Nat) (w : Value), y.vs[k]? = some w → Kp es sh y.G w (x.m + cc M k) (cw (mk i) (gr i) x.m (cc M k))
  k : ∀ (i : Nat) (y : Gp) (x : Ax), gs[i]? = some y → xs[i]? = some x → Kp es sh y.G x.v x.m (cw (mk i) (gr i) x.m 0)
theorem snoc_at {α : Type} {l : List α} {y z : α} {i : Nat} (h : (l ++ [y])[i]? = some z) : l[i]? = some z ∨ (i = l.length ∧ z = y) := by
  by_cases hi : i < l.length
  · rw [List.getElem?_append_left hi] at h; exact .inl h
  · rw [List.getElem?_append_right (by omega)] at h
    have h1 := (List.getElem?_eq_some_iff.1 h).1
    simp only [List.length_singleton] at h1
    have : i - l.length = 0 := by omega
    rw [this] at h
    simp at h
    exact .inr ⟨by omega, h.symm⟩
section
variable {es n m k c i N nl : Nat} {s v u x lg : Value} {cs a b vs lvs : List Value} {A D F U Lg : Ch} {h : Heap} {xs : List Ax}
theorem flat17_at {gs : List Gp} (hg : ∀ (i : Nat) (y : Gp), gs[i]? = some y → y.vs.length = 17) {i g : Nat} {y : Gp} (hi : gs[i]? = some y) (hgl : g < 17) : (gs.flatMap Gp.vs)[17 * i + g]? = y.vs[g]? := by
  obtain ⟨h1, h2⟩ := List.getElem?_eq_some_iff.1 hi
  have := flat_get (xs := gs) (f := Gp.vs) (e := 17) (fun x hx => by obtain ⟨i, hi, rfl⟩ := List.getElem_of_mem hx; exact hg i _ (List.getElem?_eq_getElem hi)) h1
  rw [h2] at this
  rw [← this, List.getElem?_take, if_pos hgl, List.getElem?_drop, Nat.mul_comm 17 i]
theorem grows_gen {M B : Nat} {mk gr : Nat → List Value} {bytes : Nat} {fin : Nat → (Value × Value × Int × Unit) × Heap → Option (((Value × Value × Int × Unit) × Heap) ⊕ ((Value × Value × Unit) × Heap))} {f : (Value × Int × Unit) × Heap → Option (((Value × Int × Unit) × Heap) ⊕ ((Value × Unit) × Heap))}
    (hu : Slc 1 u xs.length (xs.map Ax.v) U) (hx : ∀ (i : Nat) (h1 : i < xs.length), Slc es xs[i].v xs[i].m (cw (mk i) (gr i) xs[i].m 0) xs[i].A ∧ xs[i].m ≤ B) (ho : Own h (U ++ (xs.flatMap Ax.A ++ F))) (hd : ShD h)
    (hes : 1 ≤ es) (ha : ∀ i, (mk i).length = es) (hb : ∀ i, (gr i).length = es) (hbt : ∀ c, c ≤ B + M → c * bytes ≤ 140737488355328) (hnl : xs.length ≤ 100000000000) (hM : 16 ≤ M) (hM2 : M ≤ 1000) (hn : M + 1 ≤ n) (hn2 : xs.length + 1 ≤ n)
    (hfA : ∀ (i k : Nat) (lg x x' lg' : Value) (h h1 h2 : Heap), k < 16 → appendSK (h.new (.cells (gr i) false es)) bytes es x (.slice (some ⟨h.next, 0, some 0⟩) 1 1) = some (x', h1) → cellsOf x' = [x'] → isCell x' = true →
      appendSK (h1.new (.cells [x'] false 1)) 24 1 lg (.slice (some ⟨h1.next, 0, some 0⟩) 1 1) = some (lg', h2) → fin i ((lg, (x, ((k : Int), ()))), h) = some (.inl ((lg', (x', (IntKind.i64.wrap ((k : Int) + 1), ()))), h2)))
    (hfB : ∀ (i k : Nat) (lg x x' : Value) (h h1 : Heap), 16 ≤ k → k < M → appendSK (h.new (.cells (gr i) false es)) bytes es x (.slice (some ⟨h.next, 0, some 0⟩) 1 1) = some (x', h1) → fin i ((lg, (x, ((k : Int), ()))), h) = some (.inl ((lg, (x', (IntKind.i64.wrap ((k : Int) + 1), ()))), h1)))
    (hzin : ∀ (i : Nat) (lg x : Value) (h : Heap), fin i ((lg, (x, ((M : Int), ()))), h) = some (.inr ((lg, (x, ())), h)))
    (hf : ∀ (i : Nat) (lg v lg1 x1 lg2 : Value) (h h1 h2 : Heap) (q : Addr), i < xs.length → ixB 1 u (i : Int) = some q → ldTS .any h (some q) = some v → loopT (fin i) n ((lg, (v, ((0 : Int), ()))), h) = some ((lg1, (x1, ())), h1) → cellsOf x1 = [x1] → isCell x1 = true →
      appendSK (h1.new (.cells [x1] false 1)) 24 1 lg1 (.slice (some ⟨h1.next, 0, some 0⟩) 1 1) = some (lg2, h2) → f ((lg, ((i : Int), ())), h) = some (.inl ((lg2, (IntKind.i64.wrap ((i : Int) + 1), ())), h2)))
    (hz : ∀ (lg : Value) (h : Heap), f ((lg, ((xs.length : Int), ())), h) = some (.inr ((lg, ()), h))) :
    ∃ lg' h' Lg' gs, loopT f n ((.slice none 0 0, ((0 : Int), ())), h) = some ((lg', ()), h') ∧ Slc 1 lg' (17 * xs.length) (gs.flatMap Gp.vs) Lg' ∧ Gpd es M mk gr h'.sh xs gs xs.length ∧ Own h' (Lg' ++ (gs.flatMap Gp.G ++ (U ++ F))) ∧ ShD h' := by
  obtain ⟨⟨⟨lg', _⟩, h'⟩, e, Lg', gs, q1, q2, q3, q4⟩ := loopT_up (f := f)
    (fun j (a : (Value × Int × Unit) × Heap) => a.1.2.1 = (j : Int) ∧ ∃ Lg gs, Slc 1 a.1.1 (17 * j) (gs.flatMap Gp.vs) Lg ∧ Gpd es M mk gr a.2.sh xs gs j ∧ Own a.2 (Lg ++ (gs.flatMap Gp.G ++ (U ++ ((xs.drop j).flatMap Ax.A ++ F)))) ∧ ShD a.2)
    (fun r => ∃ Lg gs, Slc 1 r.1.1 (17 * xs.length) (gs.flatMap Gp.vs) Lg ∧ Gpd es M mk gr r.2.sh xs gs xs.length ∧ Own r.2 (Lg ++ (gs.flatMap Gp.G ++ (U ++ F))) ∧ ShD r.2) (N := xs.length) (k := n) (j := 0) (a := ((.slice none 0 0, ((0 : Int), ())), h)) (by omega) (by omega)
    ⟨rfl, [], [], .nil, ⟨rfl, fun i y h => (by simp at h), fun i y x h => (by simp at h), fun i y x h => (by simp at h)⟩, ho, hd⟩
    (fun j a hj hi => by
      obtain ⟨⟨lg, j0, _⟩, h1⟩ := a
      obtain ⟨e0, Lg, gs, i1, i2, i3, i4⟩ := hi
      have e0 : j0 = (j : Int) := e0
      subst e0
      have i3 : Own h1 _ := i3
      have i4 : ShD h1 := i4
      have i1 : Slc 1 lg _ _ Lg := i1
      obtain ⟨x1, x2⟩ := hx j hj
      have hvj : (xs.map Ax.v)[j]? = some xs[j].v := by rw [List.getElem?_map, List.getElem?_eq_getElem hj]; rfl
      obtain ⟨q, s1, s2⟩ := sl_at hu (F := Lg ++ (gs.flatMap Gp.G ++ ((xs.drop j).flatMap Ax.A ++ F))) (h := h1) (i3.to fun z => by simp only [cnt_append]; omega) i4 hvj
      have hbj : ∀ c, c ≤ xs[j].m + M → c * bytes ≤ 140737488355328 := fun c hc => hbt c (by omega)
      obtain ⟨lg2, x2', h2, Lg2, A2, D2, vs2, e1, e2, e3, e4, e5, e6, e7, e8, e9⟩ := growIn (f := fin j) (M := M) (n := n) i1 x1 (F := gs.flatMap Gp.G ++ (U ++ ((xs.drop (j + 1)).flatMap Ax.A ++ F))) (h := h1) (i3.to fun z => by have := ax_cnt hj z; simp only [cnt_append]; omega) i4 hes (ha j) (hb j) hbj (by omega) hM hM2 hn (hfA j) (hfB j) (hzin j)
      obtain ⟨lg3, h3, Lg3, j1, j2, j3, j4, j5, j6⟩ := long1 (ks := [(xs[j].v, 0), (x2', M)] ++ (vs2.zipIdx.map fun t => (t.1, t.2 + 1))) e2 e4 (F := gs.flatMap Gp.G ++ (U ++ ((xs.drop (j + 1)).flatMap Ax.A ++ F))) (h := h2) e5 e6 (by omega) (fun t ht => by
        simp only [List.mem_append, List.mem_cons, List.not_mem_nil, or_false, List.mem_map] at ht
        rcases ht with (rfl | rfl) | ⟨⟨w, g⟩, hw, rfl⟩
        · exact ⟨by simp, e9⟩
        · exact ⟨Nat.le_refl _, .inl (e4.bg (F := Lg2 ++ (D2 ++ (gs.flatMap Gp.G ++ (U ++ ((xs.drop (j + 1)).flatMap Ax.A ++ F))))) (e5.to fun z => by simp only [cnt_append]; omega) e6)⟩
        · have hw := List.mem_zipIdx hw
          simp only [Nat.zero_add, Nat.sub_zero] at hw
          obtain ⟨_, h5, h6⟩ := hw
          have := e8 g h5
          rw [← h6] at this
          exact ⟨by simp only; omega, this⟩) (y := x2')
      have hkp : ∀ t, t ∈ [(xs[j].v, 0), (x2', M)] ++ (vs2.zipIdx.map fun t => (t.1, t.2 + 1)) → Kp es h3.sh (A2 ++ D2) t.1 (xs[j].m + t.2) (cw (mk j) (gr j) xs[j].m t.2) := fun t ht => (j6 t ht).2.kp e4 (j6 t ht).1 (ha j) (hb j)
      refine .inl ⟨_, hf j lg xs[j].v lg2 x2' lg3 h1 h2 h3 q hj s1 s2 e1 e4.cellsOf e4.isCell j1, by rw [wrap_succ (show j < 4611686018427387904 by omega)], Lg3, gs ++ [⟨vs2 ++ [x2'], A2 ++ D2⟩], ?_, ⟨by simp [i2.len], fun i y g1 => ?_, fun i y xx g1 g2 g w g3 => ?_, fun i y xx g1 g2 => ?_⟩, j3.to fun z => by simp only [cnt_append, List.flatMap_append, List.flatMap_cons, List.flatMap_nil, cnt_nil]; omega, j4⟩
      · have : 17 * (j + 1) = 17 * j + 16 + 1 := by omega
        rw [this, List.flatMap_append, List.flatMap_cons, List.flatMap_nil, List.append_nil, ← List.append_assoc]
        exact j2
      · rcases snoc_at g1 with g1 | ⟨_, rfl⟩
        · exact i2.vs i y g1
        · simp [e3]
      · rcases snoc_at g1 with g1 | ⟨hi, rfl⟩
        · have hm := List.mem_of_getElem? g1
          exact ((i2.g i y xx g1 g2 g w g3).shx (e7.mono fun z hz => List.mem_append_left _ hz) fun z hz => List.mem_flatMap.2 ⟨_, hm, hz⟩).shx j5 fun z hz => List.mem_append_right _ (List.mem_append_right _ (List.mem_append_left _ (List.mem_flatMap.2 ⟨_, hm, hz⟩)))
        · have hij : i = j := by rw [hi, i2.len]
          subst hij
          rw [List.getElem?_eq_getElem hj] at g2
          obtain rfl := Option.some.inj g2
          rcases snoc_at g3 with g3 | ⟨hg, rfl⟩
          · obtain ⟨h5, h6⟩ := List.getElem?_eq_some_iff.1 g3
            have h7 := hkp (w, g + 1) (List.mem_append_right _ (List.mem_map.2 ⟨(w, g), by rw [List.mem_zipIdx_iff_getElem?]; exact g3, rfl⟩))
            rw [cc, if_pos (by omega)]
            exact h7
          · rw [cc, if_neg (by omega)]
            exact hkp (w, M) (by simp)
      · rcases snoc_at g1 with g1 | ⟨hi, rfl⟩
        · have hm := List.mem_of_getElem? g1
          exact ((i2.k i y xx g1 g2).shx (e7.mono fun z hz => List.mem_append_left _ hz) fun z hz => List.mem_flatMap.2 ⟨_, hm, hz⟩).shx j5 fun z hz => List.mem_append_right _ (List.mem_append_right _ (List.mem_append_left _ (List.mem_flatMap.2 ⟨_, hm, hz⟩)))
        · have hij : i = j := by rw [hi, i2.len]
          subst hij
          rw [List.getElem?_eq_getElem hj] at g2
          obtain rfl := Option.some.inj g2
          exact hkp (xs[i].v, 0) (by simp))
    (fun a hi => by
      obtain ⟨⟨lg, j0, _⟩, h1⟩ := a
      obtain ⟨e0, Lg, gs, i1, i2, i3, i4⟩ := hi
      have e0 : j0 = ((xs.length : Nat) : Int) := e0
      subst e0
      have i3 : Own h1 _ := i3
      exact ⟨_, hz lg h1, Lg, gs, i1, i2, i3.to fun x => by simp only [cnt_append, List.drop_length, List.flatMap_nil, cnt_nil]; omega, i4⟩)
  exact ⟨lg', h', Lg', gs, e, q1, q2, q3, q4⟩

/-- The marks are looked at. -/
theorem look1 {R : Type} {r : R} {f : (Int × Unit) × Heap → Option (((Int × Unit) × Heap) ⊕ R)} (hk : Kp es h.sh D v m (cw a b m c)) (hcm : c = 0) (ho : Own h (D ++ F)) (ha : a.length = es) (hsa : Go.Proofs.Ytpihoicfnolepaa.sameL a a = true) (hsb : Go.Proofs.Ytpihoicfnolepaa.sameL b b = true)
    (hf : ∀ (k : Nat) (q : Addr), k < m → ixB es v (k : Int) = some q → ldAS es h (some q) = some a → f (((k : Int), ()), h) = some (.inl ((IntKind.i64.wrap ((k : Int) + 1), ()), h)))
    (hz : f (((m : Int), ()), h) = some (.inr r)) (hm : m < 4611686018427387904) (hn : m + 1 ≤ n) : loopT f n (((0 : Int), ()), h) = some r := by
  obtain ⟨x, e, q⟩ := loopT_up (f := f) (fun k (a : (Int × Unit) × Heap) => a = (((k : Int), ()), h)) (fun x => x = r) (N := m) (k := n) (j := 0) (a := ((0, ()), h)) (by omega) (by omega) rfl
    (fun k a hkm hi => by
      subst hi
      obtain ⟨q, e1, e2⟩ := hk.ldA ho (sameL_cw hsa hsb) hkm
      rw [cw_lo ha hkm] at e2
      exact .inl ⟨_, hf k q hkm e1 e2, by rw [wrap_succ (show k < 4611686018427387904 by omega)]⟩)
    (fun a hi => by subst hi; exact ⟨_, hz, rfl⟩)
  rw [e, q]
/-- What is behind is looked at. -/
theorem look2 {R : Type} {r : R} {f : (Int × Unit) × Heap → Option (((Int × Unit) × Heap) ⊕ R)} (hk : Kp es h.sh D v (m + c) (cw a b m c)) (ho : Own h (D ++ F)) (ha : a.length = es) (hb : b.length = es) (hsa : Go.Proofs.Ytpihoicfnolepaa.sameL a a = true) (hsb : Go.Proofs.Ytpihoicfnolepaa.sameL b b = true)
    (hf : ∀ (k : Nat) (q : Addr), k < m + c → ixB es v (k : Int) = some q → ldAS es h (some q) = some b → f (((k : Int), ()), h) = some (.inl ((IntKind.i64.wrap ((k : Int) + 1), ()), h)))
    (hz : f ((((m + c : Nat) : Int), ()), h) = some (.inr r)) (hm : m + c < 4611686018427387904) (hn : c + 1 ≤ n) : loopT f n (((m : Int), ()), h) = some r := by
  obtain ⟨x, e, q⟩ := loopT_up (f := f) (fun k (a : (Int × Unit) × Heap) => a = ((((m + k : Nat) : Int), ()), h)) (fun x => x = r) (N := c) (k := n) (j := 0) (a := (((m : Int), ()), h)) (by omega) (by omega) rfl
    (fun k a hkm hi => by
      subst hi
      obtain ⟨q, e1, e2⟩ := hk.ldA ho (sameL_cw hsa hsb) (i := m + k) (by omega)
      rw [cw_hi ha hb hkm] at e2
      exact .inl ⟨_, hf (m + k) q (by omega) e1 e2, by rw [wrap_succ (show m + k < 4611686018427387904 by omega)]; rfl⟩)
    (fun a hi => by subst hi; exact ⟨_, hz, rfl⟩)
  rw [e, q]
end
end Go.Proofs.Ytpihoicfnolepaa
