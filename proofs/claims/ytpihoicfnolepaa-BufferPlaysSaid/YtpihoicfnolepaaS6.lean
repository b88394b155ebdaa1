/- Lists that are marked, grown one by one, and looked at: none shares memory with another one. -/
import Derived.Test.YtpihoicfnolepaaS5
namespace Go.Proofs.Ytpihoicfnolepaa
open Go
set_option linter.unusedVariables false
set_option linter.unusedSimpArgs false

/-- m times a, c times b. -/
def cw (a b : List Value) (m c : Nat) : List Value := (List.replicate m a).flatten ++ (List.replicate c b).flatten
section
variable {a b : List Value} {m c c' k es : Nat}
theorem rep_len : ((List.replicate m a).flatten).length = m * a.length := by
  induction m with
  | zero => simp
  | succ m ih => rw [List.replicate_succ, List.flatten_cons, List.length_append, ih, Nat.succ_mul]; omega
theorem rep_drop (h : k ≤ m) : ((List.replicate m a).flatten).drop (k * a.length) = (List.replicate (m - k) a).flatten := by
  induction k generalizing m with
  | zero => simp
  | succ k ih =>
    obtain ⟨m, rfl⟩ : ∃ j, m = j + 1 := ⟨m - 1, by omega⟩
    rw [List.replicate_succ, List.flatten_cons, Nat.succ_mul, Nat.add_comm, ← List.drop_drop, List.drop_left, ih (by omega)]
    congr 2; omega
theorem rep_take (h : k ≤ m) : ((List.replicate m a).flatten).take (k * a.length) = (List.replicate k a).flatten := by
  induction k generalizing m with
  | zero => simp
  | succ k ih =>
    obtain ⟨m, rfl⟩ : ∃ j, m = j + 1 := ⟨m - 1, by omega⟩
    rw [List.replicate_succ, List.flatten_cons, List.replicate_succ, List.flatten_cons, Nat.succ_mul, Nat.add_comm, List.take_append, List.take_of_length_le (by omega), Nat.add_sub_cancel_left, ih (by omega)]
theorem rep_snoc : (List.replicate (m + 1) a).flatten = (List.replicate m a).flatten ++ a := by
  rw [List.replicate_succ', List.flatten_append]; simp
theorem rep_at (h : k < m) : (((List.replicate m a).flatten).drop (k * a.length)).take a.length = a := by
  rw [rep_drop (by omega)]
  have := rep_take (a := a) (k := 1) (m := m - k) (by omega)
  rw [Nat.one_mul] at this
  rw [this]; simp
theorem cw_len (ha : a.length = es) (hb : b.length = es) : (cw a b m c).length = (m + c) * es := by
  rw [cw, List.length_append, rep_len, rep_len, ha, hb, Nat.add_mul]
theorem cw_zero : cw a b m 0 = (List.replicate m a).flatten := by simp [cw]
theorem cw_snoc : cw a b m c ++ b = cw a b m (c + 1) := by rw [cw, cw, rep_snoc, List.append_assoc]
theorem cw_take (ha : a.length = es) (hb : b.length = es) (h : c' ≤ c) : (cw a b m c).take ((m + c') * es) = cw a b m c' := by
  rw [cw, cw, List.take_append, rep_len, ha, Nat.add_mul, List.take_of_length_le (by rw [rep_len, ha]; omega), Nat.add_sub_cancel_left, ← hb, rep_take h]
theorem cw_lo (ha : a.length = es) (h : k < m) : ((cw a b m c).drop (k * es)).take es = a := by
  have h1 : (k + 1) * es ≤ m * es := Nat.mul_le_mul_right es h
  rw [Nat.add_mul, Nat.one_mul] at h1
  rw [cw, List.drop_append_of_le_length (by rw [rep_len, ha]; omega), List.take_append_of_le_length (by rw [List.length_drop, rep_len, ha]; omega)]
  subst ha
  exact rep_at h
theorem cw_hi (ha : a.length = es) (hb : b.length = es) (h : k < c) : ((cw a b m c).drop ((m + k) * es)).take es = b := by
  rw [cw, Nat.add_mul, ← List.drop_drop]
  have : ((List.replicate m a).flatten ++ (List.replicate c b).flatten).drop (m * es) = (List.replicate c b).flatten := by
    have := List.drop_left (l₁ := (List.replicate m a).flatten) (l₂ := (List.replicate c b).flatten)
    rwa [rep_len, ha] at this
  rw [this]
  subst hb
  exact rep_at h
theorem sameL_rep (ha : Go.Proofs.Ytpihoicfnolepaa.sameL a a = true) : Go.Proofs.Ytpihoicfnolepaa.sameL ((List.replicate m a).flatten) ((List.replicate m a).flatten) = true := by
  induction m with
  | zero => rfl
  | succ m ih => rw [List.replicate_succ, List.flatten_cons]; exact sameL_app ha ih
theorem sameL_cw (ha : Go.Proofs.Ytpihoicfnolepaa.sameL a a = true) (hb : Go.Proofs.Ytpihoicfnolepaa.sameL b b = true) : Go.Proofs.Ytpihoicfnolepaa.sameL (cw a b m c) (cw a b m c) = true := sameL_app (sameL_rep ha) (sameL_rep hb)
end

section
variable {es n m k i N : Nat} {s v u : Value} {cs w vs : List Value} {A F U : Ch} {h : Heap}
/-- An element, set. -/
theorem slc_setv (hs : Slc es s n cs A) (ho : Own h (A ++ F)) (hi : i < n) {v : Value} (hv : (cellsOf v).length = es) (hc : (cellsOf v).all isCell = true) :
    ∃ q h' A', ixB es s (i : Int) = some q ∧ stB es v h (some q) = some h' ∧ Slc es s n (writeAt cs (i * es) (cellsOf v)) A' ∧ Own h' (A' ++ F) := by
  cases hs with
  | nil => omega
  | @mk b off sp _ c pre _ rest hp hl hr =>
    subst hp
    have hg := ho.get (b, .cells (pre ++ (cs ++ rest)) false es) (by simp)
    have h1 : (i + 1) * es ≤ n * es := Nat.mul_le_mul_right es hi
    rw [Nat.add_mul, Nat.one_mul] at h1
    have hb : i * es + (cellsOf v).length ≤ cs.length := by omega
    refine ⟨⟨b, pre.length + i * es, none⟩, h.put b (.cells (pre ++ (writeAt cs (i * es) (cellsOf v) ++ rest)) false es), _, ?_, ?_, Slc.mk (pre := pre) (rest := rest) rfl (by rw [writeAt_len hb, hl]) (by rw [writeAt_len hb, hr]), Own.put (F := F) ho _⟩
    · show (bif Nat.blt i n then _ else none) = _
      rw [show Nat.blt i n = true from Nat.ble_eq_true_of_le hi]; rfl
    · rw [stB_of hg hv hc (by simp; omega), writeAt_mid hb]
/-- An element of a list of lists. -/
theorem sl_at (hu : Slc 1 u N vs U) (ho : Own h (U ++ F)) (hd : ShD h) (hv : vs[i]? = some v) : ∃ q, ixB 1 u (i : Int) = some q ∧ ldTS .any h (some q) = some v := by
  have hlt := (List.getElem?_eq_some_iff.1 hv).1
  have hN : i < N := by have := hu.len; omega
  obtain ⟨q, e1, e2⟩ := (hu.rds ho).ix i hN
  refine ⟨q, e1, ?_⟩
  rw [ldTS_slc0 hu ho hd e1]
  have := e2.ldT0 (ty := .any) (v := v) (by rw [Nat.mul_one, List.getElem?_take, if_pos (by omega), List.getElem?_drop]; simpa using hv)
  rw [this]; rfl

/-- A list, marked. -/
theorem markIn {R : Type} {r : R} {f : (Int × Unit) × Heap → Option (((Int × Unit) × Heap) ⊕ (R × Heap))} {V : Value} (hu : Slc 1 u N vs U) (hv : vs[i]? = some v) (ha : Slc es v m cs A) (ho : Own h (U ++ (A ++ F))) (hsh : h.sh = [])
    (hV : (cellsOf V).length = es) (hVc : (cellsOf V).all isCell = true)
    (hf : ∀ (k : Nat) (h1 h2 : Heap) (q q' : Addr), k < m → ixB 1 u (i : Int) = some q → ldTS .any h1 (some q) = some v → ixB es v (k : Int) = some q' → stB es V h1 (some q') = some h2 → f (((k : Int), ()), h1) = some (.inl ((IntKind.i64.wrap ((k : Int) + 1), ()), h2)))
    (hz : ∀ (h1 : Heap) (q : Addr), ixB 1 u (i : Int) = some q → ldTS .any h1 (some q) = some v → f (((m : Int), ()), h1) = some (.inr (r, h1)))
    (hm : m < 4611686018427387904) (hn : m + 1 ≤ n) :
    ∃ h' A', loopT f n (((0 : Int), ()), h) = some (r, h') ∧ Slc es v m (List.replicate m (cellsOf V)).flatten A' ∧ Own h' (U ++ (A' ++ F)) ∧ h'.sh = [] := by
  have hcl := ha.len
  obtain ⟨⟨x, h'⟩, e, q0, A', q1, q2, q3⟩ := loopT_up (f := f)
    (fun k (a : (Int × Unit) × Heap) => a.1 = ((k : Int), ()) ∧ ∃ A', Slc es v m ((List.replicate k (cellsOf V)).flatten ++ cs.drop (k * es)) A' ∧ Own a.2 (U ++ (A' ++ F)) ∧ a.2.sh = [])
    (fun x => x.1 = r ∧ ∃ A', Slc es v m (List.replicate m (cellsOf V)).flatten A' ∧ Own x.2 (U ++ (A' ++ F)) ∧ x.2.sh = []) (N := m) (k := n) (j := 0) (a := ((0, ()), h)) (by omega) (by omega)
    ⟨rfl, A, by simpa using ha, ho, hsh⟩
    (fun k a hk hi => by
      obtain ⟨⟨v0, _⟩, h1⟩ := a
      obtain ⟨e0, A1, hs1, o1, hsh1⟩ := hi
      cases e0
      have o1 : Own h1 _ := o1
      have hsh1 : h1.sh = [] := hsh1
      have hd1 : ShD h1 := fun e he => by rw [hsh1] at he; cases he
      obtain ⟨q, g1, g2⟩ := sl_at hu o1 hd1 hv
      obtain ⟨q', h2, A2, g3, g4, g5, o2⟩ := slc_setv hs1 (F := U ++ F) (o1.to fun x => by simp only [cnt_append]; omega) hk hV hVc
      refine .inl ⟨_, hf k h1 h2 q q' hk g1 g2 g3 g4, ?_, A2, ?_, o2.to fun x => by simp only [cnt_append]; omega, (stB_sh g4).1.trans hsh1⟩
      · rw [wrap_succ (show k < 4611686018427387904 by omega)]
      · have h1 : (k + 1) * es ≤ m * es := Nat.mul_le_mul_right es hk
        rw [Nat.add_mul, Nat.one_mul] at h1
        have hl : ((List.replicate k (cellsOf V)).flatten).length = k * es := by rw [rep_len, hV]
        have e : writeAt ((List.replicate k (cellsOf V)).flatten ++ cs.drop (k * es)) (k * es) (cellsOf V) = (List.replicate (k + 1) (cellsOf V)).flatten ++ cs.drop ((k + 1) * es) := by
          rw [writeAt_eq _ _ _ (by rw [List.length_append, hl, List.length_drop, hV]; omega), ← hl, List.take_left, rep_snoc, hl]
          congr 1
          rw [← List.drop_drop, ← hl, List.drop_left, hl, List.drop_drop, hV, Nat.add_mul, Nat.one_mul]
        rwa [e] at g5)
    (fun a hi => by
      obtain ⟨⟨v0, _⟩, h1⟩ := a
      obtain ⟨e0, A1, hs1, o1, hsh1⟩ := hi
      cases e0
      have o1 : Own h1 _ := o1
      have hsh1 : h1.sh = [] := hsh1
      have hd1 : ShD h1 := fun e he => by rw [hsh1] at he; cases he
      obtain ⟨q, g1, g2⟩ := sl_at hu o1 hd1 hv
      rw [List.drop_eq_nil_of_le (by omega), List.append_nil] at hs1
      exact ⟨_, hz h1 q g1 g2, rfl, A1, hs1, o1, hsh1⟩)
  have q0 : x = r := q0
  subst q0
  exact ⟨h', A', e, q1, q2, q3⟩
end

/-- A list in a list of lists. -/
structure Ax where
  v : Value
  m : Nat
  cs : List Value
  A : Ch
theorem ax_cnt {xs : List Ax} {j : Nat} (hj : j < xs.length) (x : Nat × AObj) : cnt x ((xs.drop j).flatMap Ax.A) = cnt x xs[j].A + cnt x ((xs.drop (j + 1)).flatMap Ax.A) := by
  rw [List.drop_eq_getElem_cons hj, List.flatMap_cons, cnt_append]
/-- Marked so far. -/
structure Dn (es : Nat) (mk : Nat → List Value) (xs ds : List Ax) (j : Nat) : Prop where
  len : ds.length = j
  d : ∀ (i : Nat) (h1 : i < ds.length) (h2 : i < xs.length), ds[i].v = xs[i].v ∧ ds[i].m = xs[i].m ∧ ds[i].cs = (List.replicate ds[i].m (mk i)).flatten ∧ Slc es ds[i].v ds[i].m ds[i].cs ds[i].A
section
variable {es n m k i N : Nat} {s v u : Value} {cs w vs : List Value} {A F U : Ch} {h : Heap} {xs : List Ax}
theorem marks_gen {R R2 : Type} {r : R} {r2 : R2} {fin : Nat → (Int × Unit) × Heap → Option (((Int × Unit) × Heap) ⊕ (R × Heap))} {f : (Int × Unit) × Heap → Option (((Int × Unit) × Heap) ⊕ (R2 × Heap))} {V : Nat → Value} {B : Nat}
    (hu : Slc 1 u xs.length (xs.map Ax.v) U) (hx : ∀ x ∈ xs, Slc es x.v x.m x.cs x.A ∧ x.m ≤ B) (ho : Own h (U ++ (xs.flatMap Ax.A ++ F))) (hsh : h.sh = [])
    (hV : ∀ i, (cellsOf (V i)).length = es) (hVc : ∀ i, (cellsOf (V i)).all isCell = true)
    (hfin : ∀ (i : Nat) (v : Value) (m k : Nat) (h1 h2 : Heap) (q q' : Addr), i < xs.length → lenB v = some m → k < m → ixB 1 u (i : Int) = some q → ldTS .any h1 (some q) = some v → ixB es v (k : Int) = some q' → stB es (V i) h1 (some q') = some h2 → fin i (((k : Int), ()), h1) = some (.inl ((IntKind.i64.wrap ((k : Int) + 1), ()), h2)))
    (hzin : ∀ (i : Nat) (v : Value) (m : Nat) (h1 : Heap) (q : Addr), i < xs.length → lenB v = some m → ixB 1 u (i : Int) = some q → ldTS .any h1 (some q) = some v → fin i (((m : Int), ()), h1) = some (.inr (r, h1)))
    (hf : ∀ (i : Nat) (h1 h2 : Heap), i < xs.length → loopT (fin i) n (((0 : Int), ()), h1) = some (r, h2) → f (((i : Int), ()), h1) = some (.inl ((IntKind.i64.wrap ((i : Int) + 1), ()), h2)))
    (hz : ∀ h1 : Heap, f (((xs.length : Int), ()), h1) = some (.inr (r2, h1)))
    (hB : B < 4611686018427387904) (hn : B + 1 ≤ n) (hN : xs.length < 4611686018427387904) (hNn : xs.length + 1 ≤ n) :
    ∃ h' ds, loopT f n (((0 : Int), ()), h) = some (r2, h') ∧ Dn es (fun i => cellsOf (V i)) xs ds xs.length ∧ Own h' (U ++ (ds.flatMap Ax.A ++ F)) ∧ h'.sh = [] := by
  obtain ⟨⟨x, h'⟩, e, q0, ds, q1, q2, q3⟩ := loopT_up (f := f)
    (fun j (a : (Int × Unit) × Heap) => a.1 = ((j : Int), ()) ∧ ∃ ds, Dn es (fun i => cellsOf (V i)) xs ds j ∧ Own a.2 (U ++ (ds.flatMap Ax.A ++ ((xs.drop j).flatMap Ax.A ++ F))) ∧ a.2.sh = [])
    (fun x => x.1 = r2 ∧ ∃ ds, Dn es (fun i => cellsOf (V i)) xs ds xs.length ∧ Own x.2 (U ++ (ds.flatMap Ax.A ++ F)) ∧ x.2.sh = []) (N := xs.length) (k := n) (j := 0) (a := ((0, ()), h)) (by omega) (by omega)
    ⟨rfl, [], ⟨rfl, fun i h => absurd h (Nat.not_lt_zero _)⟩, ho, hsh⟩
    (fun j a hj hi => by
      obtain ⟨⟨v0, _⟩, h1⟩ := a
      obtain ⟨e0, ds, hd, o1, hsh1⟩ := hi
      cases e0
      have o1 : Own h1 _ := o1
      have hsh1 : h1.sh = [] := hsh1
      obtain ⟨hx1, hxm⟩ := hx _ (List.getElem_mem hj)
      have hvj : (xs.map Ax.v)[j]? = some xs[j].v := by rw [List.getElem?_map, List.getElem?_eq_getElem hj]; rfl
      obtain ⟨h2, A2, e1, e2, o2, hsh2⟩ := markIn (f := fin j) (r := r) (n := n) hu hvj hx1 (F := ds.flatMap Ax.A ++ ((xs.drop (j + 1)).flatMap Ax.A ++ F)) (h := h1) (o1.to fun x => by have := ax_cnt hj x; simp only [cnt_append]; omega) hsh1 (hV j) (hVc j)
        (fun k h1 h2 q q' hk => hfin j xs[j].v xs[j].m k h1 h2 q q' hj hx1.lenB hk) (fun h1 q => hzin j xs[j].v xs[j].m h1 q hj hx1.lenB) (by omega) (by omega)
      refine .inl ⟨_, hf j h1 h2 hj e1, ?_, ds ++ [⟨xs[j].v, xs[j].m, (List.replicate xs[j].m (cellsOf (V j))).flatten, A2⟩], ⟨by simp [hd.len], fun i g1 g2 => ?_⟩, o2.to fun x => by simp only [cnt_append, List.flatMap_append, List.flatMap_cons, List.flatMap_nil, cnt_nil]; omega, hsh2⟩
      · rw [wrap_succ (show j < 4611686018427387904 by omega)]
      · by_cases hi : i < ds.length
        · rw [List.getElem_append_left hi]; exact hd.d i hi g2
        · have : i = ds.length := by simp at g1; omega
          have hij : i = j := by have := hd.len; omega
          subst hij
          rw [List.getElem_append_right (by omega)]
          have hd0 : i - ds.length = 0 := by omega
          simp only [hd0, List.getElem_cons_zero]
          exact ⟨trivial, trivial, trivial, e2⟩)
    (fun a hi => by
      obtain ⟨⟨v0, _⟩, h1⟩ := a
      obtain ⟨e0, ds, hd, o1, hsh1⟩ := hi
      cases e0
      have o1 : Own h1 _ := o1
      refine ⟨_, hz h1, rfl, ds, hd, o1.to fun x => by simp only [cnt_append, List.drop_length, List.flatMap_nil, cnt_nil]; omega, hsh1⟩)
  have q0 : x = r2 := q0
  subst q0
  exact ⟨h', ds, e, q1, q2, q3⟩
end
end Go.Proofs.Ytpihoicfnolepaa
