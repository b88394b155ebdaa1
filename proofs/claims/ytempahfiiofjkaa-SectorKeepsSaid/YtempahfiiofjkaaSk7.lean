/- SectorKeeps: sector by sector. -/
import Derived.Test.YtempahfiiofjkaaSk6
namespace Go.Proofs.Ytempahfiiofjkaa
open Go
set_option linter.unusedVariables false
set_option linter.unusedSimpArgs false

section
variable {n p k i j m : Nat} {sp : Option Nat} {ds D1 : List (List Int)} {ws : List (Int × List Int)} {L F G A B : Ch} {h : Heap} {s u : Value} {X K W : List Int} {cs : List Value}
theorem Sow.mono {es : Nat} {G' : Ch} (hs : Sow es s n cs G) (hm : ∀ x ∈ G, x ∈ G') : Sow es s n cs G' := fun h hh => hs h fun x hx => hh x (hm x hx)
theorem own_of {h : Heap} (wf : WF h) : ∀ {G : Ch}, (∀ x ∈ G, h.get x.1 = some x.2) → ∃ G', Own h G' ∧ ∀ x ∈ G, x ∈ G' := by
  intro G
  induction G with
  | nil => intro _; exact ⟨[], .nil, fun _ h => h⟩
  | cons x G ih =>
    intro hg
    obtain ⟨G', ho, hm⟩ := ih fun y hy => hg y (List.mem_cons_of_mem _ hy)
    by_cases he : ∃ y ∈ G', y.1 = x.1
    · obtain ⟨y, hy, e⟩ := he
      have : y = x := by
        have h1 := ho.get y hy
        have h2 := hg x (List.mem_cons_self ..)
        rw [e, h2] at h1
        exact Prod.ext e (Option.some.inj h1).symm
      subst this
      exact ⟨G', ho, fun z hz => (List.mem_cons.1 hz).elim (fun e => e ▸ hy) (hm z)⟩
    · refine ⟨x :: G', Own.cons ho (hg x (List.mem_cons_self ..)) (wf.lt (hg x (List.mem_cons_self ..))) fun y hy e => he ⟨y, hy, e⟩, fun z hz => ?_⟩
      rcases List.mem_cons.1 hz with rfl | hz
      · exact List.mem_cons_self ..
      · exact List.mem_cons_of_mem _ (hm z hz)

/-- A part of bytes. -/
theorem slc_sub {kk k' : IntKind} (hs : Slc 1 s n cs A) (hij : i ≤ j) (hj : j ≤ n) : ∃ u, sliceK h 1 (some (.int kk (i : Int))) (some (.int k' (j : Int))) none s = some (u, h) ∧ Sow 1 u (j - i) ((cs.drop i).take (j - i)) A := by
  cases hs with
  | nil =>
    obtain rfl : j = 0 := by omega
    obtain rfl : i = 0 := by omega
    exact ⟨_, rfl, Slc.nil.sow⟩
  | @mk b off sp' _ c pre _ rest hp hl hr =>
    subst hp
    refine ⟨_, sliceK_lh hij (by omega), ?_⟩
    have := Sow.piece (b := b) (off := pre.length + i * 1) (n := j - i) (c := c - i) (sp := sp') (cs := pre ++ (cs ++ rest)) (ro := false) (e := 1) (by simp; omega)
    have e : ((pre ++ (cs ++ rest)).drop (pre.length + i * 1)).take (j - i) = (cs.drop i).take (j - i) := by rw [Nat.mul_one, ← List.drop_drop, List.drop_left, List.drop_append_of_le_length (by omega), List.take_append_of_le_length (by simp; omega)]
    rw [← e]; exact this
theorem iz_flatten {ds : List (List Int)} : iz .u8 ds.flatten = ds.flatMap (iz .u8) := by
  induction ds with
  | nil => rfl
  | cons d ds ih => simp [ih]
theorem sector_of (hd : ∀ d ∈ ds, (iz .u8 d).length = 64) (hi : i < ds.length) : ((iz .u8 ds.flatten).drop (i * 64)).take (i * 64 + 64 - i * 64) = iz .u8 ds[i] := by
  rw [iz_flatten, Nat.add_sub_cancel_left, flat_get hd hi]

theorem same_fill : f_wicketlaw04_SectorKeeps_L54 = f_wicketlaw04_put_L13 := rfl

def wv (K : List Int) (i m : Nat) (x : Int) (v : Value) : Value := if (i : Int) ∈ K ∧ m8 x = (m : Int) then .string (strOfInts (List.replicate 64 (fl i))) else v
theorem wv_nil {v : Value} {x : Int} : wv [] i m x v = v := by simp [wv]
theorem wv_yes {v : Value} {x : Int} (hj : j < K.length) (hk : K[j] = (i : Int)) (hm : m8 x = (m : Int)) : wv (K.take (j + 1)) i m x v = .string (strOfInts (List.replicate 64 (fl i))) := by
  rw [wv, if_pos ⟨by rw [take_snoc hj, hk]; simp, hm⟩]
theorem wv_no {v : Value} {x : Int} (hm : ¬ m8 x = (m : Int)) : wv K i m x v = v := by rw [wv, if_neg fun h => hm h.2]
theorem wv_same {v : Value} {x : Int} (hj : j < K.length) (hk : ¬ K[j] = (i : Int)) : wv (K.take (j + 1)) i m x v = wv (K.take j) i m x v := by
  have : ¬ (i : Int) = K[j] := fun h => hk h.symm
  have h2 : ((i : Int) ∈ K.take (j + 1)) ↔ (i : Int) ∈ K.take j := by rw [take_snoc hj, List.mem_append, List.mem_singleton]; simp [this]
  simp only [wv, h2]
/-- What a write says, if it is kept and goes there. -/
theorem inner_ok {v : Value} {x : Int} {p3 : (Value × Unit) × Heap} (hu : Sow 1 p3.1.1 K.length (iz .i64 K) G) (ho : Own h (G ++ F)) (hK : K.length ≤ 1000) (hn : 2000 ≤ n) :
    ∃ h', loopT (fun a => f_wicketlaw04_SectorKeeps_L58 n p3 (m : Int) (i : Int) x K.length a.1.1 a.1.2.1 a.2) n ((v, ((0 : Int), ())), h) = some ((wv K i m x v, ()), h') ∧ Own h' (G ++ F) := by
  obtain ⟨⟨r, h'⟩, e, q1, q2⟩ := loopT_up (f := fun a => f_wicketlaw04_SectorKeeps_L58 n p3 (m : Int) (i : Int) x K.length a.1.1 a.1.2.1 a.2)
    (fun j (a : (Value × Int × Unit) × Heap) => a.1.2.1 = (j : Int) ∧ a.1.1 = wv (K.take j) i m x v ∧ Own a.2 (G ++ F))
    (fun r => r.1 = (wv K i m x v, ()) ∧ Own r.2 (G ++ F)) (N := K.length) (k := n) (j := 0) (a := ((v, (0, ())), h)) (by omega) (by omega)
    ⟨rfl, wv_nil.symm, ho⟩
    (fun j a hj hi => by
      obtain ⟨⟨v1, i1, _⟩, h1⟩ := a
      obtain ⟨c1, c2, o1⟩ := hi
      have c1 : i1 = (j : Int) := c1
      have c2 : v1 = wv (K.take j) i m x v := c2
      subst c1
      subst c2
      have o1 : Own h1 (G ++ F) := o1
      have hlt : (j : Int) < (K.length : Int) := by omega
      obtain ⟨q, e1, e2⟩ := (hu.rds o1).int hj
      by_cases hr : K[j] = (i : Int)
      · by_cases hm : m8 x = (m : Int)
        · have o2 := o1.new (.cells (iz .u8 (List.replicate 64 0)) false 1)
          generalize hb : h1.next = b at o2
          generalize hh : h1.new (.cells (iz .u8 (List.replicate 64 0)) false 1) = h2 at o2
          obtain ⟨h3, e3, o3⟩ := fil_ok (n := n) (i := i) (ob := .cells (iz .u8 (List.replicate 64 0)) false 1) o2 (by omega)
          have e4 := ((piece64 (b := b) (spp := some 0) (X := List.replicate 64 (fl i)) (by simp)).rds (h := h3) (F := G ++ F) o3).str
          have hm' : Int.tmod (IntKind.i64.wrap (Int.tmod x 8 + 8)) 8 = (m : Int) := hm
          refine .inl ⟨((.string (strOfInts (List.replicate 64 (fl i))), (((j + 1 : Nat) : Int), ())), h3), ?_, rfl, (wv_yes hj hr hm).symm, o3.tail⟩
          simp only [f_wicketlaw04_SectorKeeps_L58, same_fill]
          simp only [hlt, decide_true, cond_true, e1, e2, Option.bind_some, hr, hm', made64, bnd_eq, hh, hb, lenB_slice, e3, e4, wrap_succ (show j < 4611686018427387904 by omega)]
        · refine .inl ⟨((v, (((j + 1 : Nat) : Int), ())), h1), ?_, rfl, (wv_no hm).symm, o1⟩
          have hm' : ¬ Int.tmod (IntKind.i64.wrap (Int.tmod x 8 + 8)) 8 = (m : Int) := hm
          simp only [f_wicketlaw04_SectorKeeps_L58]
          simp only [hlt, decide_true, cond_true, e1, e2, Option.bind_some, hr, hm', wv_no hm, decide_false, cond_false, wrap_succ (show j < 4611686018427387904 by omega)]
      · refine .inl ⟨((wv (K.take j) i m x v, (((j + 1 : Nat) : Int), ())), h1), ?_, rfl, (wv_same hj hr).symm, o1⟩
        simp only [f_wicketlaw04_SectorKeeps_L58]
        simp only [hlt, decide_true, cond_true, e1, e2, Option.bind_some, hr, decide_false, cond_false, wrap_succ (show j < 4611686018427387904 by omega)])
    (fun a hi => by
      obtain ⟨⟨v1, i1, _⟩, h1⟩ := a
      obtain ⟨c1, c2, o1⟩ := hi
      have c1 : i1 = (K.length : Int) := c1
      have c2 : v1 = wv (K.take K.length) i m x v := c2
      subst c1
      subst c2
      exact ⟨((wv K i m x v, ()), h1), by simp [f_wicketlaw04_SectorKeeps_L58, List.take_length], rfl, o1⟩)
  have q1 : r = _ := q1
  subst q1
  exact ⟨h', e, q2⟩

theorem ak_get {P : Nat → Bool} (hd : Okd ds (wsOf W)) (hj : j < W.length) (hm : m < ds.length) : (ak P (wsOf W) (j + 1) ds)[m]'(by rw [ak_len]; exact hm) = if P j ∧ m8 W[j] = (m : Int) then List.replicate 64 (fl j) else (ak P (wsOf W) j ds)[m]'(by rw [ak_len]; exact hm) := by
  have e := ak_succ (P := P) (ws := wsOf W) (ds := ds) (j := j) (by simpa using hj)
  simp only [e]
  have hw := m8_range W[j]
  by_cases hP : P j
  · simp only [hP, if_true, List.getElem_set, wsOf_at hj, true_and]
    by_cases hm : m8 W[j] = (m : Int)
    · rw [if_pos (by omega), if_pos hm]
    · rw [if_neg (by omega), if_neg hm]
  · simp [hP]

/-- The newest of those that are kept. -/
theorem outer_ok {p2 p3 : (Value × Unit) × Heap} (hd : Okd D1 (wsOf W)) (hw : Sow 1 p2.1.1 W.length (iz .i64 W) G) (hu : Sow 1 p3.1.1 K.length (iz .i64 K) G) (ho : Own h (G ++ F)) (hm : m < D1.length) (hW : W.length ≤ 1000) (hK : K.length ≤ 1000) (hn : 2000 ≤ n) :
    ∃ h', loopT (fun a => f_wicketlaw04_SectorKeeps_L60 n p2 p3 (m : Int) W.length a.1.1 a.1.2.1 a.2) n ((.string (strOfInts D1[m]), ((0 : Int), ())), h) = some ((.string (strOfInts ((ak (fun j => decide ((j : Int) ∈ K)) (wsOf W) W.length D1)[m]'(by rw [ak_len]; exact hm))), ()), h') ∧ Own h' (G ++ F) := by
  obtain ⟨⟨r, h'⟩, e, q1, q2⟩ := loopT_up (f := fun a => f_wicketlaw04_SectorKeeps_L60 n p2 p3 (m : Int) W.length a.1.1 a.1.2.1 a.2)
    (fun j (a : (Value × Int × Unit) × Heap) => a.1.2.1 = (j : Int) ∧ a.1.1 = .string (strOfInts ((ak (fun j => decide ((j : Int) ∈ K)) (wsOf W) j D1)[m]'(by rw [ak_len]; exact hm))) ∧ Own a.2 (G ++ F))
    (fun r => r.1 = (.string (strOfInts ((ak (fun j => decide ((j : Int) ∈ K)) (wsOf W) W.length D1)[m]'(by rw [ak_len]; exact hm))), ()) ∧ Own r.2 (G ++ F)) (N := W.length) (k := n) (j := 0) (a := ((.string (strOfInts D1[m]), (0, ())), h)) (by omega) (by omega)
    ⟨rfl, rfl, ho⟩
    (fun j a hj hi => by
      obtain ⟨⟨v1, i1, _⟩, h1⟩ := a
      obtain ⟨c1, c2, o1⟩ := hi
      have c1 : i1 = (j : Int) := c1
      have c2 : v1 = _ := c2
      subst c1
      subst c2
      have o1 : Own h1 (G ++ F) := o1
      have hlt : (j : Int) < (W.length : Int) := by omega
      obtain ⟨q, e1, e2⟩ := (hw.rds o1).int hj
      obtain ⟨h2, e3, o2⟩ := inner_ok (n := n) (m := m) (i := j) (x := W[j]) (v := .string (strOfInts ((ak (fun j => decide ((j : Int) ∈ K)) (wsOf W) j D1)[m]'(by rw [ak_len]; exact hm)))) hu o1 hK hn
      refine .inl ⟨((_, (((j + 1 : Nat) : Int), ())), h2), ?_, rfl, rfl, o2⟩
      simp only [f_wicketlaw04_SectorKeeps_L60]
      simp only [hlt, decide_true, cond_true, e1, e2, Option.bind_some, (hu.rds o1).lenB, e3, wrap_succ (show j < 4611686018427387904 by omega), ak_get hd hj hm, decide_eq_true_eq, wv]
      split <;> rfl)
    (fun a hi => by
      obtain ⟨⟨v1, i1, _⟩, h1⟩ := a
      obtain ⟨c1, c2, o1⟩ := hi
      have c1 : i1 = (W.length : Int) := c1
      have c2 : v1 = _ := c2
      subst c1
      subst c2
      exact ⟨((_, ()), h1), by simp [f_wicketlaw04_SectorKeeps_L60], rfl, o1⟩)
  have q1 : r = _ := q1
  subst q1
  exact ⟨h', e, q2⟩
end
end Go.Proofs.Ytempahfiiofjkaa
