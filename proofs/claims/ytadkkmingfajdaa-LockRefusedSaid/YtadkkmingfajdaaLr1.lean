/- LockRefused. -/
import Derived.Test.YtadkkmingfajdaaLrAll
namespace Go.Proofs.Ytadkkmingfajdaa
open Go
set_option linter.unusedVariables false
set_option linter.unusedSimpArgs false

section
variable {p N n : Nat} {es : List Hd} {last t : Int} {L F G Av Ad Ag : Ch} {h : Heap} {v dv gv s u u1 u3 : Value} {W : List Ws} {D S X Y : List Int} {Gn : List Bool}

theorem rises_bad {i : Nat} (hs : Rds h 1 s X.length (iz .i64 X)) (hi : i + 1 < X.length) (hx : X[i + 1] ≤ X[i]) (hi2 : i ≤ 100) (hn : 2000 ≤ n) : f_lock_rises n s h = some ((false, ()), h) := by
  obtain ⟨r, e1, rfl⟩ := loopT_up (f := fun a : (Int × Unit) × Heap => f_lock_rises_L8 n s a.1.1 a.2)
    (I := fun j a => a = ((((j + 1 : Nat) : Int), ()), h)) (Q := fun r => r = .inr ((false, ()), h)) (N := i) (k := n) (j := 0) (a := ((1, ()), h)) (by omega) (Nat.zero_le _) rfl (by
      rintro j a hj rfl
      obtain ⟨q, a1, a2⟩ := hs.int (L := X) (i := j + 1) (by omega)
      obtain ⟨q2, b1, b2⟩ := hs.int (L := X) (i := j) (by omega)
      have hw : IntKind.i64.wrap (((j + 1 : Nat) : Int) - 1) = (j : Int) := by rw [wrap_i64 (by omega) (by omega)]; omega
      have hlt : ((j + 1 : Nat) : Int) < (X.length : Int) := by omega
      by_cases hx : X[j + 1] ≤ X[j]
      · refine .inr ⟨.inr ((false, ()), h), ?_, rfl⟩
        simp only [f_lock_rises_L8, hs.lenB, Option.bind_some, hlt, decide_true, cond_true, a1, a2, hw, b1, b2, hx]
      · refine .inl ⟨((((j + 1 + 1 : Nat) : Int), ()), h), ?_, rfl⟩
        simp only [f_lock_rises_L8, hs.lenB, Option.bind_some, hlt, decide_true, cond_true, a1, a2, hw, b1, b2, hx, decide_false, cond_false, wrap_succ (j := j + 1) (by omega)]) (by
      rintro a rfl
      obtain ⟨q, a1, a2⟩ := hs.int (L := X) (i := i + 1) hi
      obtain ⟨q2, b1, b2⟩ := hs.int (L := X) (i := i) (by omega)
      have hw : IntKind.i64.wrap (((i + 1 : Nat) : Int) - 1) = (i : Int) := by rw [wrap_i64 (by omega) (by omega)]; omega
      have hlt : ((i + 1 : Nat) : Int) < (X.length : Int) := by omega
      refine ⟨.inr ((false, ()), h), ?_, rfl⟩
      simp only [f_lock_rises_L8, hs.lenB, Option.bind_some, hlt, decide_true, cond_true, a1, a2, hw, b1, b2, hx])
  have e1' : loopT (fun a : (Int × Unit) × Heap => f_lock_rises_L8 n s a.1.1 a.2) n ((1, ()), h) = some (.inr ((false, ()), h)) := e1
  simp only [f_lock_rises, f_lock_rises_C9, e1', thenB_inr]

theorem lay_form (hr : f_lock_rises n s h = some ((false, ()), h)) : f_lock_Locks_Lay n (some ⟨p, 0, none⟩) t s h = some ((53, ()), h) := by
  simp only [f_lock_Locks_Lay, Option.isNone_some, cond_false, hr, Option.bind_some, Bool.not_false, cond_true]

/-- A set of one. -/
theorem one_rises {x : Int} (hs : Rds h 1 s 1 (iz .i64 [x])) (hn : 2000 ≤ n) : f_lock_rises n s h = some ((true, ()), h) := by
  obtain ⟨b, e1, hb⟩ := rises_ok (n := n) (X := [x]) hs (by simp) hn
  obtain rfl : b = true := hb.2 ⟨by simp, by simp⟩
  exact e1
theorem lay_one {x : Int} (hd : Lk p N es last L) (hs : Sow 1 s 1 (iz .i64 [x]) G) (ho : Own h (L ++ (G ++ F))) (hn : 2000 ≤ n) (hbad : x < 0 ∨ (N : Int) ≤ x ∨ t ≤ last) :
    f_lock_Locks_Lay n (some ⟨p, 0, none⟩) t s h = some ((if x < 0 ∨ (N : Int) ≤ x then 51 else 110, ()), h) := by
  obtain ⟨sq, A, m, qs, hsq, hl, rfl⟩ := hd
  have rs : Rds h 1 s [x].length (iz .i64 [x]) := hs h fun y hy => ho.get y (by simp [hy])
  have e1 := one_rises (n := n) rs hn
  obtain ⟨a, a1, a2⟩ := rs.int (L := [x]) (i := 0) (by simp)
  have a1 : ixB 1 s 0 = some a := a1
  have a2 : ldT (.int .i64) h (some a) = some x := a2
  have gp : h.get p = some (.cells (lcells sq last m) false 0) := ho.get (p, _) (by simp)
  have ld0 : ldT .any h (some ⟨p, 0, none⟩) = some sq := by rw [ldT_of gp]; rfl
  have ld1 : ldT (.int .u64) h (some ⟨p, 1, none⟩) = some last := by rw [ldT_of gp]; rfl
  have rsq : Rds h 1 sq N (qs.map Qd.cell) := hsq.sow h fun x hx => ho.get x (by simp [hx])
  have hlen : lenB s = some 1 := rs.lenB
  have hw : IntKind.i64.wrap (((1 : Nat) : Int) - 1) = 0 := by rw [wrap_i64 (by omega) (by omega)]; omega
  by_cases h1 : x < 0
  · simp only [f_lock_Locks_Lay, Option.isNone_some, cond_false, e1, Option.bind_some, Bool.not_true, a1, a2, h1, decide_true, cond_true, true_or, if_true]
  · by_cases h2 : (N : Int) ≤ x
    · simp only [f_lock_Locks_Lay, Option.isNone_some, cond_false, e1, Option.bind_some, Bool.not_true, a1, a2, h1, decide_false, hlen, hw, fa_mk, Nat.zero_add, ld0, rsq.lenB, h2, decide_true, cond_true, or_true, if_true]
    · have h3 : t ≤ last := by omega
      simp only [f_lock_Locks_Lay, Option.isNone_some, cond_false, e1, Option.bind_some, Bool.not_true, a1, a2, h1, decide_false, hlen, hw, fa_mk, Nat.zero_add, ld0, rsq.lenB, h2, ld1, h3, decide_true, cond_true, or_self, if_false]

theorem ent_out (hs : Stt es W D Gn) (ht : t ≤ 0 ∨ (W.length : Int) < t) : ent es t = none := by
  refine ent_none fun e he h => ?_
  obtain ⟨k, h1, h2, _⟩ := hs.only e he
  omega

/-- The odd sets. -/
theorem odd_ok {p1 : (Option Addr × Value × Unit) × Heap} {K : Nat} (hp : p1.1.1 = some ⟨p, 0, none⟩) (hu : Sow 1 u3 Y.length (iz .i64 Y) G) (hY : Y.length * 8 ≤ 140737488355328) (ho : Own h (G ++ F)) (hn : 2000 ≤ n) :
    ∃ h', f_wicketlaw14_LockRefused_C52 n u3 p1 K h = some (.inl ((), h')) ∧ Own h' (G ++ F) := by
  obtain ⟨r, e1, h', rfl, o1⟩ := loopT_up (f := fun a : (Int × Unit) × Heap => f_wicketlaw14_LockRefused_L51 n u3 p1 K a.1.1 a.2)
    (I := fun j a => a.1.1 = ((j + 1 : Nat) : Int) ∧ Own a.2 (G ++ F)) (Q := fun r => ∃ h', r = .inl ((), h') ∧ Own h' (G ++ F)) (N := min (Y.length - 1) 19) (k := n) (j := 0) (a := ((1, ()), h)) (by omega) (Nat.zero_le _) ⟨rfl, ho⟩ (by
      rintro j ⟨⟨z, _⟩, hh⟩ hj ⟨rfl, ow⟩
      have ow : Own hh (G ++ F) := ow
      have rs : Rds hh 1 u3 Y.length (iz .i64 Y) := hu.rds ow
      obtain ⟨q, a1, a2⟩ := rs.int (L := Y) (i := j + 1) (by omega)
      obtain ⟨q2, b1, b2⟩ := rs.int (L := Y) (i := j) (by omega)
      have hw : IntKind.i64.wrap (((j + 1 : Nat) : Int) - 1) = (j : Int) := by rw [wrap_i64 (by omega) (by omega)]; omega
      have g1 : ((j + 1 : Nat) : Int) < (Y.length : Int) := by omega
      have g2 : ((j + 1 : Nat) : Int) < 20 := by omega
      have hsucc : IntKind.i64.wrap (((j + 1 : Nat) : Int) + 1) = ((j + 1 + 1 : Nat) : Int) := wrap_succ (by omega)
      left
      by_cases hx : Y[j + 1] ≤ Y[j]
      · have ob := ow.new (.cells [] false 1)
        obtain ⟨s2, h2, A2, e3, l3, oc⟩ := hu.app (h := hh.new (.cells [] false 1)) (F := F) (s := .slice (some ⟨hh.next, 0, some 0⟩) 0 0) (cs := []) (n := 0) (A := [(hh.next, .cells ([] ++ ([] ++ [])) false 1)]) (bytes := 8) (.mk rfl rfl rfl) ob (by decide) (by omega)
        rw [Nat.zero_add, List.nil_append] at l3
        have e4 := lay_form (p := p) (t := IntKind.u64.wrap (IntKind.u64.wrap (K : Int) + 1)) (rises_bad (n := n) (l3.rds oc) (i := j) (by omega) hx (by omega) hn)
        have f1 : fillL [] [] = some [] := rfl
        refine ⟨((((j + 1 + 1 : Nat) : Int), ()), h2), ?_, rfl, oc.right⟩
        simp only [f_wicketlaw14_LockRefused_L51, rs.lenB, Option.bind_some, g1, g2, decide_true, cond_true, a1, a2, hw, b1, b2, hx, f1, bnd_eq, e3, hp, e4, f_wicketlaw14_num, Bool.not_true, cond_false, hsucc]
      · refine ⟨((((j + 1 + 1 : Nat) : Int), ()), hh), ?_, rfl, ow⟩
        simp only [f_wicketlaw14_LockRefused_L51, rs.lenB, Option.bind_some, g1, g2, decide_true, cond_true, a1, a2, hw, b1, b2, hx, decide_false, cond_false, hsucc]) (by
      rintro ⟨⟨z, _⟩, hh⟩ ⟨rfl, ow⟩
      have ow : Own hh (G ++ F) := ow
      have rs : Rds hh 1 u3 Y.length (iz .i64 Y) := hu.rds ow
      refine ⟨.inl ((), hh), ?_, hh, rfl, ow⟩
      by_cases g1 : min (Y.length - 1) 19 + 1 < Y.length
      · have g1' : ((min (Y.length - 1) 19 + 1 : Nat) : Int) < (Y.length : Int) := by omega
        have g2 : ¬ ((min (Y.length - 1) 19 + 1 : Nat) : Int) < 20 := by omega
        simp only [f_wicketlaw14_LockRefused_L51, rs.lenB, Option.bind_some, g1', g2, decide_true, decide_false, cond_true, cond_false]
      · have g1' : ¬ ((min (Y.length - 1) 19 + 1 : Nat) : Int) < (Y.length : Int) := by omega
        simp only [f_wicketlaw14_LockRefused_L51, rs.lenB, Option.bind_some, g1', decide_false, cond_false])
  exact ⟨h', e1, o1⟩

/-- The list of zeros. -/
theorem zeros_ok (ho : Own h F) {K : Nat} (hK : K ≤ 10) (hn : 2000 ≤ n) :
    ∃ z h' A, loopT (fun a : (Value × Int × Unit) × Heap => f_wicketlaw14_LockRefused_L14 n K a.1.1 a.1.2.1 a.2) n ((.slice none 0 0, 0, ()), h) = some ((z, ()), h') ∧ Slc 1 z K (iz .i64 (List.replicate K 0)) A ∧ Own h' (A ++ F) := by
  obtain ⟨⟨⟨z, _⟩, h'⟩, e1, A, l1, o1⟩ := loopT_up (f := fun a : (Value × Int × Unit) × Heap => f_wicketlaw14_LockRefused_L14 n K a.1.1 a.1.2.1 a.2)
    (I := fun j a => a.1.2.1 = (j : Int) ∧ ∃ A, Slc 1 a.1.1 j (iz .i64 (List.replicate j 0)) A ∧ Own a.2 (A ++ F)) (Q := fun r => ∃ A, Slc 1 r.1.1 K (iz .i64 (List.replicate K 0)) A ∧ Own r.2 (A ++ F)) (N := K) (k := n) (j := 0) (a := ((.slice none 0 0, 0, ()), h)) (by omega) (Nat.zero_le _) ⟨rfl, [], .nil, ho⟩ (by
      rintro j ⟨⟨v, z, _⟩, hh⟩ hj ⟨rfl, A, l1, ow⟩
      obtain ⟨v2, h2, A2, e2, l2, o2⟩ := l1.push (new := [.int .i64 0]) ow (by decide) rfl (bytes := 8) (by omega)
      have f1 : fillL [.int .i64 0] [(0, 1, .int .i64 0)] = some [.int .i64 0] := rfl
      have hlt : (j : Int) < (K : Int) := by omega
      refine .inl ⟨((v2, ((j + 1 : Nat) : Int), ()), h2), ?_, rfl, A2, ?_, o2⟩
      · simp only [f_wicketlaw14_LockRefused_L14, hlt, decide_true, cond_true, f1, Option.bind_some, bnd_eq, e2, wrap_succ (j := j) (by omega)]
      · rw [List.replicate_succ', iz_append]; exact l2) (by
      rintro ⟨⟨v, z, _⟩, hh⟩ ⟨rfl, A, l1, ow⟩
      exact ⟨((v, ()), hh), by simp [f_wicketlaw14_LockRefused_L14], A, l1, ow⟩)
  exact ⟨z, h', A, e1, l1, o1⟩
end
end Go.Proofs.Ytadkkmingfajdaa
