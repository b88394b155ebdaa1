/- LedgerPlays: what the document's ledger tells. -/
import Derived.Test.YtnkhlohphaomlaaPL3
namespace Go.Proofs.Ytnkhlohphaomlaa
open Go
set_option linter.unusedVariables false
set_option linter.unusedSimpArgs false
variable {T : Nat → Option AFun} {H : Heap} {m : Nat} {t : Int}

abbrev Part := Int × Int × Int
def part (p : Part) : List Value := [.int .u64 p.1, .int .i64 p.2.1, .int .i64 p.2.2]
def kvOf (ps : List Part) : List (Int × Int) := ps.map fun p => (p.1, p.2.1 - p.2.2)
structure Ro (q : Bool) (H : Heap) (r : Nat) (cap mark rec gone : Int) (s : Value) (ps : List Part) : Prop where
  at_ : H.get r = some (.cells [.int .i64 cap, .int .i64 mark, .int .i64 rec, .int .i64 gone, s] q 0)
  sl : Sl H 3 s ps.length (ps.flatMap part)
theorem Ro.fr {q : Bool} {H' : Heap} {r : Nat} {cap mark rec gone : Int} {s : Value} {ps : List Part} {fp : List Nat} (h : Ro q H r cap mark rec gone s ps) (f : Fr H H' fp) (h1 : r ∉ fp) (h2 : ∀ b ∈ blk s, b ∉ fp) : Ro q H' r cap mark rec gone s ps := ⟨f.keep _ _ h.at_ h1, h.sl.fr f h2⟩
theorem Ro.nb {q : Bool} {r : Nat} {cap mark rec gone : Int} {s : Value} {ps : List Part} (h : Ro q H r cap mark rec gone s ps) : r ∉ blk s := h.sl.notin h.at_ (by decide)
theorem Ro.ro {q : Bool} {r : Nat} {cap mark rec gone : Int} {s : Value} {ps : List Part} (h : Ro q H r cap mark rec gone s ps) : Ro true (H.put r (.cells [.int .i64 cap, .int .i64 mark, .int .i64 rec, .int .i64 gone, s] true 0)) r cap mark rec gone s ps :=
  ⟨by simp, h.sl.keep fun b hb o ho => by rw [Heap.get_put, if_neg (by rintro rfl; exact h.nb hb)]; exact ho⟩
theorem Rd.part {v : Value} {ps : List Part} (h : Rd H 3 v ps.length (ps.flatMap part)) {j : Nat} (hj : j < ps.length) :
    ∃ b sp c, v = .slice (some ⟨b, 0, sp⟩) ps.length c ∧ readCells H b (j * 3) 1 = some [.int .u64 ps[j].1] ∧ readCells H b (j * 3 + 1) 1 = some [.int .i64 ps[j].2.1] ∧ readCells H b (j * 3 + 2) 1 = some [.int .i64 ps[j].2.2] := by
  obtain ⟨b, sp, c, rfl, hr⟩ := h.read j hj
  have e := flat_at (mk := Go.Proofs.Ytnkhlohphaomlaa.part) (es := 3) (fun _ => rfl) (List.getElem?_eq_getElem hj)
  have q : ∀ i, i < 3 → ((ps.flatMap Go.Proofs.Ytnkhlohphaomlaa.part).drop (j * 3 + i)).take 1 = ((Go.Proofs.Ytnkhlohphaomlaa.part ps[j]).drop i).take 1 := by
    intro i hi
    rw [← e, List.drop_take, List.drop_drop, List.take_take]
    congr 1; omega
  refine ⟨b, sp, c, rfl, ?_, ?_, ?_⟩
  · rw [hr _ _ (by omega)]; have := q 0 (by omega); rw [Nat.add_zero] at this; rw [this]; rfl
  · rw [hr _ _ (by omega), q 1 (by omega)]; rfl
  · rw [hr _ _ (by omega), q 2 (by omega)]; rfl

theorem fidx_first : ∀ {kv : List (Int × Int)} {i j : Nat} {b : Int}, (∀ p ∈ kv.take j, p.1 ≠ t) → kv[j]? = some (t, b) → fidx t kv i = some (i + j, b) := by
  intro kv
  induction kv with
  | nil => intro i j b _ h; simp at h
  | cons p kv ih =>
    intro i j b h1 h2
    obtain ⟨a, c⟩ := p
    cases j with
    | zero => simp at h2; obtain ⟨rfl, rfl⟩ := h2; simp [fidx]
    | succ j =>
      have ha : a ≠ t := h1 (a, c) (by simp)
      have := ih (i := i + 1) (j := j) (b := b) (fun p hp => h1 p (by simp [hp])) (by simpa using h2)
      simp only [fidx, ha, if_false, this]
      congr 2; omega

structure RfT (T : Nat → Option AFun) : Prop where
  new : T k_wicketref12_New = some c_wicketref12_New
  used : T k_wicketref12_Ledger_Used = some c_wicketref12_Ledger_Used
  reserved : T k_wicketref12_Ledger_Reserved = some c_wicketref12_Ledger_Reserved
  at_ : T k_wicketref12_Ledger_at = some c_wicketref12_Ledger_at
  fits : T k_wicketref12_Ledger_Fits = some c_wicketref12_Ledger_Fits
  marked : T k_wicketref12_Ledger_Marked = some c_wicketref12_Ledger_Marked
  left : T k_wicketref12_Ledger_Left = some c_wicketref12_Ledger_Left
  reserve : T k_wicketref12_Ledger_Reserve = some c_wicketref12_Ledger_Reserve
  append : T k_wicketref12_Ledger_Append = some c_wicketref12_Ledger_Append
  close : T k_wicketref12_Ledger_Close = some c_wicketref12_Ledger_Close
  free : T k_wicketref12_Ledger_Free = some c_wicketref12_Ledger_Free
  copy : T k_wicketref12_Ledger_Copy = some c_wicketref12_Ledger_Copy

section
variable {q : Bool} {r : Nat} {cap mark rec gone n : Int} {s : Value} {ps : List Part}
theorem rused_ok (hT : RfT T) (h : Ro q H r cap mark rec gone s ps) (h1 : 0 ≤ rec ∧ rec ≤ 1000) (h2 : 0 ≤ gone ∧ gone ≤ 1000) : exec T (m + 1) (.fn k_wicketref12_Ledger_Used) [.pointer (some ⟨r, 0, none⟩)] H = some (.int .i64 (rec - gone), H) := by
  have w : IntKind.i64.wrap (rec - gone) = rec - gone := wrap_i64 (by omega) (by omega)
  rw [exec_fn hT.used]
  simp [readCells_of h.at_, w, endOf, takeAll, results?, resOf, endVal]
theorem rmarked_ok (hT : RfT T) (h : Ro false H r cap mark rec gone s ps) (h1 : 0 ≤ rec ∧ rec ≤ 1000) (h2 : 0 ≤ gone ∧ gone ≤ 1000) : exec T (m + 2) (.fn k_wicketref12_Ledger_Marked) [.pointer (some ⟨r, 0, none⟩)] H = some (.bool (decide (mark ≤ rec - gone)), H) := by
  have hr := h.at_
  have e := rused_ok (m := m) hT h.ro h1 h2
  rw [exec_fn hT.marked]
  simp [readCells_of h.at_, doperK_r, roAt_cells hr, e, hr, put_self hr, endOf, takeAll, results?, resOf, endVal]

theorem rat_ok (hT : RfT T) (h : Ro q H r cap mark rec gone s ps) (hm : ps.length < m) (hb : ps.length ≤ 1000) : exec T (m + 1) (.fn k_wicketref12_Ledger_at) [.pointer (some ⟨r, 0, none⟩), .int .u64 t] H = some (.int .i64 (atOf t (kvOf ps)), H) := by
  obtain ⟨a, c, hs⟩ := h.sl.form
  have rs := readCells_of (off := 4) (m := 1) h.at_ (by simp)
  obtain ⟨t1, e1, r0, r1, r5⟩ : ∃ t1, run (exec T m) m none (.seq c_wicketref12_Ledger_at_S0 c_wicketref12_Ledger_at_S1) ⟨initTm 0 .nil [.pointer (some ⟨r, 0, none⟩), .int .u64 t], H, []⟩ = some (.normal, ⟨t1, H, []⟩) ∧ t1.get 0 = some (.pointer (some ⟨r, 0, none⟩)) ∧ t1.get 1 = some (.int .u64 t) ∧ t1.get 5 = some (.int .i64 (0 : Nat)) := by
    simp [c_wicketref12_Ledger_at_S0, c_wicketref12_Ledger_at_S1]
  obtain ⟨e, ⟨t2, H2, ds2⟩, e2, hne, hH, hds, hQ⟩ := loop_up (f := run (exec T m) m none c_wicketref12_Ledger_at_L7) (a := 0) (n := ps.length) (m := m) (s := ⟨t1, H, []⟩)
    (J := fun j s => s.h = H ∧ s.ds = [] ∧ s.tm.get 0 = some (.pointer (some ⟨r, 0, none⟩)) ∧ s.tm.get 1 = some (.int .u64 t) ∧ s.tm.get 5 = some (.int .i64 (j : Nat)) ∧ ∀ p ∈ (kvOf ps).take j, p.1 ≠ t)
    (Q := fun e s => s.h = H ∧ s.ds = [] ∧ ((e = .exit 0 ∧ ∀ p ∈ kvOf ps, p.1 ≠ t) ∨ (e = .ret ∧ ∃ j : Nat, ∃ b, fidx t (kvOf ps) 0 = some (j, b) ∧ s.tm.get 4 = some (.int .i64 (j : Nat))))) (by omega) (Nat.zero_le _) ⟨rfl, rfl, r0, r1, r5, by simp⟩ (by
      rintro j ⟨tm, H', ds⟩ hj ⟨hH, hds, u0, u1, u5, hn⟩
      simp only at hH hds u0 u1 u5
      subst hH hds
      obtain ⟨b, sp, c', hv, x0, _, _⟩ := h.sl.toRd.part hj
      subst hv
      have hj' : (j : Int) < ps.length := by omega
      have w1 : IntKind.i64.wrap ((j : Int) + 1) = ((j + 1 : Nat) : Int) := by rw [wrap_i64 (by omega) (by omega)]; rfl
      have hkj : (kvOf ps)[j]? = some (ps[j].1, ps[j].2.1 - ps[j].2.2) := by simp [kvOf, hj]
      by_cases he : ps[j].1 = t
      · obtain ⟨t3, g3, q4⟩ : ∃ t3, run (exec T m) m none c_wicketref12_Ledger_at_L7 ⟨tm, H', []⟩ = some (.ret, ⟨t3, H', []⟩) ∧ t3.get 4 = some (.int .i64 (j : Nat)) := by
          simp (maxSteps := 1000000) (disch := first | omega | (simp; omega) | (simp; done) | fail) [-Int.natCast_add, c_wicketref12_Ledger_at_L7, c_wicketref12_Ledger_at_S2, c_wicketref12_Ledger_at_S3, c_wicketref12_Ledger_at_S4, c_wicketref12_Ledger_at_S5, c_wicketref12_Ledger_at_S6, u0, u1, u5, rs, goInt, hj, hj', idxK_of, x0, he]
        rw [he] at hkj
        have := fidx_first (i := 0) hn hkj
        rw [Nat.zero_add] at this
        exact ⟨_, _, g3, .inr ⟨by simp, rfl, rfl, .inr ⟨rfl, j, _, this, q4⟩⟩⟩
      · obtain ⟨t3, g3, q0, q1, q5⟩ : ∃ t3, run (exec T m) m none c_wicketref12_Ledger_at_L7 ⟨tm, H', []⟩ = some (.normal, ⟨t3, H', []⟩) ∧ t3.get 0 = some (.pointer (some ⟨r, 0, none⟩)) ∧ t3.get 1 = some (.int .u64 t) ∧ t3.get 5 = some (.int .i64 ((j + 1 : Nat) : Int)) := by
          simp (maxSteps := 1000000) (disch := first | omega | (simp; omega) | (simp; done) | fail) [-Int.natCast_add, c_wicketref12_Ledger_at_L7, c_wicketref12_Ledger_at_S2, c_wicketref12_Ledger_at_S3, c_wicketref12_Ledger_at_S4, c_wicketref12_Ledger_at_S5, c_wicketref12_Ledger_at_S6, u0, u1, u5, rs, goInt, hj, hj', idxK_of, x0, he, w1]
        refine ⟨_, _, g3, .inl ⟨rfl, rfl, rfl, q0, q1, q5, fun p hp => ?_⟩⟩
        rw [List.take_add_one, hkj, Option.toList_some, List.mem_append, List.mem_singleton] at hp
        rcases hp with h1 | rfl
        · exact hn p h1
        · exact he) (by
      rintro ⟨tm, H', ds⟩ ⟨hH, hds, u0, u1, u5, hn⟩
      simp only at hH hds u0 u1 u5
      subst hH hds
      rw [List.take_of_length_le (by simp [kvOf])] at hn
      subst hs
      obtain ⟨t3, g3⟩ : ∃ t3, run (exec T m) m none c_wicketref12_Ledger_at_L7 ⟨tm, H', []⟩ = some (.exit 0, ⟨t3, H', []⟩) := by
        simp [c_wicketref12_Ledger_at_L7, c_wicketref12_Ledger_at_S2, c_wicketref12_Ledger_at_S3, c_wicketref12_Ledger_at_S4, c_wicketref12_Ledger_at_S5, c_wicketref12_Ledger_at_S6, u0, u5, rs, goInt]
      exact ⟨_, _, g3, by simp, rfl, rfl, .inl ⟨rfl, hn⟩⟩)
  simp only at hH hds hQ
  subst hH hds
  have e3 : run (exec T m) m none (.seq c_wicketref12_Ledger_at_S0 c_wicketref12_Ledger_at_S8) ⟨initTm 0 .nil [.pointer (some ⟨r, 0, none⟩), .int .u64 t], H2, []⟩ = blockK 0 (some (e, ⟨t2, H2, []⟩)) := by
    rw [c_wicketref12_Ledger_at_S8, run_pre2, e1, seqK_normal, run_block, run_loop, e2]
  rw [exec_fn hT.at_, run_pre2, e3]
  rcases hQ with ⟨rfl, hn⟩ | ⟨rfl, j, b, hf, q4⟩
  · have : atOf t (kvOf ps) = -1 := by simp [atOf, fidx_none.2 hn]
    simp [c_wicketref12_Ledger_at_S9, endOf, takeAll, results?, resOf, endVal, this]
  · have : atOf t (kvOf ps) = j := by simp [atOf, hf]
    simp [c_wicketref12_Ledger_at_S9, endOf, takeAll, results?, resOf, endVal, this, q4]

theorem rreserved_ok (hT : RfT T) (h : Ro q H r cap mark rec gone s ps) (hm : ps.length < m) (hb : ps.length ≤ 1000) (hp : ∀ p ∈ ps, 0 ≤ p.2.2 ∧ p.2.2 ≤ p.2.1 ∧ p.2.1 ≤ 1000) (htot : tot (kvOf ps) ≤ 64) :
    exec T (m + 1) (.fn k_wicketref12_Ledger_Reserved) [.pointer (some ⟨r, 0, none⟩)] H = some (.int .i64 (tot (kvOf ps)), H) := by
  obtain ⟨a, c, hs⟩ := h.sl.form
  have rs := readCells_of (off := 4) (m := 1) h.at_ (by simp)
  have nn : ∀ p ∈ kvOf ps, 0 ≤ p.2 := by
    intro p hpp
    obtain ⟨q, hq, rfl⟩ := List.mem_map.1 hpp
    have := hp q hq
    show 0 ≤ q.2.1 - q.2.2
    omega
  obtain ⟨t1, e1, r0, r3, r4⟩ : ∃ t1, run (exec T m) m none (.seq c_wicketref12_Ledger_Reserved_S0 (.seq c_wicketref12_Ledger_Reserved_S1 c_wicketref12_Ledger_Reserved_S2)) ⟨initTm 0 .nil [.pointer (some ⟨r, 0, none⟩)], H, []⟩ = some (.normal, ⟨t1, H, []⟩) ∧ t1.get 0 = some (.pointer (some ⟨r, 0, none⟩)) ∧ t1.get 3 = some (.int .i64 0) ∧ t1.get 4 = some (.int .i64 (0 : Nat)) := by
    simp [c_wicketref12_Ledger_Reserved_S0, c_wicketref12_Ledger_Reserved_S1, c_wicketref12_Ledger_Reserved_S2]
  obtain ⟨e, ⟨t2, H2, ds2⟩, e2, hne, hH, hds, rfl, q3⟩ := loop_up (f := run (exec T m) m none c_wicketref12_Ledger_Reserved_L6) (a := 0) (n := ps.length) (m := m) (s := ⟨t1, H, []⟩)
    (J := fun j s => s.h = H ∧ s.ds = [] ∧ s.tm.get 0 = some (.pointer (some ⟨r, 0, none⟩)) ∧ s.tm.get 3 = some (.int .i64 (tot ((kvOf ps).take j))) ∧ s.tm.get 4 = some (.int .i64 (j : Nat)))
    (Q := fun e s => s.h = H ∧ s.ds = [] ∧ e = .exit 0 ∧ s.tm.get 3 = some (.int .i64 (tot (kvOf ps)))) (by omega) (Nat.zero_le _) ⟨rfl, rfl, r0, by simpa using r3, r4⟩ (by
      rintro j ⟨tm, H', ds⟩ hj ⟨hH, hds, u0, u3, u4⟩
      simp only at hH hds u0 u3 u4
      subst hH hds
      obtain ⟨b, sp, c', hv, _, x1, x2⟩ := h.sl.toRd.part hj
      subst hv
      have hj' : (j : Int) < ps.length := by omega
      have w1 : IntKind.i64.wrap ((j : Int) + 1) = ((j + 1 : Nat) : Int) := by rw [wrap_i64 (by omega) (by omega)]; rfl
      have hkj : (kvOf ps)[j]? = some (ps[j].1, ps[j].2.1 - ps[j].2.2) := by simp [kvOf, hj]
      have hsum : tot ((kvOf ps).take (j + 1)) = tot ((kvOf ps).take j) + (ps[j].2.1 - ps[j].2.2) := by rw [List.take_add_one, hkj]; simp [tot_append]
      have hq := hp _ (List.getElem_mem hj)
      have hpos := tot_nonneg (kv := (kvOf ps).take j) fun x hx => nn x (List.mem_of_mem_take hx)
      have hdrop : tot (kvOf ps) = tot ((kvOf ps).take (j + 1)) + tot ((kvOf ps).drop (j + 1)) := by rw [← tot_append, List.take_append_drop]
      have hpos2 := tot_nonneg (kv := (kvOf ps).drop (j + 1)) fun x hx => nn x (List.mem_of_mem_drop hx)
      have w2 : IntKind.i64.wrap (tot ((kvOf ps).take j) + ps[j].2.1) = tot ((kvOf ps).take j) + ps[j].2.1 := wrap_i64 (by omega) (by omega)
      have w3 : IntKind.i64.wrap (tot ((kvOf ps).take j) + ps[j].2.1 - ps[j].2.2) = tot ((kvOf ps).take (j + 1)) := by rw [wrap_i64 (by omega) (by omega), hsum]; omega
      obtain ⟨t3, g3, q0, q3, q4⟩ : ∃ t3, run (exec T m) m none c_wicketref12_Ledger_Reserved_L6 ⟨tm, H', []⟩ = some (.normal, ⟨t3, H', []⟩) ∧ t3.get 0 = some (.pointer (some ⟨r, 0, none⟩)) ∧ t3.get 3 = some (.int .i64 (tot ((kvOf ps).take (j + 1)))) ∧ t3.get 4 = some (.int .i64 ((j + 1 : Nat) : Int)) := by
        simp (maxSteps := 1000000) (disch := first | omega | (simp; omega) | (simp; done) | fail) [-Int.natCast_add, c_wicketref12_Ledger_Reserved_L6, c_wicketref12_Ledger_Reserved_S3, c_wicketref12_Ledger_Reserved_S4, c_wicketref12_Ledger_Reserved_S5, u0, u3, u4, rs, goInt, hj, hj', idxK_of, x1, x2, w1, w2, w3]
      exact ⟨_, _, g3, .inl ⟨rfl, rfl, rfl, q0, q3, q4⟩⟩) (by
      rintro ⟨tm, H', ds⟩ ⟨hH, hds, u0, u3, u4⟩
      simp only at hH hds u0 u3 u4
      subst hH hds
      rw [List.take_of_length_le (by simp [kvOf])] at u3
      subst hs
      obtain ⟨t3, g3, q3⟩ : ∃ t3, run (exec T m) m none c_wicketref12_Ledger_Reserved_L6 ⟨tm, H', []⟩ = some (.exit 0, ⟨t3, H', []⟩) ∧ t3.get 3 = some (.int .i64 (tot (kvOf ps))) := by
        simp [c_wicketref12_Ledger_Reserved_L6, c_wicketref12_Ledger_Reserved_S3, c_wicketref12_Ledger_Reserved_S4, c_wicketref12_Ledger_Reserved_S5, u0, u3, u4, rs, goInt]
      exact ⟨_, _, g3, by simp, rfl, rfl, rfl, q3⟩)
  simp only at hH hds q3
  subst hH hds
  have e3 : run (exec T m) m none (.seq c_wicketref12_Ledger_Reserved_S0 (.seq c_wicketref12_Ledger_Reserved_S1 c_wicketref12_Ledger_Reserved_S7)) ⟨initTm 0 .nil [.pointer (some ⟨r, 0, none⟩)], H2, []⟩ = some (.normal, ⟨t2, H2, []⟩) := by
    rw [run_seq, c_wicketref12_Ledger_Reserved_S7]
    rw [run_seq] at e1
    obtain ⟨t0, h0⟩ : ∃ t0, run (exec T m) m none c_wicketref12_Ledger_Reserved_S0 ⟨initTm 0 .nil [.pointer (some ⟨r, 0, none⟩)], H2, []⟩ = some (.normal, ⟨t0, H2, []⟩) := by simp [c_wicketref12_Ledger_Reserved_S0]
    rw [h0, seqK_normal] at e1 ⊢
    rw [run_pre2, e1, seqK_normal, run_block, run_loop, e2]; rfl
  rw [exec_fn hT.reserved, run_pre3, e3]
  simp [c_wicketref12_Ledger_Reserved_S8, endOf, takeAll, results?, resOf, endVal, q3]

theorem rleft_ok (hT : RfT T) (h : Ro q H r cap mark rec gone s ps) (hm : ps.length < m) (hb : ps.length ≤ 1000) (hp : ∀ p ∈ ps, 0 ≤ p.2.2 ∧ p.2.2 ≤ p.2.1 ∧ p.2.1 ≤ 1000) :
    exec T (m + 2) (.fn k_wicketref12_Ledger_Left) [.pointer (some ⟨r, 0, none⟩), .int .u64 t] H = some (.tuple (match fidx t (kvOf ps) 0 with | some (_, b) => #[.int .i64 b, .bool true] | none => #[.int .i64 0, .bool false]), H) := by
  have e1 := rat_ok (m := m) (t := t) hT h hm hb
  have rs := readCells_of (off := 4) (m := 1) h.at_ (by simp)
  rw [exec_fn hT.left]
  cases hx : fidx t (kvOf ps) 0 with
  | none =>
    have : atOf t (kvOf ps) = -1 := by simp [atOf, hx]
    rw [this] at e1
    simp [e1, endOf, takeAll, results?, resOf, endVal]
  | some q =>
    obtain ⟨j, b⟩ := q
    have : atOf t (kvOf ps) = j := by simp [atOf, hx]
    rw [this] at e1
    have hj := fidx_mem hx
    have hjl : j < ps.length := by have := (List.getElem?_eq_some_iff.1 hj).1; simpa [kvOf] using this
    obtain ⟨bb, sp, c, hv, x0, x1, x2⟩ := h.sl.toRd.part hjl
    subst hv
    have hb2 : b = ps[j].2.1 - ps[j].2.2 := by
      have := (List.getElem?_eq_some_iff.1 hj).2
      simp [kvOf] at this; omega
    have hq := hp _ (List.getElem_mem hjl)
    have w : IntKind.i64.wrap (ps[j].2.1 - ps[j].2.2) = b := by rw [wrap_i64 (by omega) (by omega), hb2]
    have hj' : (j : Int) < ps.length := by omega
    have hj0 : ¬ (j : Int) < 0 := by omega
    simp (maxSteps := 1000000) (disch := first | omega | (simp; omega) | (simp; done) | fail) [e1, rs, hj0, hj', idxK_of, x1, x2, w, endOf, takeAll, results?, resOf, endVal]

theorem rfits_ok (hT : RfT T) (h : Ro false H r cap mark rec gone s ps) (h1 : 0 ≤ rec ∧ rec ≤ 1000) (h2 : 0 ≤ gone ∧ gone ≤ 1000) (hm : ps.length < m) (hb : ps.length ≤ 1000) (hp : ∀ p ∈ ps, 0 ≤ p.2.2 ∧ p.2.2 ≤ p.2.1 ∧ p.2.1 ≤ 1000) (htot : tot (kvOf ps) ≤ 64) (h0 : 0 ≤ tot (kvOf ps)) (hu : 0 ≤ rec - gone) (hc : cap ≤ 64) :
    exec T (m + 2) (.fn k_wicketref12_Ledger_Fits) [.pointer (some ⟨r, 0, none⟩), .int .i64 n] H = some (.bool (decide (1 ≤ n ∧ n ≤ cap - (rec - gone) - tot (kvOf ps))), H) := by
  have hr := h.at_
  have e1 := rused_ok (m := m) hT h.ro h1 h2
  have e2 := rreserved_ok (m := m) hT h.ro hm hb hp htot
  have w1 : IntKind.i64.wrap (rec - gone + tot (kvOf ps)) = rec - gone + tot (kvOf ps) := wrap_i64 (by omega) (by omega)
  rw [exec_fn hT.fits]
  by_cases c1 : 1 ≤ n
  · by_cases c2 : n ≤ 64
    · have w2 : IntKind.i64.wrap (rec - gone + tot (kvOf ps) + n) = rec - gone + tot (kvOf ps) + n := wrap_i64 (by omega) (by omega)
      have ed : decide (1 ≤ n ∧ n ≤ cap - (rec - gone) - tot (kvOf ps)) = decide (rec - gone + tot (kvOf ps) + n ≤ cap) := by
        rw [decide_eq_decide]; omega
      rw [ed]
      simp (maxSteps := 1000000) (disch := first | omega | (simp; omega) | (simp; done) | fail) [c1, c2, readCells_of h.at_, doperK_r, roAt_cells hr, e1, e2, hr, put_self hr, w1, w2, endOf, takeAll, results?, resOf, endVal]
    · have ed : decide (1 ≤ n ∧ n ≤ cap - (rec - gone) - tot (kvOf ps)) = false := by
        rw [decide_eq_false_iff_not]; omega
      rw [ed]
      simp (maxSteps := 1000000) (disch := first | omega | (simp; omega) | (simp; done) | fail) [c1, c2, endOf, takeAll, results?, resOf, endVal]
  · have ed : decide (1 ≤ n ∧ n ≤ cap - (rec - gone) - tot (kvOf ps)) = false := by
      rw [decide_eq_false_iff_not]; omega
    rw [ed]
    simp (maxSteps := 1000000) (disch := first | omega | (simp; omega) | (simp; done) | fail) [c1, endOf, takeAll, results?, resOf, endVal]
end
end Go.Proofs.Ytnkhlohphaomlaa
