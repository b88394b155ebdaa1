/- Queues by ticket. -/
import Derived.Test.YtiohkpjljinmfaaTkCode
import Derived.Test.YtiohkpjljinmfaaIter
namespace Go.Proofs.Ytiohkpjljinmfaa
open Go
set_option linter.unusedVariables false
set_option linter.unusedSimpArgs false

structure Tk (T : Nat → Option AFun) : Prop where
  put : T k_ticket_Queue_Put = some c_ticket_Queue_Put
  take : T k_ticket_Queue_Take = some c_ticket_Queue_Take
  len : T k_ticket_Queue_Len = some c_ticket_Queue_Len
  place : T k_ticket_Queue_Place = some c_ticket_Queue_Place
  first : T k_ticket_Queue_First = some c_ticket_Queue_First
  delete : T k_slices_Delete_uint64_uint64 = some c_slices_Delete_uint64_uint64
  all : T k_ticket_Queue_All = some c_ticket_Queue_All
  all1 : T k_ticket_Queue_All_1 = some c_ticket_Queue_All_1
  listed : T k_wicketlaw11_listed = some c_wicketlaw11_listed

variable {T : Nat → Option AFun} {H : Heap} {m : Nat}

theorem len_eq (hT : Tk T) {q : Nat} {a : Option Addr} {n c : Nat} {v : Value} (hq : H.get q = some (.cells [.slice a n c, v] false 0)) :
    exec T (m + 1) (.fn k_ticket_Queue_Len) [.pointer (some ⟨q, 0, none⟩)] H = some (goInt n, H) := by
  rw [exec_fn hT.len]
  simp [c_ticket_Queue_Len, readCells_of hq, endOf, takeAll, results?, resOf, endVal, goInt]

theorem first_empty (hT : Tk T) {q : Nat} {a : Option Addr} {c : Nat} {v : Value} (hq : H.get q = some (.cells [.slice a 0 c, v] false 0)) :
    exec T (m + 2) (.fn k_ticket_Queue_First) [.pointer (some ⟨q, 0, none⟩)] H = some (.tuple #[.int .u64 0, .bool false], H) := by
  rw [exec_fn hT.first]
  simp [c_ticket_Queue_First, len_eq hT hq, readCells_of hq, endOf, takeAll, results?, resOf, endVal, goInt]

theorem first_some (hT : Tk T) {q b : Nat} {sp : Option Nat} {n c : Nat} {v : Value} {x : Int} {cs : List Value} {es : Nat} (hq : H.get q = some (.cells [.slice (some ⟨b, 0, sp⟩) (n + 1) c, v] false 0))
    (hb : H.get b = some (.cells (.int .u64 x :: cs) false es)) :
    exec T (m + 2) (.fn k_ticket_Queue_First) [.pointer (some ⟨q, 0, none⟩)] H = some (.tuple #[.int .u64 x, .bool true], H) := by
  rw [exec_fn hT.first]
  have hn : ¬ ((n : Int) + 1 = 0) := by omega
  simp [c_ticket_Queue_First, len_eq hT hq, readCells_of hq, readCells_of hb, endOf, takeAll, results?, resOf, endVal, goInt, hn, idxK_of]

/-- A queue: where it stands, its list's slice, its list, the greatest that ever came. -/
structure Qu (H : Heap) (q : Nat) (s : Value) (L : List Int) (last : Int) : Prop where
  at_ : H.get q = some (.cells [s, .int .u64 last] false 0)
  sl : Sl H 1 s L.length (iz .u64 L)

theorem Qu.fr {H' : Heap} {q : Nat} {s : Value} {L : List Int} {last : Int} {fp : List Nat} (h : Qu H q s L last) (f : Fr H H' fp) (hq : q ∉ fp) (hs : ∀ b ∈ blk s, b ∉ fp) : Qu H' q s L last :=
  ⟨f.keep _ _ h.at_ hq, h.sl.fr f hs⟩

theorem put_refused (hT : Tk T) {q : Nat} {s : Value} {last t : Int} (hq : H.get q = some (.cells [s, .int .u64 last] false 0)) (ht : t ≤ last) :
    exec T (m + 1) (.fn k_ticket_Queue_Put) [.pointer (some ⟨q, 0, none⟩), .int .u64 t] H = some (.int .i64 110, H) := by
  rw [exec_fn hT.put]
  simp [c_ticket_Queue_Put, readCells_of hq, endOf, takeAll, results?, resOf, endVal, goInt, ht]

theorem put_ok (hT : Tk T) {q : Nat} {s : Value} {L : List Int} {last t : Int} (h : Qu H q s L last) (wf : WF H) (ht : last < t) (hbig : (L.length + 1) * 8 ≤ 1099511627776) :
    ∃ s' H', exec T (m + 1) (.fn k_ticket_Queue_Put) [.pointer (some ⟨q, 0, none⟩), .int .u64 t] H = some (.int .i64 0, H') ∧ Qu H' q s' (L ++ [t]) t ∧ Fr H H' (q :: blk s) ∧
      (∀ b ∈ blk s', b ∈ blk s ∨ H.next ≤ b) ∧ capOf s' ≤ max (capOf s) (L.length + 1) := by
  obtain ⟨s', H1, e, h1, f, hfr, hcap⟩ := h.sl.append1 (new := [.int .u64 t]) wf (Nat.le_refl 1) rfl (bytes := 8) hbig
  have hq1 : H1.get q = some (.cells [s, .int .u64 last] false 0) := f.keep _ _ h.at_ (h.sl.notin h.at_ (by decide))
  have ht' : ¬ t ≤ last := by omega
  have hq2 : ∀ v, (H1.put q (.cells v false 0)).get q = some (.cells v false 0) := fun v => by simp
  obtain ⟨a', c', rfl⟩ := h1.form
  have wf1 : WF (H1.put q (.cells [.slice a' (L.length + 1) c', .int .u64 last] false 0)) := f.wf.put (by rw [hq1]; simp)
  have hq : q ∉ blk s := h.sl.notin h.at_ (by decide)
  have f2 : Fr H1 ((H1.put q (.cells [.slice a' (L.length + 1) c', .int .u64 last] false 0)).put q (.cells [.slice a' (L.length + 1) c', .int .u64 t] false 0)) [q] :=
    (Fr.put f.wf (by rw [hq1]; simp) (by simp)).trans f.wf (Fr.put wf1 (by simp) (by simp)) (fun r hr => .inl hr) (fun r hr => .inl hr)
  refine ⟨.slice a' (L.length + 1) c', (H1.put q (.cells [.slice a' (L.length + 1) c', .int .u64 last] false 0)).put q (.cells [.slice a' (L.length + 1) c', .int .u64 t] false 0), ?_, ?_, ?_, hfr, hcap⟩
  · rw [exec_fn hT.put]
    simp [c_ticket_Queue_Put, readCells_of h.at_, endOf, takeAll, results?, resOf, endVal, goInt, ht', writeAt, e, storeK_ptr, writeCells_of hq1, writeCells_of (hq2 _)]
  · refine ⟨by simp, ?_⟩
    have := h1.fr f2 (by
      intro b hb; simp only [List.mem_singleton]; rintro rfl
      rcases hfr b hb with h5 | h5
      · exact hq h5
      · have := wf.lt h.at_; omega)
    simpa [iz] using this
  · exact f.trans wf f2 (by grind) (by simp)

theorem last_one {x : Int} {B : List Int} {rest : List Value} : ∃ z, List.drop B.length (Value.int .u64 x :: (iz .u64 B ++ rest)) = z :: rest := by
  induction B generalizing x with
  | nil => exact ⟨_, rfl⟩
  | cons b B ih => obtain ⟨z, hz⟩ := ih (x := b); exact ⟨z, by simpa using hz⟩

theorem delete_eq (hT : Tk T) {b : Nat} {sp : Option Nat} {A B : List Int} {x : Int} {rest : List Value} {c : Nat} (hb : H.get b = some (.cells (iz .u64 (A ++ x :: B) ++ rest) false 1)) (hc : A.length + (B.length + 1) + rest.length = c)
    (hbig : c * 8 ≤ 1099511627776) :
    exec T (m + 1) (.fn k_slices_Delete_uint64_uint64) [.slice (some ⟨b, 0, sp⟩) (A.length + (B.length + 1)) c, .int .i64 A.length, .int .i64 (A.length + 1 : Int)] H =
      some (.slice (some ⟨b, 0, sp⟩) (A.length + B.length) c, H.put b (.cells (iz .u64 (A ++ B) ++ .int .u64 0 :: rest) false 1)) := by
  rw [exec_fn hT.delete]
  have hne : ¬ ((A.length : Int) = A.length + 1) := by omega
  have hsub : A.length + (B.length + 1) - (A.length + 1) = B.length := by omega
  have hsub2 : A.length + (B.length + 1) - (A.length + B.length) = 1 := by omega
  have hn1 : ((A.length : Int) + B.length).toNat = A.length + B.length := by omega
  have hn2 : ((A.length : Int) + (B.length + 1)).toNat - (A.length + B.length) = 1 := by omega
  obtain ⟨z, hz⟩ := last_one (x := x) (B := B) (rest := rest)
  have hw : writeAt (iz .u64 A ++ (iz .u64 B ++ z :: rest)) (A.length + B.length) [.int .u64 0] = iz .u64 A ++ (iz .u64 B ++ .int .u64 0 :: rest) := by
    rw [writeAt_eq _ _ _ (by simp; omega)]
    simp [List.take_append, List.drop_append, List.take_of_length_le, List.drop_eq_nil_of_le, Nat.add_sub_add_left, Nat.add_assoc]
  simp (disch := first | omega | (simp; omega) | (simp; done) | fail) [c_slices_Delete_uint64_uint64, readCells_of hb, endOf, takeAll, results?, resOf, endVal, goInt, natIn_of, cond_ble, sliceK, hne, appendK, srcCells, hsub, append_in hb, List.take_append, List.drop_append, hsub2, hn1, hn2,
    List.drop_eq_nil_of_le, hz, writeCells_put, hw]

theorem take_empty (hT : Tk T) {q : Nat} {s : Value} {last : Int} (h : Qu H q s [] last) :
    exec T (m + 3) (.fn k_ticket_Queue_Take) [.pointer (some ⟨q, 0, none⟩)] H = some (.tuple #[.int .u64 0, .bool false], H) := by
  obtain ⟨a, c, rfl⟩ := h.sl.form
  rw [exec_fn hT.take]
  simp [c_ticket_Queue_Take, first_empty hT h.at_, endOf, takeAll, results?, resOf, endVal]

theorem take_some (hT : Tk T) {q : Nat} {s : Value} {x : Int} {L : List Int} {last : Int} (h : Qu H q s (x :: L) last) (wf : WF H) (hbig : capOf s * 8 ≤ 1099511627776) :
    ∃ s' H', exec T (m + 3) (.fn k_ticket_Queue_Take) [.pointer (some ⟨q, 0, none⟩)] H = some (.tuple #[.int .u64 x, .bool true], H') ∧ Qu H' q s' L last ∧ Fr H H' (q :: blk s) ∧
      blk s' = blk s ∧ capOf s' = capOf s := by
  obtain ⟨b, sp, c, rfl⟩ := h.sl.ne_nil (by simp)
  have hq := h.at_
  cases h.sl with
  | @full _ _ _ _ _ rest hb hl hr =>
    have hd := delete_eq (m := m + 1) (A := []) (B := L) (x := x) (sp := sp) hT (by simpa using hb) (c := c) (by simp at hr ⊢; omega) hbig
    have hqb : q ≠ b := by rintro rfl; rw [hq] at hb; cases hb
    have e1 : L.length + 1 = 0 + (L.length + 1) := by omega
    refine ⟨.slice (some ⟨b, 0, sp⟩) L.length c, (H.put b (.cells (iz .u64 L ++ .int .u64 0 :: rest) false 1)).put q (.cells [.slice (some ⟨b, 0, sp⟩) L.length c, .int .u64 last] false 0), ?_, ⟨by simp, ?_⟩, ?_, rfl, rfl⟩
    · rw [exec_fn hT.take]
      have hq' : (H.put b (.cells (iz .u64 L ++ .int .u64 0 :: rest) false 1)).get q = some (.cells [.slice (some ⟨b, 0, sp⟩) (L.length + 1) c, .int .u64 last] false 0) := by
        rw [Heap.get_put, if_neg hqb]; exact hq
      simp at hd
      simp [c_ticket_Queue_Take, first_some hT hq hb, endOf, takeAll, results?, resOf, endVal, readCells_of hq, hd, storeK_ptr, writeCells_of hq', writeAt]
    · refine .full (rest := .int .u64 0 :: rest) ?_ (by simp) (by simp at hr ⊢; omega)
      rw [Heap.get_put, if_neg hqb.symm]; simp
    · exact (Fr.put wf (r := b) (fp := [b]) (by rw [hb]; simp) (by simp)).trans wf (Fr.put (wf.put (by rw [hb]; simp)) (r := q) (fp := [q]) (by rw [Heap.get_put, if_neg hqb, hq]; simp) (by simp)) (by simp [blk]) (by simp)

/-- The rounds of All's function: P holds ahead of each, with what is left; R once a round has broken off. -/
theorem all1_ok (hT : Tk T) {l cq q : Nat} {s : Value} {L : List Int} {last : Int} {P : Nat → Heap → Prop} {R : Heap → Prop} (hc : H.get cq = some (.cells [.pointer (some ⟨q, 0, none⟩)] false 0)) (h : Qu H q s L last)
    (h0 : P 0 H) (hs : ∀ i H1, P i H1 → Sl H1 1 s L.length (iz .u64 L))
    (hround : ∀ i x H1, L[i]? = some x → P i H1 → ∃ b H2, exec T m (.yield l) [.int .u64 x] H1 = some (.bool b, H2) ∧ (b = true → P (i + 1) H2) ∧ (b = false → R H2)) (hm : L.length < m) (hbig : L.length < 4611686018427387904) :
    ∃ H2, exec T (m + 1) (.fn k_ticket_Queue_All_1) [.func (.yield l) #[] #[], .pointer (some ⟨cq, 0, none⟩)] H = some (.tuple #[], H2) ∧ (P L.length H2 ∨ R H2) := by
  obtain ⟨a, c, rfl⟩ := h.sl.form
  have loop : ∀ tm, tm.get 0 = some (.func (.yield l) #[] #[]) → tm.get 10 = some (.slice a L.length c) → tm.get 11 = some (.int .i64 L.length) → tm.get 12 = some (.int .i64 0) →
      ∃ e s', loopN (run (exec T m) m none c_ticket_Queue_All_1_L0) m ⟨tm, H, []⟩ = some (e, s') ∧ e ≠ .normal ∧ s'.ds = [] ∧ ((e = .exit 0 ∧ P L.length s'.h) ∨ (e = .ret ∧ R s'.h)) := by
    intro tm t0 t10 t11 t12
    refine loopN_inv (I := fun k s => ∃ i : Nat, i + k = L.length ∧ P i s.h ∧ s.ds = [] ∧ s.tm.get 0 = some (.func (.yield l) #[] #[]) ∧ s.tm.get 10 = some (.slice a L.length c) ∧ s.tm.get 11 = some (.int .i64 L.length) ∧ s.tm.get 12 = some (.int .i64 i))
      ?_ L.length _ _ ⟨0, by simp, h0, rfl, t0, t10, t11, t12⟩ hm
    rintro k ⟨tm, H1, ds⟩ ⟨i, hik, hP, hds, u0, u10, u11, u12⟩
    simp only at hP hds u0 u10 u11 u12
    subst hds
    by_cases hi : i < L.length
    · obtain ⟨x, hx⟩ : ∃ x, L[i]? = some x := ⟨L[i], by simp [hi]⟩
      obtain ⟨b, H2, hy, hy1, hy2⟩ := hround i x H1 hx hP
      have hSl := hs i H1 hP
      obtain ⟨b0, sp, c0, heq⟩ := hSl.ne_nil (by omega)
      cases heq
      have hread := hSl.read (o := i) (k := 1) (by omega)
      rw [iz_at hx] at hread
      have hlt : (i : Int) < L.length := by omega
      cases b with
      | true =>
        refine ⟨.normal, _, by
          simp (disch := first | omega | (simp; omega) | (simp; done) | fail) [c_ticket_Queue_All_1_L0, u0, u10, u11, u12, hlt, idxK_of, hread, callVal, hy, wrap_i64]; rfl, .inl ⟨rfl, k - 1, by omega, i + 1, by omega, hy1 rfl, rfl, ?_, ?_, ?_, ?_⟩⟩ <;> simp [u0, u10, u11]
      | false =>
        refine ⟨.ret, _, by
          simp (disch := first | omega | (simp; omega) | (simp; done) | fail) [c_ticket_Queue_All_1_L0, u0, u10, u11, u12, hlt, idxK_of, hread, callVal, hy, wrap_i64]; rfl, .inr ⟨by simp, rfl, .inr ⟨rfl, hy2 rfl⟩⟩⟩
    · obtain rfl : i = L.length := by omega
      refine ⟨.exit 0, _, by simp [c_ticket_Queue_All_1_L0, u0, u10, u11, u12]; rfl, .inr ⟨by simp, rfl, .inl ⟨rfl, hP⟩⟩⟩
  rw [exec_fn hT.all1]
  simp [c_ticket_Queue_All_1, readCells_of hc, readCells_of h.at_, run_loop]
  refine thru (G := fun X => ∃ H2, endK [] (blockK 0 X) = some (Value.tuple #[], H2) ∧ (P L.length H2 ∨ R H2)) (loop _ (by simp) (by simp) (by simp [goInt]) (by simp)) ?_
  rintro e ⟨tm', H2, ds'⟩ ⟨_, h2, ⟨rfl, h3⟩ | ⟨rfl, h3⟩⟩
  · simp only at h2 h3; subst h2
    exact ⟨H2, by simp [endOf, takeAll, results?, endVal], .inl h3⟩
  · simp only at h2 h3; subst h2
    exact ⟨H2, by simp [endOf, takeAll, results?, endVal], .inr h3⟩

structure AllGood (cq q : Nat) (s : Value) (L : List Int) (last : Int) (H : Heap) : Prop where
  cell : H.get cq = some (.cells [.pointer (some ⟨q, 0, none⟩)] false 0)
  qu : Qu H q s L last

theorem all_iter (hT : Tk T) {cq q : Nat} {s : Value} {L : List Int} {last : Int} (hm : L.length < m) (hbig : L.length < 4611686018427387904) :
    Iter T k_ticket_Queue_All_1 [.pointer (some ⟨cq, 0, none⟩)] (L.map fun x => [.int .u64 x]) m (AllGood cq q s L last) := by
  intro l P R H h0 hg hr
  have hG := hg 0 H h0
  have := all1_ok (m := m) (l := l) (P := P) (R := R) hT hG.cell hG.qu h0 (fun i H1 hP => (hg i H1 hP).qu.sl) (fun i x H1 hx hP => hr i [.int .u64 x] H1 (by simp [hx]) hP) hm hbig
  simpa using this

theorem all_eq (hT : Tk T) {q : Value} (hq : ∃ a, q = .pointer a) :
    exec T (m + 1) (.fn k_ticket_Queue_All) [q] H = some (.func (.func k_ticket_Queue_All_1) #[] #[.pointer (some ⟨H.next, 0, none⟩)], H.new (.cells [q] false 0)) := by
  obtain ⟨a, rfl⟩ := hq
  rw [exec_fn hT.all]
  simp [c_ticket_Queue_All, endOf, takeAll, results?, resOf, endVal, makeFuncK]
end Go.Proofs.Ytiohkpjljinmfaa
