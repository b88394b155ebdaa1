/- TicketRises: the walk of the law's own loops. -/
import Derived.Test.YtiohkpjljinmfaaTk3
namespace Go.Proofs.Ytiohkpjljinmfaa
open Go
set_option linter.unusedVariables false
set_option linter.unusedSimpArgs false
variable {T : Nat → Option AFun} {H : Heap} {m : Nat}

/-- Strictly rising. -/
def Rising : List Int → Prop
  | [] => True
  | x :: L => (∀ y ∈ L, x < y) ∧ Rising L

theorem Rising.at {L : List Int} : Rising L → ∀ {i j : Nat} {x y : Int}, i < j → L[i]? = some x → L[j]? = some y → x < y := by
  induction L with
  | nil => intro _ i j x y _ hx; simp at hx
  | cons a L ih =>
    intro h i j x y hij hx hy
    obtain ⟨j, rfl⟩ : ∃ k, j = k + 1 := ⟨j - 1, by omega⟩
    cases i with
    | zero =>
      simp at hx hy; subst hx
      exact h.1 _ (List.mem_of_getElem? hy)
    | succ i => exact ih h.2 (i := i) (j := j) (by omega) (by simpa using hx) (by simpa using hy)
theorem Rising.place {L : List Int} (h : Rising L) {i : Nat} {x : Int} (hx : L[i]? = some x) : placeOf L x 0 = i := by
  rw [placeOf_some L 0 i hx]
  · simp
  · intro j hj hy
    have := h.at hj hy hx
    omega
theorem Rising.append {L : List Int} (h : Rising L) {t : Int} (ht : ∀ x ∈ L, x < t) : Rising (L ++ [t]) := by
  induction L with
  | nil => exact ⟨by simp, trivial⟩
  | cons a L ih =>
    refine ⟨fun y hy => ?_, ih h.2 fun x hx => ht x (List.mem_cons_of_mem _ hx)⟩
    rcases List.mem_append.1 hy with h1 | h1
    · exact h.1 y h1
    · simp only [List.mem_singleton] at h1; subst h1; exact ht a (List.mem_cons_self ..)

/-- The inner loop: each is above the one ahead, and stands where it is told. -/
theorem inner_ok (hT : Tk T) {q : Nat} {s l : Value} {L : List Int} {last : Int} (hq : Qu H q s L last) (hl : Sl H 1 l L.length (iz .u64 L)) (wf : WF H) (hr : Rising L) (hm : L.length < m + 1) (hbig : L.length * 8 ≤ 1099511627776)
    {tm : Tr Value} {ds : List Nat} (t5 : tm.get 5 = some (.pointer (some ⟨q, 0, none⟩))) (t13 : tm.get 13 = some l) (t15 : tm.get 15 = some (.int .i64 1)) :
    ∃ e s', loopN (run (exec T (m + 3)) (m + 3) none c_wicketlaw11_TicketRises_L35) (m + 3) ⟨tm, H, ds⟩ = some (e, s') ∧ e = .exit 2 ∧ s'.ds = ds ∧ Fr H s'.h [] ∧ ∀ k, k < 15 → s'.tm.get k = tm.get k := by
  refine Exists.elim (loopN_inv (f := run (exec T (m + 3)) (m + 3) none c_wicketlaw11_TicketRises_L35) (I := fun k st => ∃ i : Nat, k = L.length - i ∧ 1 ≤ i ∧ Fr H st.h [] ∧ st.ds = ds ∧ (∀ k, k < 15 → st.tm.get k = tm.get k) ∧ st.tm.get 15 = some (.int .i64 i))
    (Q := fun e s' => e = .exit 2 ∧ s'.ds = ds ∧ Fr H s'.h [] ∧ ∀ k, k < 15 → s'.tm.get k = tm.get k) ?_ (L.length - 1) ⟨tm, H, ds⟩ (m + 3) ⟨1, rfl, Nat.le_refl 1, Fr.refl wf _, rfl, fun _ _ => rfl, t15⟩ (by omega)) (fun e ⟨s', h1, _, h2⟩ => ⟨e, s', h1, h2⟩)
  rintro k ⟨tm1, H1, ds1⟩ ⟨i, hik, hi1, f, hds, hk, u15⟩
  simp only at f hds hk u15
  subst hds
  have u5 : tm1.get 5 = some (.pointer (some ⟨q, 0, none⟩)) := (hk 5 (by omega)).trans t5
  have u13 : tm1.get 13 = some l := (hk 13 (by omega)).trans t13
  obtain ⟨a, c, rfl⟩ := hl.form
  have hl1 := hl.fr f (by simp)
  have hq1 := hq.fr f (by simp) (by simp)
  by_cases hi : i < L.length
  · obtain ⟨x, hx⟩ : ∃ x, L[i]? = some x := ⟨L[i], by simp [hi]⟩
    obtain ⟨y, hy⟩ : ∃ y, L[i - 1]? = some y := ⟨L[i - 1], by simp⟩
    have hyx := hr.at (by omega) hy hx
    obtain ⟨b0, sp, c0, heq⟩ := hl1.ne_nil (by omega)
    cases heq
    have r1 := hl1.read (o := i) (k := 1) (by omega)
    have r2 := hl1.read (o := i - 1) (k := 1) (by omega)
    rw [iz_at hx] at r1
    rw [iz_at hy] at r2
    obtain ⟨H2, hp, hf⟩ := place_ok (m := m) (t := x) hT hq1 f.wf hm hbig
    rw [hr.place hx] at hp
    have hlt : (i : Int) < L.length := by omega
    have hw : IntKind.i64.wrap ((i : Int) - 1) = ((i - 1 : Nat) : Int) := by rw [wrap_i64 (by omega) (by omega)]; omega
    have hw2 : IntKind.i64.wrap ((i : Int) + 1) = ((i + 1 : Nat) : Int) := by rw [wrap_i64 (by omega) (by omega)]; omega
    have hnle : ¬ x ≤ y := by omega
    have hrun : ∃ tm2, run (exec T (m + 3)) (m + 3) none c_wicketlaw11_TicketRises_L35 ⟨tm1, H1, ds1⟩ = some (.normal, ⟨tm2, H2, ds1⟩) ∧ (∀ k, k < 15 → tm2.get k = tm1.get k) ∧ tm2.get 15 = some (.int .i64 (i + 1 : Nat)) := by
      refine ⟨_, by
        simp (disch := first | omega | (simp; omega) | (simp; done) | fail) [c_wicketlaw11_TicketRises_L35, c_wicketlaw11_TicketRises_S30, c_wicketlaw11_TicketRises_S31, c_wicketlaw11_TicketRises_S32, c_wicketlaw11_TicketRises_S33, c_wicketlaw11_TicketRises_S34, u5, u13, u15, goInt, hlt, idxK_of, r1, r2, hw, hnle, doperRun_guard, hp, hw2]; rfl, ?_, ?_⟩
      · intro k hk; simp (disch := omega) only [Tr.get_set_ne]
      · simp
    obtain ⟨tm2, h1, h2, h3⟩ := hrun
    exact ⟨.normal, _, h1, .inl ⟨rfl, L.length - i - 1, by omega, i + 1, by omega, by omega, f.trans wf hf (by simp) (by simp), rfl, fun k hk' => (h2 k hk').trans (hk k hk'), h3⟩⟩
  · have hlt : ¬ (i : Int) < L.length := by omega
    refine ⟨.exit 2, _, by simp [c_wicketlaw11_TicketRises_L35, c_wicketlaw11_TicketRises_S30, c_wicketlaw11_TicketRises_S31, c_wicketlaw11_TicketRises_S32, c_wicketlaw11_TicketRises_S33, c_wicketlaw11_TicketRises_S34, u13, u15, goInt, hlt]; rfl, .inr ⟨by simp, rfl, rfl, f, ?_⟩⟩
    intro k hk'
    simp (disch := omega) only [Tr.get_set_ne]
    exact hk k hk'

structure Turn (H0 : Heap) (q : Nat) (v0 v1 : Value) (i k : Nat) (tm : Tr Value) (H : Heap) : Prop where
  ex : ∃ (s : Value) (L : List Int) (most last : Int), Qu H q s L most ∧ Rising L ∧ (∀ x ∈ L, last < x) ∧ (∀ x ∈ L, x ≤ most) ∧ L.length ≤ k ∧ capOf s ≤ k ∧ last ≤ most ∧ (∀ b ∈ blk s, H0.next ≤ b) ∧
    tm.get 6 = some (.int .u64 most) ∧ tm.get 7 = some (.int .u64 last) ∧ tm.get 8 = some (.int .i64 L.length)
  fr : Fr H0 H []
  hq : H0.next ≤ q
  r0 : tm.get 0 = some v0
  r1 : tm.get 1 = some v1
  r5 : tm.get 5 = some (.pointer (some ⟨q, 0, none⟩))
  r9 : tm.get 9 = some (.int .i64 i)

def phaseA : AC := .seq c_wicketlaw11_TicketRises_S10 <| .seq c_wicketlaw11_TicketRises_S13 <| c_wicketlaw11_TicketRises_S16
def phaseC : AC := .seq c_wicketlaw11_TicketRises_S25 <| .seq c_wicketlaw11_TicketRises_S28 <| .seq c_wicketlaw11_TicketRises_S29 <| .block 2 <| .loop c_wicketlaw11_TicketRises_L35

theorem stepA (hT : Tk T) {H0 : Heap} (w0 : WF H0) {q : Nat} {v0 v1 : Value} {i : Nat} {puts : List Int} {tm : Tr Value} {ds : List Nat} {rd : Option Nat} {nn : Nat} (h : Turn H0 q v0 v1 i i tm H) (hv : InSl H0 1 v0 puts.length (iz .u64 puts)) (hi : i < puts.length) (hi2 : i < 200) :
    ∃ tm' H', run (exec T (m + 1)) nn rd phaseA ⟨tm, H, ds⟩ = some (.normal, ⟨tm', H', ds⟩) ∧ Turn H0 q v0 v1 i (i + 1) tm' H' := by
  obtain ⟨s, L, most, last, hq, hris, hlast, hmost, hlen, hcap, hlm, hblk, r6, r7, r8⟩ := h.ex
  obtain ⟨p, hp⟩ : ∃ p, puts[i]? = some p := ⟨puts[i], by simp [hi]⟩
  obtain ⟨b, rfl, hread⟩ := (hv.fr h.fr).read hi
  have hr := hread i 1 (by omega)
  rw [iz_at hp] at hr
  have r0 := h.r0; have r1 := h.r1; have r5 := h.r5; have r9 := h.r9
  by_cases hpm : p ≤ most
  · have hpm' : ¬ most < p := by omega
    obtain ⟨t1, e1, k1, j1⟩ : ∃ t1, run (exec T (m + 1)) nn rd c_wicketlaw11_TicketRises_S10 ⟨tm, H, ds⟩ = some (.normal, ⟨t1, H, ds⟩) ∧ Keeps 10 tm t1 ∧ t1.get 10 = some (.int .i64 110) := by
      simp (disch := first | omega | (simp; omega) | (simp; done) | fail) [c_wicketlaw11_TicketRises_S10, r0, r5, r9, idxK_of, hr, put_refused hT hq.at_ hpm]
    obtain ⟨t2, e2, k2⟩ : ∃ t2, run (exec T (m + 1)) nn rd c_wicketlaw11_TicketRises_S13 ⟨t1, H, ds⟩ = some (.normal, ⟨t2, H, ds⟩) ∧ Keeps 11 t1 t2 := by
      simp (disch := first | omega | (simp; omega) | (simp; done) | fail) [c_wicketlaw11_TicketRises_S11, c_wicketlaw11_TicketRises_S12, c_wicketlaw11_TicketRises_S13, k1 0 (by decide), k1 6 (by decide), k1 9 (by decide), r0, r6, r9, j1, idxK_of, hr, hpm']
    obtain ⟨t3, e3, k3⟩ : ∃ t3, run (exec T (m + 1)) nn rd c_wicketlaw11_TicketRises_S16 ⟨t2, H, ds⟩ = some (.normal, ⟨t3, H, ds⟩) ∧ Keeps 11 t2 t3 := by
      simp (disch := first | omega | (simp; omega) | (simp; done) | fail) [c_wicketlaw11_TicketRises_S14, c_wicketlaw11_TicketRises_S15, c_wicketlaw11_TicketRises_S16, k2 10 (by decide), j1]
    have hk : ∀ k, k < 10 → t3.get k = tm.get k := fun k hk => (k3 k (by omega)).trans ((k2 k (by omega)).trans (k1 k hk))
    refine ⟨t3, H, by rw [phaseA, run_seq, e1, seqK_normal, run_seq, e2, seqK_normal, e3], ⟨⟨s, L, most, last, hq, hris, hlast, hmost, by omega, by omega, hlm, hblk, (hk 6 (by omega)).trans r6, (hk 7 (by omega)).trans r7, (hk 8 (by omega)).trans r8⟩, h.fr, h.hq, (hk 0 (by omega)).trans r0, (hk 1 (by omega)).trans r1, (hk 5 (by omega)).trans r5, (hk 9 (by omega)).trans r9⟩⟩
  · have hpm' : most < p := by omega
    obtain ⟨s', H', e, g1, g2, g3, g4⟩ := put_ok (m := m) hT hq h.fr.wf hpm' (by omega)
    have f : Fr H0 H' [] := h.fr.trans w0 g2 (by simp) (by
      intro r hr; right
      rcases List.mem_cons.1 hr with rfl | h1
      · exact h.hq
      · exact hblk r h1)
    obtain ⟨b2, heq2, hread2⟩ := (hv.fr f).read hi
    cases heq2
    have hr2 := hread2 i 1 (by omega)
    rw [iz_at hp] at hr2
    have hw : IntKind.i64.wrap ((L.length : Int) + 1) = L.length + 1 := wrap_i64 (by omega) (by omega)
    obtain ⟨t1, e1, k1, j1⟩ : ∃ t1, run (exec T (m + 1)) nn rd c_wicketlaw11_TicketRises_S10 ⟨tm, H, ds⟩ = some (.normal, ⟨t1, H', ds⟩) ∧ Keeps 10 tm t1 ∧ t1.get 10 = some (.int .i64 0) := by
      simp (disch := first | omega | (simp; omega) | (simp; done) | fail) [c_wicketlaw11_TicketRises_S10, r0, r5, r9, idxK_of, hr, e]
    obtain ⟨t2, e2, k2⟩ : ∃ t2, run (exec T (m + 1)) nn rd c_wicketlaw11_TicketRises_S13 ⟨t1, H', ds⟩ = some (.normal, ⟨t2, H', ds⟩) ∧ Keeps 11 t1 t2 := by
      simp (disch := first | omega | (simp; omega) | (simp; done) | fail) [c_wicketlaw11_TicketRises_S11, c_wicketlaw11_TicketRises_S12, c_wicketlaw11_TicketRises_S13, k1 0 (by decide), k1 6 (by decide), k1 9 (by decide), r0, r6, r9, j1, idxK_of, hr2, hpm']
    obtain ⟨t3, e3, k36, k38, k3⟩ : ∃ t3, run (exec T (m + 1)) nn rd c_wicketlaw11_TicketRises_S16 ⟨t2, H', ds⟩ = some (.normal, ⟨t3, H', ds⟩) ∧ t3.get 6 = some (.int .u64 p) ∧ t3.get 8 = some (.int .i64 (L.length + 1)) ∧ KeepsB 11 [6, 8] t2 t3 := by
      simp (disch := first | omega | (simp; omega) | (simp; done) | fail) [c_wicketlaw11_TicketRises_S14, c_wicketlaw11_TicketRises_S15, c_wicketlaw11_TicketRises_S16, k2 10 (by decide), j1, k2 0 (by decide), k2 9 (by decide), k2 8 (by decide), k1 0 (by decide), k1 8 (by decide), k1 9 (by decide), r0, r8, r9, idxK_of, hr2, hw]
    have hk : ∀ k, k < 10 → k ≠ 6 → k ≠ 8 → t3.get k = tm.get k := fun k hk h6 h8 => (k3 k (by omega) (by simp [h6, h8])).trans ((k2 k (by omega)).trans (k1 k hk))
    refine ⟨t3, H', by rw [phaseA, run_seq, e1, seqK_normal, run_seq, e2, seqK_normal, e3], ⟨⟨s', L ++ [p], p, last, g1, hris.append fun x hx => (by have := hmost x hx; omega), ?_, ?_, by simp; omega, by omega, by omega, ?_, k36, (hk 7 (by omega) (by omega) (by omega)).trans r7, by simpa using k38⟩, f, h.hq, (hk 0 (by omega) (by omega) (by omega)).trans r0, (hk 1 (by omega) (by omega) (by omega)).trans r1, (hk 5 (by omega) (by omega) (by omega)).trans r5, (hk 9 (by omega) (by omega) (by omega)).trans r9⟩⟩
    · intro x hx
      rcases List.mem_append.1 hx with h1 | h1
      · exact hlast x h1
      · simp only [List.mem_singleton] at h1; omega
    · intro x hx
      rcases List.mem_append.1 hx with h1 | h1
      · have := hmost x h1; omega
      · simp only [List.mem_singleton] at h1; omega
    · intro b3 hb3
      rcases g3 b3 hb3 with h1 | h1
      · exact hblk b3 h1
      · have := h.fr.le; omega

theorem iz_bools {L : List Bool} {i : Nat} {x : Bool} (h : L[i]? = some x) : ((L.map Value.bool).drop i).take 1 = [.bool x] := by
  have hlt : i < L.length := (List.getElem?_eq_some_iff.1 h).1
  have he : L[i] = x := (List.getElem?_eq_some_iff.1 h).2
  rw [List.drop_eq_getElem_cons (by simpa using hlt)]
  simp [he]

theorem stepB (hT : Tk T) {H0 : Heap} (w0 : WF H0) {q : Nat} {v0 v1 : Value} {i : Nat} {takes : List Bool} {tm : Tr Value} {ds : List Nat} {rd : Option Nat} {nn : Nat} (h : Turn H0 q v0 v1 i (i + 1) tm H) (hv : InSl H0 1 v1 takes.length (takes.map .bool)) (hi2 : i < 200) :
    ∃ tm' H', run (exec T (m + 3)) nn rd c_wicketlaw11_TicketRises_S24 ⟨tm, H, ds⟩ = some (.normal, ⟨tm', H', ds⟩) ∧ Turn H0 q v0 v1 i (i + 1) tm' H' := by
  obtain ⟨s, L, most, last, hq, hris, hlast, hmost, hlen, hcap, hlm, hblk, r6, r7, r8⟩ := h.ex
  have r0 := h.r0; have r1 := h.r1; have r5 := h.r5; have r9 := h.r9
  have same : ∀ t', Keeps 10 tm t' → Turn H0 q v0 v1 i (i + 1) t' H := fun t' k => ⟨⟨s, L, most, last, hq, hris, hlast, hmost, hlen, hcap, hlm, hblk, k.get r6, k.get r7, k.get r8⟩, h.fr, h.hq, k.get r0, k.get r1, k.get r5, k.get r9⟩
  by_cases hi : i < takes.length
  · obtain ⟨p, hp⟩ : ∃ p, takes[i]? = some p := ⟨takes[i], by simp [hi]⟩
    obtain ⟨b, rfl, hread⟩ := (hv.fr h.fr).read hi
    have hr := hread i 1 (by omega)
    rw [iz_bools hp] at hr
    have hlt : (i : Int) < takes.length := by omega
    cases p with
    | false =>
      obtain ⟨t1, e1, k1⟩ : ∃ t1, run (exec T (m + 3)) nn rd c_wicketlaw11_TicketRises_S24 ⟨tm, H, ds⟩ = some (.normal, ⟨t1, H, ds⟩) ∧ Keeps 10 tm t1 := by
        simp (disch := first | omega | (simp; omega) | (simp; done) | fail) [c_wicketlaw11_TicketRises_S17, c_wicketlaw11_TicketRises_S24, r1, r9, goInt, hlt, idxK_of, hr]
      exact ⟨t1, H, e1, same t1 k1⟩
    | true =>
      obtain ⟨t1, e1, k1, j1⟩ : ∃ t1, run (exec T (m + 3)) nn rd c_wicketlaw11_TicketRises_S17 ⟨tm, H, ds⟩ = some (.normal, ⟨t1, H, ds⟩) ∧ Keeps 10 tm t1 ∧ t1.get 70 = some (.bool true) := by
        simp (disch := first | omega | (simp; omega) | (simp; done) | fail) [c_wicketlaw11_TicketRises_S17, r1, r9, goInt, hlt, idxK_of, hr]
      cases L with
      | nil =>
        obtain ⟨t2, e2, k2⟩ : ∃ t2, run (exec T (m + 3)) nn rd c_wicketlaw11_TicketRises_S24 ⟨tm, H, ds⟩ = some (.normal, ⟨t2, H, ds⟩) ∧ Keeps 10 t1 t2 := by
          simp (disch := first | omega | (simp; omega) | (simp; done) | fail) [c_wicketlaw11_TicketRises_S24, e1, c_wicketlaw11_TicketRises_S18, c_wicketlaw11_TicketRises_S19, c_wicketlaw11_TicketRises_S20, c_wicketlaw11_TicketRises_S21, c_wicketlaw11_TicketRises_S22, j1, k1.get r5, k1.get r8, k1.get r7, take_empty hT hq]
        exact ⟨t2, H, e2, same t2 (k1.trans k2)⟩
      | cons x L =>
        obtain ⟨s', H', e, g1, g2, g3, g4⟩ := take_some (m := m) hT hq h.fr.wf (by omega)
        have hx := hlast x (List.mem_cons_self ..)
        have hpos : (0 : Int) < (L.length : Int) + 1 := by omega
        have hw : IntKind.i64.wrap (L.length : Int) = L.length := wrap_i64 (by omega) (by simp at hlen; omega)
        have hnx : ¬ x ≤ last := by omega
        obtain ⟨t2, e2, k2, j7, j8⟩ : ∃ t2, run (exec T (m + 3)) nn rd c_wicketlaw11_TicketRises_S24 ⟨tm, H, ds⟩ = some (.normal, ⟨t2, H', ds⟩) ∧ KeepsB 10 [7, 8] t1 t2 ∧ t2.get 7 = some (.int .u64 x) ∧ t2.get 8 = some (.int .i64 L.length) := by
          simp (disch := first | omega | (simp; omega) | (simp; done) | fail) [c_wicketlaw11_TicketRises_S24, e1, c_wicketlaw11_TicketRises_S18, c_wicketlaw11_TicketRises_S19, c_wicketlaw11_TicketRises_S20, c_wicketlaw11_TicketRises_S21, c_wicketlaw11_TicketRises_S22, c_wicketlaw11_TicketRises_S23, j1, k1.get r5, k1.get r8, k1.get r7, e, hpos, hnx, hw]
        refine ⟨t2, H', e2, ⟨⟨s', L, most, x, g1, hris.2, hris.1, fun y hy => hmost y (List.mem_cons_of_mem _ hy), by simp at hlen; omega, by omega, hmost x (List.mem_cons_self ..), by rw [g3]; exact hblk, k2.get (k1.get r6), j7, j8⟩, ?_, h.hq, k2.get (k1.get r0), k2.get (k1.get r1), k2.get (k1.get r5), k2.get (k1.get r9)⟩⟩
        refine h.fr.trans w0 g2 (by simp) ?_
        intro r hr; right
        rcases List.mem_cons.1 hr with rfl | h1
        · exact h.hq
        · exact hblk r h1
  · obtain ⟨a, c, rfl⟩ := hv.form
    have hlt : ¬ (i : Int) < takes.length := by omega
    obtain ⟨t1, e1, k1⟩ : ∃ t1, run (exec T (m + 3)) nn rd c_wicketlaw11_TicketRises_S24 ⟨tm, H, ds⟩ = some (.normal, ⟨t1, H, ds⟩) ∧ Keeps 10 tm t1 := by
      simp (disch := first | omega | (simp; omega) | (simp; done) | fail) [c_wicketlaw11_TicketRises_S17, c_wicketlaw11_TicketRises_S24, r1, r9, goInt, hlt]
    exact ⟨t1, H, e1, same t1 k1⟩

theorem stepC (hT : Tk T) {H0 : Heap} (w0 : WF H0) {q : Nat} {v0 v1 : Value} {i : Nat} {tm : Tr Value} {ds : List Nat} (hm : 210 ≤ m) (h : Turn H0 q v0 v1 i (i + 1) tm H) (hi2 : i < 200) :
    ∃ tm' H', run (exec T (m + 3)) (m + 3) none phaseC ⟨tm, H, ds⟩ = some (.normal, ⟨tm', H', ds⟩) ∧ Turn H0 q v0 v1 i (i + 1) tm' H' := by
  obtain ⟨s, L, most, last, hq, hris, hlast, hmost, hlen, hcap, hlm, hblk, r6, r7, r8⟩ := h.ex
  have r0 := h.r0; have r1 := h.r1; have r5 := h.r5; have r9 := h.r9
  obtain ⟨s', H1, e, f1, g1, g2⟩ := listed_ok (m := m) (z := -1) hT hq h.fr.wf (by omega) (by omega)
  have hup : upTo (-1) L = L := rfl
  rw [hup] at g1
  have hq1 := hq.fr f1 (by simp) (by simp)
  obtain ⟨a1, c1, rfl⟩ := hq1.sl.form
  obtain ⟨t1, e1, k1, j13, j14⟩ : ∃ t1, run (exec T (m + 3)) (m + 3) none c_wicketlaw11_TicketRises_S25 ⟨tm, H, ds⟩ = some (.normal, ⟨t1, H1, ds⟩) ∧ Keeps 13 tm t1 ∧ t1.get 13 = some s' ∧ t1.get 14 = some (.bool true) := by
    simp (disch := first | omega | (simp; omega) | (simp; done) | fail) [c_wicketlaw11_TicketRises_S25, r5, e]
  obtain ⟨a, c, rfl⟩ := g1.form
  obtain ⟨t2, e2, k2⟩ : ∃ t2, run (exec T (m + 3)) (m + 3) none c_wicketlaw11_TicketRises_S28 ⟨t1, H1, ds⟩ = some (.normal, ⟨t2, H1, ds⟩) ∧ Keeps 15 t1 t2 := by
    simp (disch := first | omega | (simp; omega) | (simp; done) | fail) [c_wicketlaw11_TicketRises_S26, c_wicketlaw11_TicketRises_S27, c_wicketlaw11_TicketRises_S28, j13, j14, k1.get r5, k1.get r8, goInt, len_eq hT hq1.at_]
  obtain ⟨t3, e3, k3, j15⟩ : ∃ t3, run (exec T (m + 3)) (m + 3) none c_wicketlaw11_TicketRises_S29 ⟨t2, H1, ds⟩ = some (.normal, ⟨t3, H1, ds⟩) ∧ Keeps 15 t2 t3 ∧ t3.get 15 = some (.int .i64 1) := by
    simp [c_wicketlaw11_TicketRises_S29]
  obtain ⟨ex, ⟨t4, H4, ds4⟩, e4, rfl, hds, f4, k4⟩ := inner_ok (m := m) (tm := t3) (ds := ds) hT hq1 g1 f1.wf hris (by omega) (by omega) (k3.get (k2.get (k1.get r5))) (k3.get (k2.get j13)) j15
  simp only at hds f4 k4
  subst hds
  have kk : Keeps 13 tm t4 := (((k1.trans (k2.le (by decide))).trans (k3.le (by decide))).trans (Keeps.le (fun k hk => k4 k hk) (by decide)))
  refine ⟨t4, H4, by rw [phaseC, run_seq, e1, seqK_normal, run_seq, e2, seqK_normal, run_seq, e3, seqK_normal, run_block, run_loop, e4]; rfl, ⟨⟨_, L, most, last, hq1.fr f4 (by simp) (by simp), hris, hlast, hmost, hlen, hcap, hlm, hblk, kk.get r6, kk.get r7, kk.get r8⟩, (h.fr.trans w0 f1 (by simp) (by simp) (c := [])).trans w0 f4 (by simp) (by simp), h.hq, kk.get r0, kk.get r1, kk.get r5, kk.get r9⟩⟩

theorem outer_step (hT : Tk T) {H0 : Heap} (w0 : WF H0) {q : Nat} {v0 v1 : Value} {i : Nat} {puts : List Int} {takes : List Bool} {tm : Tr Value} {ds : List Nat} (hm : 210 ≤ m) (h : Turn H0 q v0 v1 i i tm H)
    (hp : InSl H0 1 v0 puts.length (iz .u64 puts)) (ht : InSl H0 1 v1 takes.length (takes.map .bool)) :
    ∃ e tm' H', run (exec T (m + 3)) (m + 3) none c_wicketlaw11_TicketRises_L37 ⟨tm, H, ds⟩ = some (e, ⟨tm', H', ds⟩) ∧
      ((e = .normal ∧ i < puts.length ∧ i < 200 ∧ Turn H0 q v0 v1 (i + 1) (i + 1) tm' H') ∨ (e = .exit 0 ∧ Fr H0 H' [])) := by
  have r0 := h.r0; have r1 := h.r1; have r5 := h.r5; have r9 := h.r9
  obtain ⟨a0, c0, hv0⟩ := hp.form
  subst hv0
  by_cases hi : i < puts.length ∧ i < 200
  · have h1 : (i : Int) < puts.length := by omega
    have h2 : (i : Int) < 200 := by omega
    obtain ⟨t1, e1, k1⟩ : ∃ t1, run (exec T (m + 3)) (m + 3) none c_wicketlaw11_TicketRises_S9 ⟨tm, H, ds⟩ = some (.normal, ⟨t1, H, ds⟩) ∧ Keeps 13 tm t1 := by
      simp (disch := first | omega | (simp; omega) | (simp; done) | fail) [c_wicketlaw11_TicketRises_S8, c_wicketlaw11_TicketRises_S9, r0, r9, goInt, h1, h2]
    obtain ⟨s, L, most, last, hq, hris, hlast, hmost, hlen, hcap, hlm, hblk, r6, r7, r8⟩ := h.ex
    have hA : Turn H0 q (.slice a0 puts.length c0) v1 i i t1 H := ⟨⟨s, L, most, last, hq, hris, hlast, hmost, hlen, hcap, hlm, hblk, k1.get r6, k1.get r7, k1.get r8⟩, h.fr, h.hq, k1.get r0, k1.get r1, k1.get r5, k1.get r9⟩
    obtain ⟨t2, H2, e2, hB⟩ := stepA (m := m + 2) (nn := m + 3) (rd := none) (ds := ds) hT w0 hA hp hi.1 hi.2
    obtain ⟨t3, H3, e3, hC⟩ := stepB (m := m) (nn := m + 3) (rd := none) (ds := ds) hT w0 hB ht hi.2
    obtain ⟨t4, H4, e4, hD⟩ := stepC (m := m) (ds := ds) hT w0 hm hC hi.2
    have hw : IntKind.i64.wrap ((i : Int) + 1) = i + 1 := wrap_i64 (by omega) (by omega)
    have r9' := hD.r9
    obtain ⟨t5, e5, k5, j9⟩ : ∃ t5, run (exec T (m + 3)) (m + 3) none (.reg [⟨(some 28), .move (.tmp 9), none⟩, ⟨(some 29), .bin .add (.tmp 28) (.const (.int .i64 1)), none⟩, ⟨(some 9), .move (.tmp 29), none⟩]) ⟨t4, H4, ds⟩ = some (.normal, ⟨t5, H4, ds⟩) ∧ KeepsB 13 [9] t4 t5 ∧ t5.get 9 = some (.int .i64 (i + 1 : Nat)) := by
      simp [r9', hw]
    have eB : run (exec T (m + 3)) (m + 3) none c_wicketlaw11_TicketRises_S36 ⟨t1, H, ds⟩ = some (.normal, ⟨t4, H4, ds⟩) := by
      simp only [phaseA, phaseC, run_seq] at e2 e4
      rw [c_wicketlaw11_TicketRises_S36, run_block]
      simp only [run_seq]
      revert e2
      cases hx1 : run (exec T (m + 3)) (m + 3) none c_wicketlaw11_TicketRises_S10 ⟨t1, H, ds⟩ with
      | none => intro e2; simp [seqK] at e2
      | some x1 =>
        obtain ⟨y1, z1⟩ := x1
        cases y1 with
        | normal =>
          simp only [seqK_normal, run_seq]
          cases hx2 : run (exec T (m + 3)) (m + 3) none c_wicketlaw11_TicketRises_S13 z1 with
          | none => intro e2; simp [seqK] at e2
          | some x2 =>
            obtain ⟨y2, z2⟩ := x2
            cases y2 with
            | normal =>
              simp only [seqK_normal, run_seq]
              intro e2
              rw [e2, seqK_normal, run_seq, e3, seqK_normal, run_seq, e4]; rfl
            | _ => intro e2; simp [seqK] at e2
        | _ => intro e2; simp [seqK] at e2
    obtain ⟨s, L, most, last, hq, hris, hlast, hmost, hlen, hcap, hlm, hblk, r6, r7, r8⟩ := hD.ex
    refine ⟨.normal, t5, H4, ?_, .inl ⟨rfl, hi.1, hi.2, ⟨⟨s, L, most, last, hq, hris, hlast, hmost, hlen, hcap, hlm, hblk, k5.get r6, k5.get r7, k5.get r8⟩, hD.fr, hD.hq, k5.get hD.r0, k5.get hD.r1, k5.get hD.r5, j9⟩⟩⟩
    rw [c_wicketlaw11_TicketRises_L37, run_seq, e1, seqK_normal, run_seq, eB, seqK_normal, e5]
  · refine ⟨.exit 0, ?_⟩
    by_cases h1 : (i : Int) < puts.length
    · have h2 : ¬ (i : Int) < 200 := by omega
      obtain ⟨t1, e1⟩ : ∃ t1, run (exec T (m + 3)) (m + 3) none c_wicketlaw11_TicketRises_L37 ⟨tm, H, ds⟩ = some (.exit 0, ⟨t1, H, ds⟩) := by
        simp (disch := first | omega | (simp; omega) | (simp; done) | fail) [c_wicketlaw11_TicketRises_L37, c_wicketlaw11_TicketRises_S8, c_wicketlaw11_TicketRises_S9, r0, r9, goInt, h1, h2]
      exact ⟨t1, H, e1, .inr ⟨rfl, h.fr⟩⟩
    · obtain ⟨t1, e1⟩ : ∃ t1, run (exec T (m + 3)) (m + 3) none c_wicketlaw11_TicketRises_L37 ⟨tm, H, ds⟩ = some (.exit 0, ⟨t1, H, ds⟩) := by
        simp (disch := first | omega | (simp; omega) | (simp; done) | fail) [c_wicketlaw11_TicketRises_L37, c_wicketlaw11_TicketRises_S8, c_wicketlaw11_TicketRises_S9, r0, r9, goInt, h1]
      exact ⟨t1, H, e1, .inr ⟨rfl, h.fr⟩⟩
end Go.Proofs.Ytiohkpjljinmfaa
