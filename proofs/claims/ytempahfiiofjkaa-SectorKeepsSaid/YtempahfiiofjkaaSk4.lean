/- Disks: a crash. -/
import Derived.Test.YtempahfiiofjkaaSk3
namespace Go.Proofs.Ytempahfiiofjkaa
open Go
set_option linter.unusedVariables false
set_option linter.unusedSimpArgs false

/-- Which of so many are named. -/
def kp (K : List Int) (m : Nat) : List Int := (List.range m).map fun (j : Nat) => if (j : Int) ∈ K then 1 else 0
@[simp] theorem kp_len {K : List Int} {m : Nat} : (kp K m).length = m := by simp [kp]
theorem kp_at {K : List Int} {m j : Nat} (hj : j < m) : (kp K m)[j]'(by simpa using hj) = if (j : Int) ∈ K then 1 else 0 := by simp [kp]
theorem kp_set {K : List Int} {m : Nat} {x : Int} (h0 : 0 ≤ x) : (kp K m).set x.toNat 1 = kp (K ++ [x]) m := by
  apply List.ext_getElem
  · simp
  · intro j h1 h2
    have hj : j < m := by simpa using h1
    rw [List.getElem_set, kp_at hj, kp_at hj]
    by_cases e : x.toNat = j
    · rw [if_pos e, if_pos]; simp; right; omega
    · rw [if_neg e]
      have : ¬ (j : Int) = x := by omega
      simp [this]
theorem kp_out {K : List Int} {m : Nat} {x : Int} (h0 : x < 0 ∨ (m : Int) ≤ x) : kp (K ++ [x]) m = kp K m := by
  apply List.ext_getElem
  · simp
  · intro j h1 h2
    have hj : j < m := by simpa using h1
    rw [kp_at hj, kp_at hj]
    have : ¬ (j : Int) = x := by omega
    simp [this]
theorem kp_nil {m : Nat} : kp [] m = List.replicate m 0 := by
  apply List.ext_getElem
  · simp
  · intro j h1 h2
    rw [kp_at (by simpa using h1)]; simp
theorem flat_rep1 {z : Value} {m : Nat} : (List.replicate m [z]).flatten = List.replicate m z := by
  induction m with
  | zero => rfl
  | succ m ih => simp [List.replicate_succ, ih]

section
variable {n p t j : Nat} {sp : Option Nat} {ds : List (List Int)} {ws : List (Int × List Int)} {L F G A B : Ch} {h : Heap} {i : Int} {s u sd sw : Value} {X K : List Int} {w : Int × List Int}

theorem keeps_ok {v : Value} {ob : AObj} {m : Nat} {M : Ch} (hu : Sow 1 u K.length (iz .i64 K) G) (hv : Slc 1 v m (iz .u8 (kp [] m)) M) (ho : Own h (M ++ (G ++ F))) (hK : K.length ≤ 1000) (hn : 2000 ≤ n) :
    ∃ h' M', loopT (fun a => f_sector_Disk_Crash_L15 n u (v, ob) K.length a.1.1 a.2) n (((0 : Int), ()), h) = some ((), h') ∧ Slc 1 v m (iz .u8 (kp K m)) M' ∧ Own h' (M' ++ (G ++ F)) := by
  obtain ⟨⟨x, h'⟩, e, M', q1, q2⟩ := loopT_up (f := fun a => f_sector_Disk_Crash_L15 n u (v, ob) K.length a.1.1 a.2)
    (fun j (a : (Int × Unit) × Heap) => a.1.1 = (j : Int) ∧ ∃ M', Slc 1 v m (iz .u8 (kp (K.take j) m)) M' ∧ Own a.2 (M' ++ (G ++ F)))
    (fun r => ∃ M', Slc 1 v m (iz .u8 (kp K m)) M' ∧ Own r.2 (M' ++ (G ++ F))) (N := K.length) (k := n) (j := 0) (a := ((0, ()), h)) (by omega) (by omega)
    ⟨rfl, M, by simpa using hv, ho⟩
    (fun j a hj hi => by
      obtain ⟨⟨v0, _⟩, h1⟩ := a
      obtain ⟨rfl, M1, hs1, o1⟩ := hi
      have o1 : Own h1 _ := o1
      have hlt : (j : Int) < (K.length : Int) := by omega
      obtain ⟨q, e1, e2⟩ := (hu.rds (h := h1) (F := M1 ++ F) (o1.to fun x => by simp only [cnt_append]; omega)).int hj
      by_cases hr : 0 ≤ K[j] ∧ K[j] < (m : Int)
      · obtain ⟨q', h2, M2, g1, g2, g3, o2⟩ := slc_set1 hs1 o1 (i := K[j].toNat) (by omega) (v := .int .u8 1) rfl rfl
        rw [iz_set, kp_set hr.1, ← take_snoc hj] at g3
        rw [Int.toNat_of_nonneg hr.1] at g1
        refine .inl ⟨((((j + 1 : Nat) : Int), ()), h2), ?_, rfl, M2, g3, o2⟩
        simp only [f_sector_Disk_Crash_L15]
        simp [hlt, e1, e2, hr.1, hs1.lenB, hr.2, g1, g2, wrap_succ (show j < 4611686018427387904 by omega)]
      · refine .inl ⟨((((j + 1 : Nat) : Int), ()), h1), ?_, rfl, M1, ?_, o1⟩
        · simp only [f_sector_Disk_Crash_L15]
          by_cases h0 : 0 ≤ K[j]
          · have h3 : ¬ K[j] < (m : Int) := fun h => hr ⟨h0, h⟩
            simp [hlt, e1, e2, h0, hs1.lenB, h3, wrap_succ (show j < 4611686018427387904 by omega)]
          · simp [hlt, e1, e2, h0, wrap_succ (show j < 4611686018427387904 by omega)]
        · rw [take_snoc hj, kp_out (by omega)]; exact hs1)
    (fun a hi => by
      obtain ⟨⟨v0, _⟩, h1⟩ := a
      obtain ⟨rfl, M1, hs1, o1⟩ := hi
      rw [List.take_length] at hs1
      exact ⟨((), h1), by simp [f_sector_Disk_Crash_L15], M1, hs1, o1⟩)
  exact ⟨h', M', e, q1, q2⟩

theorem crash_ok (hd : Dk p ds ws L) (hu : Sow 1 u K.length (iz .i64 K) G) (ho : Own h (L ++ (G ++ F))) (hlen : ws.length ≤ 1000) (hK : K.length ≤ 1000) (hn : 2000 ≤ n) :
    ∃ h' L', f_sector_Disk_Crash n (some ⟨p, 0, sp⟩) u h = some (((ws.length : Int), (0, ())), h') ∧ Dk p (ak (fun j => decide ((j : Int) ∈ K)) ws ws.length ds) [] L' ∧ Own h' (L' ++ (G ++ F)) := by
  obtain ⟨sd, sw, A, B, a1, a2, a3, rfl⟩ := hd
  have hg := ho.head
  generalize hP : (fun j : Nat => decide ((j : Int) ∈ K)) = P
  -- what is kept
  have hmk := mkSl_of (nx := h.next) (bytes := 1) (es := 1) (zs := [.int .u8 0]) (k := .i64) (k' := .i64) (l := ws.length) (c := ws.length) (by omega) (by omega) (by omega)
  rw [flat_rep1] at hmk
  have hv : Slc 1 (.slice (some ⟨h.next, 0, some 0⟩) ws.length ws.length) ws.length (iz .u8 (kp [] ws.length)) [(h.next, .cells ([] ++ (iz .u8 (kp [] ws.length) ++ [])) false 1)] := .mk rfl (by simp) (by simp)
  have ekp : iz .u8 (kp [] ws.length) = List.replicate ws.length (.int .u8 0) := by rw [kp_nil, iz_rep]
  have o1 := ho.new (.cells (List.replicate ws.length (.int .u8 0)) false 1)
  have o1' : Own (h.new (.cells (List.replicate ws.length (.int .u8 0)) false 1)) ([(h.next, .cells ([] ++ (iz .u8 (kp [] ws.length) ++ [])) false 1)] ++ (G ++ ((p, .cells [sd, sw] false 0) :: (A ++ (B ++ F))))) := by
    rw [ekp]
    exact o1.to fun x => by simp only [cnt_append, cnt_cons, cnt_nil, List.cons_append, List.append_nil, List.nil_append]; omega
  generalize hb : h.next = b at hmk hv o1'
  generalize hh1 : h.new (.cells (List.replicate ws.length (.int .u8 0)) false 1) = h1 at o1'
  clear o1
  obtain ⟨h2, M, e2, hv2, o2⟩ := keeps_ok (n := n) (ob := .cells (List.replicate ws.length (.int .u8 0)) false 1) hu hv o1' hK hn
  have g2 : h2.get p = some (.cells [sd, sw] false 0) := o2.get (p, _) (by simp)
  generalize hvv : Value.slice (some ⟨b, 0, some 0⟩) ws.length ws.length = vv at hmk hv hv2 e2
  obtain ⟨⟨x, h'⟩, e, A', q1, q2⟩ := loopT_up (f := fun a => f_sector_Disk_Crash_L35 n (some ⟨p, 0, sp⟩) (vv, .cells (List.replicate ws.length (.int .u8 0)) false 1) sw ws.length a.1.1 a.2)
    (fun j (a : (Int × Unit) × Heap) => a.1.1 = (j : Int) ∧ ∃ A', Slc 64 sd ds.length ((ak P ws j ds).flatMap (iz .u8)) A' ∧ Own a.2 ((p, .cells [sd, sw] false 0) :: (A' ++ (M ++ (B ++ (G ++ F))))))
    (fun r => ∃ A', Slc 64 sd ds.length ((ak P ws ws.length ds).flatMap (iz .u8)) A' ∧ Own r.2 ((p, .cells [sd, sw] false 0) :: (A' ++ (M ++ (B ++ (G ++ F)))))) (N := ws.length) (k := n) (j := 0) (a := ((0, ()), h2)) (by omega) (by omega)
    ⟨rfl, A, a1, o2.to fun x => by simp only [cnt_append, cnt_cons]; omega⟩
    (fun j a hj hi => by
      obtain ⟨⟨v, _⟩, h1⟩ := a
      obtain ⟨rfl, A1, hs1, o1⟩ := hi
      have o1 : Own h1 _ := o1
      have hlt : (j : Int) < (ws.length : Int) := by omega
      obtain ⟨q, h2, e1, e2, e3, o2⟩ := temp_ok (F := (p, .cells [sd, sw] false 0) :: (A1 ++ (M ++ (G ++ F)))) a2 a3 (o1.to fun x => by simp only [cnt_append, cnt_cons]; omega) hj
      generalize ht : h1.next = t at e3 o2
      obtain ⟨qk, k1, k2⟩ := (hv2.rds (h := h2) (F := (t, .cells (wc ws[j]) false 0) :: (B ++ (p, .cells [sd, sw] false 0) :: (A1 ++ (G ++ F)))) (o2.to fun x => by simp only [cnt_append, cnt_cons]; omega)).intn (L := kp K ws.length) (i := j) kp_len hj
      rw [kp_at hj] at k2
      simp only [z65, List.replicate] at e3
      have hPj : P j = decide ((j : Int) ∈ K) := by rw [← hP]
      by_cases hk : (j : Int) ∈ K
      · have hw := a3.r _ (List.getElem_mem hj)
        rw [← ak_len (P := P) (ws := ws) (j := j)] at hs1
        obtain ⟨q', h3, A3, g1, g2, g3, g4, g5, g6, o3⟩ := apply_ok (F := M ++ (B ++ (G ++ F))) (sw := sw) (p := p) (t := t) hs1 (ak_ok a3) (a3.w _ (List.getElem_mem hj)) hw.1 (by rw [ak_len]; exact hw.2) (o2.to fun x => by simp only [cnt_append, cnt_cons]; omega)
        rw [ak_len] at g6
        refine .inl ⟨((((j + 1 : Nat) : Int), ()), h3), ?_, rfl, A3, by rw [ak_succ hj, hPj, decide_eq_true hk, if_pos rfl]; exact g6, o3⟩
        rw [if_pos hk] at k2
        simp only [f_sector_Disk_Crash_L35, hlt, decide_true, cond_true, e1, e2, Option.bind_some, bnd_eq, nwA_eq, ht, e3, fa_mk, Nat.zero_add, k1, k2, g1, g2, g3, g4, g5, wrap_succ (show j < 4611686018427387904 by omega)]
      · refine .inl ⟨((((j + 1 : Nat) : Int), ()), h2), ?_, rfl, A1, by rw [ak_succ hj, hPj, decide_eq_false hk, if_neg (by decide)]; exact hs1, o2.to fun x => by simp only [cnt_append, cnt_cons]; omega⟩
        rw [if_neg hk] at k2
        simp only [f_sector_Disk_Crash_L35, hlt, decide_true, cond_true, e1, e2, Option.bind_some, bnd_eq, nwA_eq, ht, e3, fa_mk, Nat.zero_add, k1, k2, wrap_succ (show j < 4611686018427387904 by omega)]
        rfl)
    (fun a hi => by
      obtain ⟨⟨v, _⟩, h1⟩ := a
      obtain ⟨rfl, A1, hs1, o1⟩ := hi
      exact ⟨((), h1), by simp [f_sector_Disk_Crash_L35], A1, hs1, o1⟩)
  have o3 : Own h' _ := q2
  refine ⟨_, _, ?_, ⟨sd, .slice none 0 0, A', [], by rw [ak_len]; exact q1, .nil, ⟨ak_ok a3, fun _ h => absurd h List.not_mem_nil, fun _ h => absurd h List.not_mem_nil⟩, rfl⟩, (o3.put (.cells [sd, .slice none 0 0] false 0)).to fun x => by simp only [cnt_append, cnt_cons, cnt_nil, List.cons_append]; omega⟩
  have hl := (hu.rds (h := h) (F := (p, .cells [sd, sw] false 0) :: (A ++ B ++ F)) (ho.to fun x => by simp only [cnt_append, cnt_cons, List.cons_append]; omega)).lenB
  simp only [f_sector_Disk_Crash, Option.isNone_some, cond_false, Option.bind_some, fa_mk, Nat.zero_add, ldT_of hg, a2.lenB, hmk, hb, bnd_eq, hh1, hl, e2]
  simp [a2.lenB, hmk, hl, hh1, hb, e2, ldT_of g2, e, ldT_of o3.head, stB1_of o3.head (v := .slice none 0 0) rfl rfl]
end
end Go.Proofs.Ytempahfiiofjkaa
