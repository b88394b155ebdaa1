/- LockRefused, all of it. -/
import Derived.Test.YtadkkmingfajdaaLr1
namespace Go.Proofs.Ytadkkmingfajdaa
open Go
set_option linter.unusedVariables false
set_option linter.unusedSimpArgs false

section
variable {p N n : Nat} {es : List Hd} {last t : Int} {L F G Av Ad Ag : Ch} {h : Heap} {v dv gv s u u1 u3 : Value} {W : List Ws} {D S X Y : List Int} {Gn : List Bool}

/-- A literal list. -/
theorem lit_ok (ho : Own h F) (X : List Int) : Own (h.new (.cells (iz .i64 X) false 1)) ([(h.next, .cells ([] ++ (iz .i64 X ++ [])) false 1)] ++ F) ∧ Slc 1 (.slice (some ⟨h.next, 0, some 0⟩) X.length X.length) X.length (iz .i64 X) [(h.next, .cells ([] ++ (iz .i64 X ++ [])) false 1)] := by
  refine ⟨by simpa using ho.new (.cells (iz .i64 X) false 1), .mk rfl (by simp [iz]) (by simp [iz])⟩

theorem lockRefused_ok {x0 late : Int} (hu1 : Sow 1 u1 S.length (iz .u64 S) G) (hS : ∀ x ∈ S, 0 ≤ x) (hu3 : Sow 1 u3 Y.length (iz .i64 Y) G) (hY : Y.length * 8 ≤ 140737488355328) (hl0 : 0 ≤ late) (ho : Own h G) (hn : 2000 ≤ n) :
    ∃ h', f_wicketlaw14_LockRefused n x0 u1 late u3 h = some ((true, ()), h') := by
  obtain ⟨N, n1, n2, hN⟩ := blocksOf_ok x0
  obtain ⟨p, v, h1, L, Av, W, es, e1, d1, c1, w1, w2, l1, o1⟩ := crowd_ok (n := n) (F := []) hu1 hS (by simpa using ho) n1 (by omega) hn
  have hst := start_stt c1
  have m2 := mkSl_of (nx := h1.next) (bytes := 1) (es := 1) (zs := [.bool false]) (k := .i64) (k' := .i64) (l := W.length) (c := W.length) (Nat.le_refl _) (by omega) (by omega)
  have z2 : ∀ m : Nat, (List.replicate m [Value.bool false]).flatten = (List.replicate m false).map .bool := by
    intro m; induction m with
    | zero => rfl
    | succ m ih => rw [List.replicate_succ, List.flatten_cons, ih, List.replicate_succ]; rfl
  have o2 := o1.new (.cells ((List.replicate W.length [Value.bool false]).flatten) false 1)
  generalize hh2 : h1.new (.cells ((List.replicate W.length [Value.bool false]).flatten) false 1) = h2 at o2
  obtain ⟨dv, h3, Ad, e3, l3, o3⟩ := zeros_ok (n := n) o2 w1 hn
  generalize hgv : (Value.slice (some ⟨h1.next, 0, some 0⟩) W.length W.length) = gv at m2
  generalize hAg : ([(h1.next, .cells ([] ++ ((List.replicate W.length false).map Value.bool ++ [])) false 1)] : Ch) = Ag
  have hw : Lw N v dv gv W (List.replicate W.length 0) (List.replicate W.length false) Av Ad Ag := ⟨l1, l3, by rw [← hgv, ← hAg]; exact .mk rfl (by simp) (by simp), w2, w1⟩
  have o3 : Own h3 (All L W Av Ad Ag G) := o3.to fun x => by rw [← hAg, z2]; simp only [All, List.nil_append, List.append_nil, cnt_append, cnt_cons, cnt_nil]; omega
  -- the numbers
  have k1 : IntKind.u64.wrap (W.length : Int) = (W.length : Int) := wrap_u64 (by omega) (by omega)
  have k2 : IntKind.u64.wrap ((W.length : Int) + 1) = ((W.length + 1 : Nat) : Int) := by rw [wrap_u64 (by omega) (by omega)]; omega
  have k3 : ¬ (((W.length + 1 : Nat) : Int) = 0) := by omega
  have t1 := Int.tmod_lt_of_pos late (b := ((W.length + 1 : Nat) : Int)) (by omega)
  have t5 := Int.tmod_lt_of_pos late (b := 5) (by omega)
  have t6 := Int.tmod_nonneg (5 : Int) hl0
  have k4 : IntKind.u64.wrap (((W.length + 1 : Nat) : Int) + Int.tmod late 5) = ((W.length + 1 : Nat) : Int) + Int.tmod late 5 := wrap_u64 (by omega) (by omega)
  -- a ticket that was laid
  obtain ⟨oa, la⟩ := lit_ok o3 [0]
  have ea := lay_one (n := n) (t := Int.tmod late ((W.length + 1 : Nat) : Int)) (x := 0) d1 la.sow (h := h3.new (.cells (iz .i64 [0]) false 1)) (F := Av ++ (Ad ++ (Ag ++ (W.flatMap Ws.A ++ G)))) (oa.to fun x => by simp only [All, cnt_append]; omega) hn (.inr (.inr (by omega)))
  rw [if_neg (by omega)] at ea
  generalize hha : h3.new (.cells (iz .i64 [0]) false 1) = ha at oa ea
  have oa := oa.right
  -- none
  have eb := lay_form (p := p) (n := n) (t := ((W.length + 1 : Nat) : Int)) (s := .slice none 0 0) (h := ha) (by
    obtain ⟨b, e, hb⟩ := rises_ok (n := n) (h := ha) (s := .slice none 0 0) (X := []) (Slc.nil.sow ha fun x hx => absurd hx List.not_mem_nil) (by simp) hn
    have : b = false := by cases b with | false => rfl | true => exact absurd rfl (hb.1 rfl).1
    rw [this] at e; exact e)
  -- twice
  obtain ⟨oc, lc⟩ := lit_ok oa [0, 0]
  have ec := lay_form (p := p) (n := n) (t := ((W.length + 1 : Nat) : Int)) (h := ha.new (.cells (iz .i64 [0, 0]) false 1)) (rises_bad (n := n) (lc.rds oc) (i := 0) (by simp) (by simp) (by omega) hn)
  generalize hhc : ha.new (.cells (iz .i64 [0, 0]) false 1) = hc at oc ec
  have oc := oc.right
  -- behind the last block
  obtain ⟨od, lD⟩ := lit_ok oc [(N : Int)]
  have ed := lay_one (n := n) (t := 0) (x := (N : Int)) d1 lD.sow (h := hc.new (.cells (iz .i64 [(N : Int)]) false 1)) (F := Av ++ (Ad ++ (Ag ++ (W.flatMap Ws.A ++ G)))) (od.to fun x => by simp only [All, cnt_append]; omega) hn (.inr (.inl (by omega)))
  rw [if_pos (by omega)] at ed
  generalize hhd : hc.new (.cells (iz .i64 [(N : Int)]) false 1) = hd at od ed
  have od := od.right
  -- ahead of the first
  obtain ⟨oe, le⟩ := lit_ok od [-1]
  have ee := lay_one (n := n) (t := ((W.length + 1 : Nat) : Int)) (x := -1) d1 le.sow (h := hd.new (.cells (iz .i64 [-1]) false 1)) (F := Av ++ (Ad ++ (Ag ++ (W.flatMap Ws.A ++ G)))) (oe.to fun x => by simp only [All, cnt_append]; omega) hn (.inl (by omega))
  rw [if_pos (by omega)] at ee
  generalize hhe : hd.new (.cells (iz .i64 [-1]) false 1) = he at oe ee
  have oe := oe.right
  -- the odd ones
  obtain ⟨hf, ef, of_⟩ := odd_ok (n := n) (p := p) (p1 := ((some ⟨p, 0, none⟩, v, ()), h1)) (K := W.length) rfl hu3 hY (h := he) (F := L ++ (Av ++ (Ad ++ (Ag ++ W.flatMap Ws.A)))) (oe.to fun x => by simp only [All, cnt_append]; omega) hn
  -- tickets that are not there
  have x1 := ent_out (t := ((W.length + 1 : Nat) : Int) + Int.tmod late 5) hst (.inr (by omega))
  have x2 := ent_out (t := 0) hst (.inl (by omega))
  obtain ⟨hg, L1, eg, d2, og⟩ := take_ok (n := n) (t := ((W.length + 1 : Nat) : Int) + Int.tmod late 5) d1 (h := hf) (F := Av ++ (Ad ++ (Ag ++ (W.flatMap Ws.A ++ G)))) (of_.to fun x => by simp only [cnt_append]; omega)
  have q1 : tkn es (((W.length + 1 : Nat) : Int) + Int.tmod late 5) = (0, 110) := by unfold tkn; rw [x1]
  have q1' : tks es (((W.length + 1 : Nat) : Int) + Int.tmod late 5) = es := by unfold tks; rw [q1]; rfl
  rw [q1] at eg
  rw [q1'] at d2
  obtain ⟨hi, L2, ei, d3, oi⟩ := ldrop_ok (n := n) (t := ((W.length + 1 : Nat) : Int) + Int.tmod late 5) d2 og hn
  have q2 : drn es (((W.length + 1 : Nat) : Int) + Int.tmod late 5) = (0, 110) := by unfold drn; rw [x1]
  rw [q2] at ei
  rw [rem_none x1] at d3
  obtain ⟨hj, L3, ej, d4, oj⟩ := take_ok (n := n) (t := 0) d3 oi
  have q3 : tkn es 0 = (0, 110) := by unfold tkn; rw [x2]
  have q3' : tks es 0 = es := by unfold tks; rw [q3]; rfl
  rw [q3] at ej
  rw [q3'] at d4
  obtain ⟨hk, ek, ok⟩ := fair_ok (n := n) d4 hw hst (F := G) oj hn
  -- the next one may be laid
  obtain ⟨om, lm⟩ := lit_ok ok [0]
  have hesl : es.length = W.length := by have := congrArg List.length c1; simpa [start] using this
  obtain ⟨hm, s', A', L4, em, d5, _⟩ := lay_ok (n := n) (t := ((W.length + 1 : Nat) : Int)) d4 lm.sow ⟨by simp, by simp, by simp; omega⟩ (by omega) (by omega) (h := hk.new (.cells (iz .i64 [0]) false 1)) (F := Av ++ (Ad ++ (Ag ++ (W.flatMap Ws.A ++ G)))) (om.to fun x => by simp only [All, cnt_append]; omega) hn
  refine ⟨hm, ?_⟩
  have aw : f_wicketlaw14_awake n h1 = some ((true, ()), h1) := rfl
  have f0 : fillL [.int .i64 0] [(0, 1, .int .i64 0)] = some (iz .i64 [0]) := rfl
  have f00 : fillL [.int .i64 0, .int .i64 0] [(0, 1, .int .i64 0), (1, 1, .int .i64 0)] = some (iz .i64 [0, 0]) := rfl
  have fN : fillL [.int .i64 0] [(0, 1, .int .i64 (N : Int))] = some (iz .i64 [(N : Int)]) := rfl
  have fm : fillL [.int .i64 0] [(0, 1, .int .i64 (-1))] = some (iz .i64 [-1]) := rfl
  simp only [List.length_cons, List.length_nil, Nat.zero_add] at ea ec ed ee em
  simp only [f_wicketlaw14_LockRefused, f_wicketlaw14_blocksOf, Option.bind_some, hN, e1, aw, Bool.not_true, cond_false, Option.isNone_some, l1.lenB, m2, bnd_eq, hh2, e3, k1, k2, k3, decide_false, f0, hha, ea, f_wicketlaw14_num, decide_true, eb]
  simp only [f00, Option.bind_some, bnd_eq, hhc, ec, decide_true, Bool.not_true, cond_false, fN, hhd, ed, fm, hhe, ee]
  simp only [ef, thenB_inl, k4, eg, ei, ej, Option.bind_some, decide_true, cond_true, ek, f0, bnd_eq, em]
end
end Go.Proofs.Ytadkkmingfajdaa
