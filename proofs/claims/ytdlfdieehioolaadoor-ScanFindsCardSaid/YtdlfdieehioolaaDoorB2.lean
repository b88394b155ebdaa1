/- What the second semantics' operations give, the first one's give. -/
import Derived.Test.YtdlfdieehioolaaDoorB1
namespace Go.Proofs.YtdlfdieehioolaaDoor
open Go
set_option linter.unusedVariables false
set_option linter.unusedSimpArgs false
structure HLe (h H : Heap) : Prop where
  nx : h.next = H.next
  le : ∀ r o, h.get r = some o → H.get r = some o
  sh : h.sh = H.sh
theorem HLe.refl (h : Heap) : HLe h h := ⟨rfl, fun _ _ h => h, rfl⟩
structure Stp (X : Nat → Prop) (h H h' H' : Heap) : Prop where
  nx : h.next ≤ h'.next
  dead : ∀ r, r < h.next → h.get r = none → h'.get r = none
  keep : ∀ r, r < h.next → h.get r = none → ¬ X r → H'.get r = H.get r
theorem Stp.refl {X : Nat → Prop} {h H : Heap} : Stp X h H h H := ⟨Nat.le_refl _, fun _ _ h => h, fun _ _ _ _ => rfl⟩
theorem Stp.trans {X : Nat → Prop} {h H h1 H1 h2 H2 : Heap} (a : Stp X h H h1 H1) (b : Stp X h1 H1 h2 H2) : Stp X h H h2 H2 :=
  ⟨Nat.le_trans a.nx b.nx, fun r hr hn => b.dead r (Nat.lt_of_lt_of_le hr a.nx) (a.dead r hr hn), fun r hr hn hx => (b.keep r (Nat.lt_of_lt_of_le hr a.nx) (a.dead r hr hn) hx).trans (a.keep r hr hn hx)⟩
theorem Stp.mono {X Y : Nat → Prop} {h H h1 H1 : Heap} (a : Stp X h H h1 H1) (hxy : ∀ r, X r → Y r) : Stp Y h H h1 H1 :=
  ⟨a.nx, a.dead, fun r hr hn hy => a.keep r hr hn fun hx => hy (hxy r hx)⟩
abbrev No : Nat → Prop := fun _ => False
section
variable {h H : Heap}
theorem HLe.put {r : Nat} {o o' : AObj} (hh : HLe h H) (hr : h.get r = some o) : HLe (h.put r o') (H.put r o') ∧ Stp No h H (h.put r o') (H.put r o') := by
  refine ⟨⟨hh.nx, fun k u hk => ?_, hh.sh⟩, Nat.le_refl _, fun k hk hn => ?_, fun k hk hn _ => ?_⟩
  · rw [Heap.get_put] at hk ⊢; split at hk
    · rw [if_pos (by assumption)]; exact hk
    · rw [if_neg (by assumption)]; exact hh.le _ _ hk
  · rw [Heap.get_put, if_neg]
    · exact hn
    · rintro rfl; rw [hr] at hn; cases hn
  · rw [Heap.get_put, if_neg]
    rintro rfl; rw [hr] at hn; cases hn
theorem HLe.drop {r : Nat} {o : AObj} (hh : HLe h H) (hr : h.get r = some o) : HLe (h.drop r) (H.drop r) ∧ Stp No h H (h.drop r) (H.drop r) := by
  refine ⟨⟨hh.nx, fun k u hk => ?_, hh.sh⟩, Nat.le_refl _, fun k hk hn => ?_, fun k hk hn _ => ?_⟩
  · rw [Heap.get_drop] at hk ⊢; split at hk
    · cases hk
    · rw [if_neg (by assumption)]; exact hh.le _ _ hk
  · rw [Heap.get_drop]; split <;> first | rfl | exact hn
  · rw [Heap.get_drop, if_neg]
    rintro rfl; rw [hr] at hn; cases hn
theorem HLe.new (hh : HLe h H) (o : AObj) : HLe (h.new o) (H.new o) ∧ Stp No h H (h.new o) (H.new o) := by
  refine ⟨⟨by show h.next + 1 = H.next + 1; rw [hh.nx], fun k u hk => ?_, hh.sh⟩, Nat.le_succ _, fun k hk hn => ?_, fun k hk hn _ => ?_⟩
  · rw [Heap.get_new] at hk ⊢; rw [← hh.nx]; split at hk
    · rw [if_pos (by assumption)]; exact hk
    · rw [if_neg (by assumption)]; exact hh.le _ _ hk
  · rw [Heap.get_new, if_neg (by omega)]; exact hn
  · rw [Heap.get_new, if_neg (by rw [← hh.nx]; omega)]
theorem readCells_mono {r off n : Nat} {cs : List Value} (hh : HLe h H) (e : readCells h r off n = some cs) : readCells H r off n = some cs := by
  unfold readCells at e ⊢
  split at e
  · rename_i hg; rw [hh.le _ _ hg]; exact e
  · cases e
theorem readS_mono (hh : HLe h H) : ∀ {f r off n : Nat} {cs : List Value}, readS h f r off n = some cs → readS H f r off n = some cs := by
  intro f
  induction f with
  | zero => intro r off n cs e; cases e
  | succ f ih =>
    intro r off n cs e
    have hs := hh.sh
    unfold readS at e ⊢
    rw [← hs]
    cases hf : shFind r h.sh with
    | none => rw [hf] at e; exact readCells_mono hh e
    | some x =>
      obtain ⟨base, ds, r'⟩ := x
      rw [hf] at e
      simp only at e ⊢
      cases hb : Nat.ble base off && Nat.ble (off - base + n) ds.length with
      | false => rw [hb] at e; cases e
      | true =>
        rw [hb] at e
        simp only [cond_true] at e ⊢
        cases hr : readS h f r' (off - base) n with
        | none => rw [hr] at e; cases e
        | some vs => rw [hr] at e; rw [ih hr]; exact e
theorem srcCells_mono {b : Option Addr} {n : Nat} {cs : List Value} (hh : HLe h H) (e : srcCells h b n = some cs) : srcCells H b n = some cs := by
  cases b with
  | none => exact e
  | some q => exact readCells_mono hh e
theorem writeCells_mono {r off : Nat} {vs : List Value} {h' : Heap} (hh : HLe h H) (e : writeCells h r off vs = some h') : ∃ H', writeCells H r off vs = some H' ∧ HLe h' H' ∧ Stp No h H h' H' := by
  unfold writeCells at e
  split at e
  · rename_i cs es hg
    cases hb : Nat.ble (off + vs.length) cs.length with
    | false => rw [hb] at e; cases e
    | true =>
      rw [hb] at e
      simp only [cond_true, Option.some.injEq] at e
      subst e
      refine ⟨H.put r (.cells (writeAt cs off vs) false es), ?_, hh.put hg⟩
      unfold writeCells
      rw [hh.le _ _ hg]
      simp only [hb, cond_true]
  · cases e
theorem putCells_mono {a : Option Addr} {off : Nat} {vs : List Value} {h' : Heap} (hh : HLe h H) (e : putCells h a off vs = some h') : ∃ H', putCells H a off vs = some H' ∧ HLe h' H' ∧ Stp No h H h' H' := by
  cases a with
  | none => cases e; exact ⟨H, rfl, hh, .refl⟩
  | some p => exact writeCells_mono hh e
theorem letGo_mono {p : Addr} {c es : Nat} {h' : Heap} (hh : HLe h H) (e : letGo h p c es = some h') : ∃ H', letGo H p c es = some H' ∧ HLe h' H' ∧ Stp No h H h' H' := by
  unfold letGo at e ⊢
  cases hs : p.spot with
  | some s => rw [hs] at e; cases e; exact ⟨H, rfl, hh, .refl⟩
  | none =>
    rw [hs] at e
    simp only at e ⊢
    split at e
    · rename_i cs es' hg
      cases hb : Nat.beq es' es && Nat.ble (p.off + c * es) cs.length with
      | false => rw [hb] at e; cases e
      | true =>
        rw [hb] at e
        simp only [cond_true, Option.some.injEq] at e
        subst e
        refine ⟨H.drop p.block, ?_, hh.drop hg⟩
        rw [hh.le _ _ hg]
        simp only [hb, cond_true]
    · cases e
theorem growCells_mono {a : Option Addr} {n m c es : Nat} {new : List Value} {v : Value} {h' : Heap} (hh : HLe h H) (e : growCells h a n m c es new = some (v, h')) : ∃ H', growCells H a n m c es new = some (v, H') ∧ HLe h' H' ∧ Stp No h H h' H' := by
  cases a with
  | none =>
    simp only [growCells, Option.some.injEq, Prod.mk.injEq] at e ⊢
    obtain ⟨rfl, rfl⟩ := e
    exact ⟨_, ⟨by rw [hh.nx], rfl⟩, hh.new _⟩
  | some p =>
    simp only [growCells] at e ⊢
    obtain ⟨old, e1, e⟩ := Option.bind_eq_some_iff.1 e
    obtain ⟨h1, e2, e⟩ := Option.map_eq_some_iff.1 e
    simp only [Prod.mk.injEq] at e
    obtain ⟨rfl, rfl⟩ := e
    obtain ⟨H1, g1, g2, g3⟩ := letGo_mono hh e2
    obtain ⟨g4, g5⟩ := g2.new (.cells (old ++ new) false es)
    refine ⟨_, ?_, g4, g3.trans g5⟩
    rw [readCells_mono hh e1]
    simp only [Option.bind_some, g1, Option.map_some, hh.nx]
theorem appendL_mono {bytes es : Nat} {a : Option Addr} {n c m : Nat} {new : List Value} {v : Value} {h' : Heap} (hh : HLe h H) (e : appendL h bytes es a n c m new = some (v, h')) : ∃ H', appendL H bytes es a n c m new = some (v, H') ∧ HLe h' H' ∧ Stp No h H h' H' := by
  unfold appendL at e ⊢
  cases h1 : Nat.ble ((n + m) * bytes) 140737488355328 with
  | false => rw [h1] at e; cases e
  | true =>
    rw [h1] at e
    simp only [cond_true] at e ⊢
    cases h2 : Nat.ble (n + m) c with
    | false => rw [h2] at e; exact growCells_mono hh e
    | true =>
      rw [h2] at e
      simp only [cond_true] at e ⊢
      obtain ⟨h1, e1, e⟩ := Option.map_eq_some_iff.1 e
      simp only [Prod.mk.injEq] at e
      obtain ⟨rfl, rfl⟩ := e
      obtain ⟨H1, g1, g2, g3⟩ := putCells_mono hh e1
      exact ⟨H1, by rw [g1]; rfl, g2, g3⟩
end
/- operations look at their operands alone -/
theorem aop_congr {ev ev' : Operand → Value} {H : Heap} {op : AOp} (h : ∀ x ∈ opds op, ev x = ev' x) : aop ev H op = aop ev' H op := by
  have hl : ∀ xs : List Operand, (∀ x ∈ xs, ev x = ev' x) → xs.map ev = xs.map ev' := fun xs hx => List.map_congr_left hx
  have hp : ∀ ps : List (Nat × Nat × Operand), (∀ x ∈ ps.map (·.2.2), ev x = ev' x) → ps.map (fun p => (p.1, p.2.1, ev p.2.2)) = ps.map (fun p => (p.1, p.2.1, ev' p.2.2)) := by
    intro ps hx
    refine List.map_congr_left fun p hp => ?_
    rw [hx _ (List.mem_map.2 ⟨p, hp, rfl⟩)]
  have ho : ∀ o : Option Operand, (∀ x ∈ o.toList, ev x = ev' x) → o.map ev = o.map ev' := by
    intro o hx
    cases o with
    | none => rfl
    | some x => simp [hx x (by simp)]
  cases op with
  | build zs ps => simp only [opds] at h; simp only [aop, hp ps h]
  | buildSlice n es zs ps => simp only [opds] at h; simp only [aop, hp ps h]
  | minmax b xs => simp only [opds] at h; simp only [aop, hl xs h]
  | makeFunc f a c =>
    simp only [opds] at h
    simp only [aop, hl a fun x hx => h x (List.mem_append_left _ hx), hl c fun x hx => h x (List.mem_append_right _ hx)]
  | slice es x lo hi mx =>
    simp only [opds] at h
    simp only [aop, h x (List.mem_cons_self ..), ho lo fun y hy => h y (by simp_all), ho hi fun y hy => h y (by simp_all), ho mx fun y hy => h y (by simp_all)]
  | sliceArr n es x lo hi mx =>
    simp only [opds] at h
    simp only [aop, h x (List.mem_cons_self ..), ho lo fun y hy => h y (by simp_all), ho hi fun y hy => h y (by simp_all)]
  | call f args => rfl
  | callv f args => rfl
  | _ => simp [opds] at h; simp only [aop, h]
section
variable {h H : Heap}
theorem HLe.clr (hh : HLe h H) : HLe { h with sh := [] } { H with sh := [] } ∧ Stp No h H { h with sh := [] } { H with sh := [] } :=
  ⟨⟨hh.nx, hh.le, rfl⟩, Nat.le_refl _, fun _ _ h => h, fun _ _ _ _ => rfl⟩
theorem grow_read {bytes es n c m : Nat} {a : Option Addr} {new : List Value} {r : Value × Heap} (e : appendL h bytes es a n c m new = some r) (hb : Nat.ble (n + m) c = false) : ∀ p, a = some p → ∃ old, readCells h p.block p.off (n * es) = some old := by
  rintro p rfl
  unfold appendL at e
  cases h1 : Nat.ble ((n + m) * bytes) 140737488355328 with
  | false => rw [h1] at e; cases e
  | true =>
    rw [h1, hb] at e
    simp only [cond_true, cond_false, growCells] at e
    obtain ⟨old, h5, _⟩ := Option.bind_eq_some_iff.1 e
    exact ⟨old, h5⟩
theorem noteS_mono {h1 H1 : Heap} {a : Option Addr} {n c m es : Nat} (hh : HLe h H) (h2 : HLe h1 H1) (hs : Stp No h H h1 H1) (hok : Nat.ble (n + m) c = false → ∀ p, a = some p → ∃ old, readCells h p.block p.off (n * es) = some old) : HLe (noteS h h1 a n c m es) (noteS H H1 a n c m es) ∧ Stp No h H (noteS h h1 a n c m es) (noteS H H1 a n c m es) := by
  unfold noteS
  split
  · rename_i r off
    cases hb : Nat.ble (n + m) c with
    | true => exact ⟨h2, hs⟩
    | false =>
      simp only [cond_false]
      obtain ⟨old, ho⟩ := hok hb _ rfl
      have ho : readCells h r off (n * es) = some old := ho
      rw [ho, readCells_mono hh ho]
      simp only
      refine ⟨⟨h2.nx, h2.le, ?_⟩, hs.nx, hs.dead, hs.keep⟩
      show _ :: h1.sh = _ :: H1.sh
      rw [h2.sh, hh.nx]
  · exact ⟨h2, hs⟩
end
end Go.Proofs.YtdlfdieehioolaaDoor
