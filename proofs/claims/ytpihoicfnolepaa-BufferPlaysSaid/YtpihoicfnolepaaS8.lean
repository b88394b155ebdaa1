/- Hidden and only looked at: several blocks at once. -/
import Derived.Test.YtpihoicfnolepaaS7
namespace Go.Proofs.Ytpihoicfnolepaa
open Go
set_option linter.unusedVariables false
set_option linter.unusedSimpArgs false
theorem append_at {h h' : Heap} {bytes es n c k c' : Nat} {a : Option Addr} {y : Value} {q : Addr} (e : appendK h bytes es (.slice a n c) y = some (.slice (some q) k c', h')) : (∃ p, a = some p ∧ q.block = p.block) ∨ q.block = h.next := by
  cases y with
  | slice b m c2 =>
    simp only [appendK] at e
    cases hs : srcCells h b (m * es) with
    | none => rw [hs] at e; cases e
    | some new =>
      rw [hs] at e
      simp only [Option.bind_some, appendL, Bool.cond_eq_ite] at e
      split at e
      · split at e
        · cases hp : putCells h a (n * es) new with
          | none => rw [hp] at e; cases e
          | some h2 => rw [hp] at e; cases e; exact .inl ⟨q, rfl, rfl⟩
        · unfold growCells at e
          split at e
          · cases e; exact .inr rfl
          · rename_i p
            cases h1 : readCells h p.block p.off (n * es) with
            | none => rw [h1] at e; cases e
            | some old =>
              cases h2 : letGo h p c es with
              | none => rw [h1, h2] at e; cases e
              | some h3 => rw [h1, h2] at e; cases e; exact .inr rfl
      · cases e
  | _ => simp [appendK] at e
theorem append_next {h h' : Heap} {bytes es : Nat} {s y s' : Value} (e : appendK h bytes es s y = some (s', h')) : h.next ≤ h'.next := by
  cases s with
  | slice a n c =>
    cases y with
    | slice b m c2 =>
      simp only [appendK] at e
      cases hs : srcCells h b (m * es) with
      | none => rw [hs] at e; cases e
      | some new =>
        rw [hs] at e
        simp only [Option.bind_some, appendL, Bool.cond_eq_ite] at e
        split at e
        · split at e
          · unfold putCells at e
            split at e
            · cases e; exact Nat.le_refl _
            · unfold writeCells at e
              split at e
              · simp only [Bool.cond_eq_ite] at e
                split at e
                · cases e; exact Nat.le_refl _
                · cases e
              · cases e
          · unfold growCells at e
            split at e
            · cases e; exact Nat.le_succ _
            · rename_i p
              cases h1 : readCells h p.block p.off (n * es) with
              | none => rw [h1] at e; cases e
              | some old =>
                cases h2 : letGo h p c es with
                | none => rw [h1, h2] at e; cases e
                | some h3 =>
                  rw [h1, h2] at e; cases e
                  have : h3.next = h.next := by
                    unfold letGo at h2
                    split at h2
                    · cases h2; rfl
                    · split at h2
                      · simp only [Bool.cond_eq_ite] at h2
                        split at h2
                        · cases h2; rfl
                        · cases h2
                      · cases h2
                  show h.next ≤ h3.next + 1
                  omega
        · cases e
    | _ => simp [appendK] at e
  | _ => simp [appendK] at e
theorem Slc.at_keys {es n : Nat} {s : Value} {cs : List Value} {A : Ch} (hs : Slc es s n cs A) : ∀ x ∈ A, ∃ q k c, s = .slice (some q) k c ∧ x.1 = q.block := by
  cases hs with
  | nil => intro x hx; cases hx
  | mk hp hl hr => intro x hx; rw [List.mem_singleton.1 hx]; exact ⟨_, _, _, rfl, rfl⟩
theorem Slc.pre' {b off k m c : Nat} {sp : Option Nat} {cs : List Value} {A : Ch} (hs : Slc 1 (.slice (some ⟨b, off, sp⟩) m c) m cs A) (hk : k ≤ m) : Slc 1 (.slice (some ⟨b, off, sp⟩) k c) k (cs.take k) A := by
  cases hs with
  | @mk _ _ _ _ _ pre _ rest hp hl hr =>
    have e : pre ++ (cs ++ rest) = pre ++ (cs.take k ++ (cs.drop k ++ rest)) := by rw [← List.append_assoc (cs.take k), List.take_append_drop]
    rw [e]
    exact .mk hp (by rw [List.length_take]; omega) (by simp; omega)
section
variable {h h' h0 : Heap} {b r es : Nat} {o : AObj} {cs : List Value} {q : Bool} {F X : Ch}
theorem Own.roD (ho : Own h ((b, o) :: (r, .cells cs q es) :: F)) : Own (hid h [b] [r]) ((r, .cells cs true es) :: F) := by
  have h1 := ho.drop
  have := h1.ro
  exact this
theorem Own.backD (ho : Own h ((r, .cells cs true es) :: X)) (g1 : h0.get r = some (.cells cs q es)) (g2 : h0.get b = some o) (hb : b < h.next) (hbr : b ≠ r) (hX : ∀ x ∈ X, x.1 ≠ b) : Own (h.putBack h0 ([b] ++ [r])) ((b, o) :: (r, .cells cs q es) :: X) := by
  have h1 := Own.back (h0 := h0) ho g1
  refine Own.cons (h1.keep (fun x hx => ?_) (by rw [Heap.next_putBack, Heap.next_putBack]; exact Nat.le_refl _)) ?_ ?_ ?_
  · rw [Heap.get_putBack, Heap.get_putBack]
    have hxb : x.1 ≠ b := by
      rcases List.mem_cons.1 hx with rfl | hx
      · exact fun e => hbr e.symm
      · exact hX x hx
    simp only [List.cons_append, List.nil_append, List.mem_cons, List.not_mem_nil, or_false, hxb, false_or]
  · rw [Heap.get_putBack, if_pos (by simp)]; exact g2
  · rw [Heap.next_putBack]; exact hb
  · intro y hy
    rcases List.mem_cons.1 hy with rfl | hy
    · exact fun e => hbr e.symm
    · exact hX y hy
end
def roA : Nat × AObj → Nat × AObj
  | (b, .cells cs _ es) => (b, .cells cs true es)
  | x => x
theorem roA_fst {x : Nat × AObj} : (roA x).1 = x.1 := by
  obtain ⟨b, o⟩ := x
  cases o <;> rfl
section
variable {h h' h0 : Heap} {A F X : Ch} {l : List Nat}
theorem Own.roL (ho : Own h (A ++ F)) (hl : ∀ r, r ∈ l ↔ ∃ x ∈ A, x.1 = r) (hc : ∀ x ∈ A, ∃ cs q es, x.2 = .cells cs q es) : Own (hid h [] l) (A.map roA ++ F) := by
  refine ⟨fun x hx => ?_, ?_, fun x hx => ?_⟩
  · rcases List.mem_append.1 hx with hx | hx
    · obtain ⟨y, hy, rfl⟩ := List.mem_map.1 hx
      rw [roA_fst, get_hid, if_pos ((hl _).2 ⟨y, hy, rfl⟩)]
      have := ho.get y (List.mem_append_left _ hy)
      obtain ⟨cs, q, es, e⟩ := hc y hy
      obtain ⟨b, o⟩ := y
      simp only at e
      subst e
      rw [if_neg List.not_mem_nil, this]; rfl
    · rw [get_hid, if_neg (fun hm => by
        obtain ⟨y, hy, e⟩ := (hl _).1 hm
        exact ho.apart hy hx e), if_neg List.not_mem_nil]
      exact ho.get x (List.mem_append_right _ hx)
  · have := ho.nodup
    rw [List.map_append, List.map_map]
    rw [List.map_append] at this
    have e : (A.map ((fun x => x.1) ∘ roA)) = A.map (·.1) := List.map_congr_left fun x _ => roA_fst
    rwa [e]
  · rw [next_hid]
    rcases List.mem_append.1 hx with hx | hx
    · obtain ⟨y, hy, rfl⟩ := List.mem_map.1 hx
      rw [roA_fst]; exact ho.lt y (List.mem_append_left _ hy)
    · exact ho.lt x (List.mem_append_right _ hx)
theorem Own.backL (ho : Own h (A.map roA ++ X)) (hl : ∀ r, r ∈ l ↔ ∃ x ∈ A, x.1 = r) (hg : ∀ x ∈ A, h0.get x.1 = some x.2) : Own (h.putBack h0 l) (A ++ X) := by
  refine ⟨fun x hx => ?_, ?_, fun x hx => ?_⟩
  · rw [Heap.get_putBack]
    rcases List.mem_append.1 hx with hx | hx
    · rw [if_pos ((hl _).2 ⟨x, hx, rfl⟩)]; exact hg x hx
    · rw [if_neg (fun hm => by
        obtain ⟨y, hy, e⟩ := (hl _).1 hm
        exact ho.apart (List.mem_map_of_mem hy) hx (by rw [roA_fst]; exact e))]
      exact ho.get x (List.mem_append_right _ hx)
  · have := ho.nodup
    rw [List.map_append, List.map_map] at this
    rw [List.map_append]
    have e : (A.map ((fun x => x.1) ∘ roA)) = A.map (·.1) := List.map_congr_left fun x _ => roA_fst
    rwa [e] at this
  · rw [Heap.next_putBack]
    rcases List.mem_append.1 hx with hx | hx
    · have := ho.lt (roA x) (List.mem_append_left _ (List.mem_map_of_mem hx))
      rwa [roA_fst] at this
    · exact ho.lt x (List.mem_append_right _ hx)
end
section
variable {n : Nat} {A F : Ch} {h : Heap} {s : Value} {cs : List Value}
theorem hid_str (hs : Slc 1 s n cs A) (ho : Own h (A ++ F)) : ∃ A1, Own (hid h [] (strReads s ++ [])) (A1 ++ F) ∧ ∀ (h' : Heap) (X : Ch), Own h' (A1 ++ X) → Own (h'.putBack h ([] ++ (strReads s ++ []))) (A ++ X) := by
  cases hs with
  | nil =>
    refine ⟨[], ho.keep (fun x hx => ?_) (by rw [next_hid]; exact Nat.le_refl _), fun h' X o => o.keep (fun x hx => ?_) (by rw [Heap.next_putBack]; exact Nat.le_refl _)⟩
    · rw [get_hid, if_neg (by simp [strReads])]; simp
    · rw [Heap.get_putBack, if_neg (by simp [strReads])]
  | @mk b off sp _ c pre _ rest hp hl hr =>
    exact ⟨[(b, .cells (pre ++ (cs ++ rest)) true 1)], Own.ro (F := F) ho, fun h' X o => Own.back (X := X) o ho.head⟩
theorem Slc.reads (hs : Slc 1 s n cs A) (r : Nat) : (r ∈ strReads s ↔ ∃ x ∈ A, x.1 = r) ∧ ∀ x ∈ A, ∃ cs q es, x.2 = .cells cs q es := by
  cases hs with
  | nil => simp [strReads]
  | mk hp hl hr =>
    refine ⟨?_, fun x hx => by rw [List.mem_singleton.1 hx]; exact ⟨_, _, _, rfl⟩⟩
    simp only [strReads_slice, List.mem_singleton]
    constructor
    · rintro rfl; exact ⟨_, rfl, rfl⟩
    · rintro ⟨x, rfl, rfl⟩; rfl
end
theorem mem_blk {r b : Nat} {o : AObj} {A : Ch} : (∃ x ∈ (b, o) :: A, x.1 = r) ↔ r = b ∨ ∃ x ∈ A, x.1 = r := by
  constructor
  · rintro ⟨x, hx, rfl⟩
    rcases List.mem_cons.1 hx with rfl | hx
    · exact .inl rfl
    · exact .inr ⟨x, hx, rfl⟩
  · rintro (rfl | ⟨x, hx, rfl⟩)
    · exact ⟨_, List.mem_cons_self .., rfl⟩
    · exact ⟨x, List.mem_cons_of_mem _ hx, rfl⟩
theorem which_ok (z : Int) : ∃ w : Nat, w < 2 ∧ Int.tmod (IntKind.i64.wrap (Int.tmod z 2 + 2)) 2 = (w : Int) ∧ IntKind.i64.wrap (1 - (w : Int)) = ((1 - w : Nat) : Int) := by
  have : Int.tmod z 2 = -1 ∨ Int.tmod z 2 = 0 ∨ Int.tmod z 2 = 1 := by
    by_cases h0 : 0 ≤ z
    · rw [Int.tmod_eq_emod_of_nonneg h0]; omega
    · obtain ⟨m, rfl⟩ : ∃ m, z = -m := ⟨-z, by omega⟩
      rw [Int.neg_tmod, Int.tmod_eq_emod_of_nonneg (by omega)]; omega
  rcases this with e | e | e <;> rw [e]
  · exact ⟨1, by decide, rfl, rfl⟩
  · exact ⟨0, by decide, rfl, rfl⟩
  · exact ⟨1, by decide, rfl, rfl⟩
theorem fill0 : fillL [] [] = some [] := rfl
theorem fill1 {d u : Value} (h1 : cellsOf u = [u]) (h2 : isCell u = true) : fillL [d] [(0, 1, u)] = some [u] := by
  simp [fillL, h1, h2, writeAt]; rfl
theorem sow_cell {es m : Nat} {s : Value} {cs : List Value} {G F : Ch} {h : Heap} (hs : Sow es s m cs G) (ho : Own h (G ++ F)) : isCell s = true := by
  obtain ⟨a, c, rfl⟩ := (hs.rds ho).form; rfl
theorem str_eql {h : Heap} {a b : ByteArray} (e : a = b) : binsT .bool h .eql (.string a) (.string b) = some true := by
  subst e
  simp [binsT, binsK, strOp, Ty.prj]
section
variable {n m : Nat} {A F : Ch} {h : Heap} {v : Value} {X : List Int} {c : Int}
theorem iz_set {k : IntKind} {L : List Int} {j : Nat} {z : Int} : (iz k L).set j (.int k z) = iz k (L.set j z) := by simp [iz, List.map_set]
/-- A loop that writes into every place. -/
theorem fills_ok {kk : IntKind} {cc : Nat → Int} {R : Type} {f : (Int × Unit) × Heap → Option (((Int × Unit) × Heap) ⊕ (R × Heap))} {r : R} (hv : Slc 1 v m (iz kk X) A) (ho : Own h (A ++ F))
    (hf : ∀ (k : Nat) (h1 h2 : Heap) (q : Addr), k < m → ixB 1 v (k : Int) = some q → stB 1 (.int kk (cc k)) h1 (some q) = some h2 → f (((k : Int), ()), h1) = some (.inl ((IntKind.i64.wrap ((k : Int) + 1), ()), h2)))
    (hz : ∀ h1, f (((m : Int), ()), h1) = some (.inr (r, h1))) (hm : m < 4611686018427387904) (hn : m + 1 ≤ n) :
    ∃ h' A', loopT f n (((0 : Int), ()), h) = some (r, h') ∧ Own h' (A' ++ F) := by
  obtain ⟨⟨x, h'⟩, e, q0, X', A', q1, q2⟩ := loopT_up (f := f)
    (fun k (a : (Int × Unit) × Heap) => a.1 = ((k : Int), ()) ∧ ∃ X' A', Slc 1 v m (iz kk X') A' ∧ Own a.2 (A' ++ F))
    (fun x => x.1 = r ∧ ∃ X' A', Slc 1 v m (iz kk X') A' ∧ Own x.2 (A' ++ F)) (N := m) (k := n) (j := 0) (a := ((0, ()), h)) (by omega) (by omega)
    ⟨rfl, X, A, hv, ho⟩
    (fun k a hk hi => by
      obtain ⟨⟨v0, _⟩, h1⟩ := a
      obtain ⟨e0, X1, A1, hs1, o1⟩ := hi
      cases e0
      obtain ⟨q, h2, A2, g1, g2, g3, o2⟩ := slc_set1 hs1 o1 hk (v := .int kk (cc k)) rfl rfl
      rw [iz_set] at g3
      refine .inl ⟨_, hf k h1 h2 q hk g1 g2, ?_, _, A2, g3, o2⟩
      rw [wrap_succ (show k < 4611686018427387904 by omega)])
    (fun a hi => by
      obtain ⟨⟨v0, _⟩, h1⟩ := a
      obtain ⟨e0, X1, A1, hs1, o1⟩ := hi
      cases e0
      exact ⟨_, hz h1, rfl, X1, A1, hs1, o1⟩)
  have q0 : x = r := q0
  subst q0
  exact ⟨h', A', e, q2⟩
end
section
variable {h h' h0 : Heap} {A D R F X Y : Ch} {l1 l2 : List Nat} {es n m : Nat} {s y : Value} {cs new : List Value}
/-- Some blocks hidden, some only to be looked at. -/
theorem Own.roDL (ho : Own h (D ++ (R ++ F))) (hl1 : ∀ r, r ∈ l1 ↔ ∃ x ∈ D, x.1 = r) (hl2 : ∀ r, r ∈ l2 ↔ ∃ x ∈ R, x.1 = r) (hc : ∀ x ∈ R, ∃ cs q es, x.2 = .cells cs q es) : Own (hid h l1 l2) (R.map roA ++ F) := by
  have o1 : Own (h.dropAll l1) (R ++ F) := ho.right.keep (fun x hx => by
    rw [Heap.get_dropAll, if_neg (fun hm => by
      obtain ⟨y, hy, e⟩ := (hl1 _).1 hm
      exact ho.apart hy hx e)]) (by rw [Heap.next_dropAll]; exact Nat.le_refl _)
  exact Own.roL o1 hl2 hc
theorem Own.backDL (ho : Own h (R.map roA ++ X)) (h0o : Own h0 (D ++ R)) (hl1 : ∀ r, r ∈ l1 ↔ ∃ x ∈ D, x.1 = r) (hl2 : ∀ r, r ∈ l2 ↔ ∃ x ∈ R, x.1 = r) (hlt : ∀ x ∈ D, x.1 < h.next) (hX : ∀ x ∈ D, ∀ y ∈ X, x.1 ≠ y.1) : Own (h.putBack h0 (l1 ++ l2)) (D ++ (R ++ X)) := by
  refine ⟨fun x hx => ?_, ?_, fun x hx => ?_⟩
  · rw [Heap.get_putBack]
    rcases List.mem_append.1 hx with hx | hx
    · rw [if_pos (List.mem_append_left _ ((hl1 _).2 ⟨x, hx, rfl⟩))]; exact h0o.get x (List.mem_append_left _ hx)
    · rcases List.mem_append.1 hx with hx | hx
      · rw [if_pos (List.mem_append_right _ ((hl2 _).2 ⟨x, hx, rfl⟩))]; exact h0o.get x (List.mem_append_right _ hx)
      · rw [if_neg (fun hm => by
          rcases List.mem_append.1 hm with hm | hm
          · obtain ⟨y, hy, e⟩ := (hl1 _).1 hm
            exact hX y hy x hx e
          · obtain ⟨y, hy, e⟩ := (hl2 _).1 hm
            exact ho.apart (List.mem_map_of_mem hy) hx (by rw [roA_fst]; exact e))]
        exact ho.get x (List.mem_append_right _ hx)
  · have h1 := h0o.nodup
    have h2 := ho.nodup
    have e : (R.map ((fun x => x.1) ∘ roA)) = R.map (·.1) := List.map_congr_left fun x _ => roA_fst
    rw [List.map_append, List.map_map, e] at h2
    rw [List.map_append] at h1
    rw [List.map_append, List.map_append]
    obtain ⟨a1, a2, a3⟩ := List.nodup_append.1 h1
    refine List.nodup_append.2 ⟨a1, h2, fun x hx y hy => ?_⟩
    rcases List.mem_append.1 hy with hy | hy
    · exact a3 x hx y hy
    · obtain ⟨x', hx', rfl⟩ := List.mem_map.1 hx
      obtain ⟨y', hy', rfl⟩ := List.mem_map.1 hy
      exact hX x' hx' y' hy'
  · rw [Heap.next_putBack]
    rcases List.mem_append.1 hx with hx | hx
    · exact hlt x hx
    · rcases List.mem_append.1 hx with hx | hx
      · have := ho.lt (roA x) (List.mem_append_left _ (List.mem_map_of_mem hx))
        rwa [roA_fst] at this
      · exact ho.lt x (List.mem_append_right _ hx)
/-- 'append(s, y..)', while some blocks are hidden and some are only to be looked at. -/
theorem Slc.appH (hs : Slc es s n cs A) (hy : Sow es y m new Y) (ho : Own h (D ++ (R ++ (A ++ (Y ++ F))))) (hl1 : ∀ r, r ∈ l1 ↔ ∃ x ∈ D, x.1 = r) (hl2 : ∀ r, r ∈ l2 ↔ ∃ x ∈ R, x.1 = r) (hc : ∀ x ∈ R, ∃ cs q es, x.2 = .cells cs q es)
    (hes : 1 ≤ es) {bytes : Nat} (hb : (n + m) * bytes ≤ 140737488355328) :
    ∃ s' h' A', appendK (hid h l1 l2) bytes es s y = some (s', h') ∧ Slc es s' (n + m) (cs ++ new) A' ∧ Own (h'.putBack h (l1 ++ l2)) (D ++ (R ++ (A' ++ (Y ++ F)))) := by
  have o1 := ho.roDL hl1 hl2 hc
  obtain ⟨s', h', A', e1, a1, o2⟩ := hy.app hs (h := hid h l1 l2) (F := R.map roA ++ F) (o1.to fun x => by simp only [cnt_append]; omega) hes hb
  have hnx : (hid h l1 l2).next = h.next := next_hid
  have hle := append_next e1
  rw [hnx] at hle
  refine ⟨s', h', A', e1, a1, Own.backDL (o2.to fun x => by simp only [cnt_append]; omega) (ho.to fun x => by simp only [cnt_append]; omega) hl1 hl2 (fun x hx => Nat.lt_of_lt_of_le (ho.lt x (List.mem_append_left _ hx)) hle) fun x hx z hz => ?_⟩
  rcases List.mem_append.1 hz with hz | hz
  · obtain ⟨q, k, c, rfl, e⟩ := a1.at_keys z hz
    rw [e]
    have hlt := ho.lt x (List.mem_append_left _ hx)
    obtain ⟨a, c0, rfl⟩ := hs.form
    rcases append_at e1 with ⟨p, hp, e'⟩ | e'
    · subst hp
      rw [e']
      cases hs with
      | mk hp hl hr =>
        have := ho.apart (x := x) hx (List.mem_append_right _ (List.mem_append_left _ (List.mem_cons_self ..)))
        exact this
    · rw [e', hnx]; omega
  · exact ho.apart hx (List.mem_append_right _ (List.mem_append_right _ hz))
end
theorem loopT_go {A B : Type} {f : A → Option (A ⊕ B)} {k : Nat} {a a' : A} (e : f a = some (.inl a')) : loopT f (k + 1) a = loopT f k a' := by simp only [loopT, e]
theorem loopT_end {A B : Type} {f : A → Option (A ⊕ B)} {k : Nat} {a : A} {b : B} (e : f a = some (.inr b)) : loopT f (k + 1) a = some b := by simp only [loopT, e]
end Go.Proofs.Ytpihoicfnolepaa
