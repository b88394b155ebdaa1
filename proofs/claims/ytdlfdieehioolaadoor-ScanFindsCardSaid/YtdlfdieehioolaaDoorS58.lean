import Derived.Test.YtdlfdieehioolaaDoorS4
/- Lists that are kept while what they came from goes on by append. -/
namespace Go.Proofs.YtdlfdieehioolaaDoor
open Go
set_option linter.unusedVariables false
set_option linter.unusedSimpArgs false
abbrev Shs := List (Nat × Nat × List Value × Nat)
def ShD (h : Heap) : Prop := ∀ e ∈ h.sh, h.get e.1 = none ∧ e.1 < h.next
theorem ShD.keep {h h' : Heap} (hd : ShD h) (hs : h'.sh = h.sh) (hg : ∀ r, r < h.next → h.get r = none → h'.get r = none) (hn : h.next ≤ h'.next) : ShD h' := fun e he => by
  rw [hs] at he
  obtain ⟨h1, h2⟩ := hd e he
  exact ⟨hg _ h2 h1, Nat.lt_of_lt_of_le h2 hn⟩
theorem shFind_cons {b r : Nat} {e : Nat × List Value × Nat} {sh : Shs} (h : r ≠ b) : shFind r ((b, e) :: sh) = shFind r sh := by
  simp only [shFind]
  have : Nat.beq b r = false := by
    cases hb : Nat.beq b r with
    | false => rfl
    | true => exact absurd (Nat.eq_of_beq_eq_true hb).symm h
  rw [this]; rfl
inductive Cn (sh : Shs) : Nat → Nat → Nat → List Value → Nat → Nat → Nat → Prop
  | live {r off k : Nat} {xs : List Value} (h : shFind r sh = none) : Cn sh r off k xs r off 0
  | hop {r off k : Nat} {xs : List Value} {base : Nat} {old : List Value} {r' R o d : Nat} (h : shFind r sh = some (base, old, r')) (hb : base ≤ off) (hl : off - base + k ≤ old.length) (hx : (old.drop (off - base)).take k = xs)
      (next : Cn sh r' (off - base) k xs R o d) : Cn sh r off k xs R o (d + 1)
section
variable {sh : Shs} {r off k R o d : Nat} {xs : List Value}
theorem Cn.cons {b : Nat} {e : Nat × List Value × Nat} (hb : shFind b sh = none) (h : Cn sh r off k xs R o d) (hR : R ≠ b) : Cn ((b, e) :: sh) r off k xs R o d := by
  induction h with
  | live h => exact .live (by rw [shFind_cons hR]; exact h)
  | hop h hb' hl hx next ih => exact .hop (by rw [shFind_cons (fun e1 => by rw [e1, hb] at h; cases h)]; exact h) hb' hl hx (ih hR)
end
structure Kp (es : Nat) (sh : Shs) (L : Ch) (x : Value) (k : Nat) (xs : List Value) : Prop where
  form : ∃ a c, x = .slice a k c
  len : xs.length = k * es
  at' : k = 0 ∨ ∃ r off sp c R o d ys ro e, x = .slice (some ⟨r, off, sp⟩) k c ∧ Cn sh r off (k * es) xs R o d ∧ d ≤ sh.length ∧ (R, AObj.cells ys ro e) ∈ L ∧ o + k * es ≤ ys.length ∧ (ys.drop o).take (k * es) = xs
section
variable {es n m k : Nat} {s x y : Value} {cs new xs : List Value} {A F L L' : Ch} {h : Heap} {sh : Shs}
theorem Kp.mono (hk : Kp es sh L x k xs) (hm : ∀ z ∈ L, z ∈ L') : Kp es sh L' x k xs := ⟨hk.form, hk.len, hk.at'.imp id fun ⟨r, off, sp, c, R, o, d, ys, ro, e, h1, h2, h3, h4, h5⟩ => ⟨r, off, sp, c, R, o, d, ys, ro, e, h1, h2, h3, hm _ h4, h5⟩⟩
def ShX (F : Ch) (sh sh' : Shs) : Prop := sh.length ≤ sh'.length ∧ ∀ (r off k : Nat) (xs : List Value) (R o d : Nat), (∃ z ∈ F, z.1 = R) → Cn sh r off k xs R o d → Cn sh' r off k xs R o d
theorem ShX.trans {sh sh' sh'' : Shs} (h1 : ShX F sh sh') (h2 : ShX F sh' sh'') : ShX F sh sh'' := ⟨Nat.le_trans h1.1 h2.1, fun r off k xs R o d hz hc => h2.2 r off k xs R o d hz (h1.2 r off k xs R o d hz hc)⟩
theorem ShX.mono {sh sh' : Shs} {F' : Ch} (h1 : ShX F sh sh') (hm : ∀ z ∈ F', z ∈ F) : ShX F' sh sh' := ⟨h1.1, fun r off k xs R o d ⟨z, hz, e⟩ hc => h1.2 r off k xs R o d ⟨z, hm z hz, e⟩ hc⟩
end
end Go.Proofs.YtdlfdieehioolaaDoor
/- Lists that are marked, grown one by one, and looked at: none shares memory with another one. -/
namespace Go.Proofs.YtdlfdieehioolaaDoor
open Go
set_option linter.unusedVariables false
set_option linter.unusedSimpArgs false
def cw (a b : List Value) (m c : Nat) : List Value := (List.replicate m a).flatten ++ (List.replicate c b).flatten
structure Ax where
  v : Value
  m : Nat
  cs : List Value
  A : Ch
end Go.Proofs.YtdlfdieehioolaaDoor
/- Lists that are grown one by one, and looked at. -/
namespace Go.Proofs.YtdlfdieehioolaaDoor
open Go
set_option linter.unusedVariables false
set_option linter.unusedSimpArgs false
section
variable {es n m k c i N nl : Nat} {s v u x lg : Value} {cs a b vs lvs : List Value} {A D F U Lg : Ch} {h : Heap} {ks : List (Value × Nat)}
def cc (M g : Nat) : Nat := if g < 16 then g + 1 else M
end
structure Gp where
  vs : List Value
  G : Ch
structure Gpd (es M : Nat) (mk gr : Nat → List Value) (sh : Shs) (xs : List Ax) (gs : List Gp) (j : Nat) : Prop where
  len : gs.length = j
  vs : ∀ (i : Nat) (y : Gp), gs[i]? = some y → y.vs.length = 17
  g : ∀ (i : Nat) (y : Gp) (x : Ax), gs[i]? = some y → xs[i]? = some x → ∀ (k : Nat) (w : Value), y.vs[k]? = some w → Kp es sh y.G w (x.m + cc M k) (cw (mk i) (gr i) x.m (cc M k))
  k : ∀ (i : Nat) (y : Gp) (x : Ax), gs[i]? = some y → xs[i]? = some x → Kp es sh y.G x.v x.m (cw (mk i) (gr i) x.m 0)
end Go.Proofs.YtdlfdieehioolaaDoor
/- Hidden and only looked at: several blocks at once. -/
namespace Go.Proofs.YtdlfdieehioolaaDoor
open Go
set_option linter.unusedVariables false
set_option linter.unusedSimpArgs false
theorem append_at {h h' : Heap} {bytes es n c k c' : Nat} {a : Option Addr} {y : Value} {q : Addr} (e : appendK h bytes es (.slice a n c) y = some (.slice (some q) k c', h')) : (∃ p, a = some p ∧ q.block = p.block) ∨ q.block = h.next := by
  cases y with
  | slice b m c2 =>
    simp only [appendK] at e
    cases hs : srcCells h b (m * es) with
    | none => rw [hs] at e; cases e
    | some new =>
      rw [hs] at e
      simp only [Option.bind_some, appendL, Bool.cond_eq_ite] at e
      split at e
      · split at e
        · cases hp : putCells h a (n * es) new with
          | none => rw [hp] at e; cases e
          | some h2 => rw [hp] at e; cases e; exact .inl ⟨q, rfl, rfl⟩
        · unfold growCells at e
          split at e
          · cases e; exact .inr rfl
          · rename_i p
            cases h1 : readCells h p.block p.off (n * es) with
            | none => rw [h1] at e; cases e
            | some old =>
              cases h2 : letGo h p c es with
              | none => rw [h1, h2] at e; cases e
              | some h3 => rw [h1, h2] at e; cases e; exact .inr rfl
      · cases e
  | _ => simp [appendK] at e
theorem append_next {h h' : Heap} {bytes es : Nat} {s y s' : Value} (e : appendK h bytes es s y = some (s', h')) : h.next ≤ h'.next := by
  cases s with
  | slice a n c =>
    cases y with
    | slice b m c2 =>
      simp only [appendK] at e
      cases hs : srcCells h b (m * es) with
      | none => rw [hs] at e; cases e
      | some new =>
        rw [hs] at e
        simp only [Option.bind_some, appendL, Bool.cond_eq_ite] at e
        split at e
        · split at e
          · unfold putCells at e
            split at e
            · cases e; exact Nat.le_refl _
            · unfold writeCells at e
              split at e
              · simp only [Bool.cond_eq_ite] at e
                split at e
                · cases e; exact Nat.le_refl _
                · cases e
              · cases e
          · unfold growCells at e
            split at e
            · cases e; exact Nat.le_succ _
            · rename_i p
              cases h1 : readCells h p.block p.off (n * es) with
              | none => rw [h1] at e; cases e
              | some old =>
                cases h2 : letGo h p c es with
                | none => rw [h1, h2] at e; cases e
                | some h3 =>
                  rw [h1, h2] at e; cases e
                  have : h3.next = h.next := by
                    unfold letGo at h2
                    split at h2
                    · cases h2; rfl
                    · split at h2
                      · simp only [Bool.cond_eq_ite] at h2
                        split at h2
                        · cases h2; rfl
                        · cases h2
                      · cases h2
                  show h.next ≤ h3.next + 1
                  omega
        · cases e
    | _ => simp [appendK] at e
  | _ => simp [appendK] at e
theorem Slc.at_keys {es n : Nat} {s : Value} {cs : List Value} {A : Ch} (hs : Slc es s n cs A) : ∀ x ∈ A, ∃ q k c, s = .slice (some q) k c ∧ x.1 = q.block := by
  cases hs with
  | nil => intro x hx; cases hx
  | mk' hp hl hr => intro x hx; rw [List.mem_singleton.1 hx]; exact ⟨_, _, _, rfl, rfl⟩
def roA : Nat × AObj → Nat × AObj
  | (b, .cells cs _ es) => (b, .cells cs true es)
  | x => x
theorem roA_fst {x : Nat × AObj} : (roA x).1 = x.1 := by
  obtain ⟨b, o⟩ := x
  cases o <;> rfl
section
variable {h h' h0 : Heap} {A F X : Ch} {l : List Nat}
theorem Own.roL (ho : Own h (A ++ F)) (hl : ∀ r, r ∈ l ↔ ∃ x ∈ A, x.1 = r) (hc : ∀ x ∈ A, ∃ cs q es, x.2 = .cells cs q es) : Own (hid h [] l) (A.map roA ++ F) := by
  refine ⟨fun x hx => ?_, ?_, fun x hx => ?_⟩
  · rcases List.mem_append.1 hx with hx | hx
    · obtain ⟨y, hy, rfl⟩ := List.mem_map.1 hx
      rw [roA_fst, get_hid, if_pos ((hl _).2 ⟨y, hy, rfl⟩)]
      have := ho.get y (List.mem_append_left _ hy)
      obtain ⟨cs, q, es, e⟩ := hc y hy
      obtain ⟨b, o⟩ := y
      simp only at e
      subst e
      rw [if_neg List.not_mem_nil, this]; rfl
    · rw [get_hid, if_neg (fun hm => by
        obtain ⟨y, hy, e⟩ := (hl _).1 hm
        exact ho.apart hy hx e), if_neg List.not_mem_nil]
      exact ho.get x (List.mem_append_right _ hx)
  · have := ho.nodup
    rw [List.map_append, List.map_map]
    rw [List.map_append] at this
    have e : (A.map ((fun x => x.1) ∘ roA)) = A.map (·.1) := List.map_congr_left fun x _ => roA_fst
    rwa [e]
  · rw [next_hid]
    rcases List.mem_append.1 hx with hx | hx
    · obtain ⟨y, hy, rfl⟩ := List.mem_map.1 hx
      rw [roA_fst]; exact ho.lt y (List.mem_append_left _ hy)
    · exact ho.lt x (List.mem_append_right _ hx)
theorem Own.backL (ho : Own h (A.map roA ++ X)) (hl : ∀ r, r ∈ l ↔ ∃ x ∈ A, x.1 = r) (hg : ∀ x ∈ A, h0.get x.1 = some x.2) : Own (h.putBack h0 l) (A ++ X) := by
  refine ⟨fun x hx => ?_, ?_, fun x hx => ?_⟩
  · rw [Heap.get_putBack]
    rcases List.mem_append.1 hx with hx | hx
    · rw [if_pos ((hl _).2 ⟨x, hx, rfl⟩)]; exact hg x hx
    · rw [if_neg (fun hm => by
        obtain ⟨y, hy, e⟩ := (hl _).1 hm
        exact ho.apart (List.mem_map_of_mem hy) hx (by rw [roA_fst]; exact e))]
      exact ho.get x (List.mem_append_right _ hx)
  · have := ho.nodup
    rw [List.map_append, List.map_map] at this
    rw [List.map_append]
    have e : (A.map ((fun x => x.1) ∘ roA)) = A.map (·.1) := List.map_congr_left fun x _ => roA_fst
    rwa [e] at this
  · rw [Heap.next_putBack]
    rcases List.mem_append.1 hx with hx | hx
    · have := ho.lt (roA x) (List.mem_append_left _ (List.mem_map_of_mem hx))
      rwa [roA_fst] at this
    · exact ho.lt x (List.mem_append_right _ hx)
end
theorem str_eql {h : Heap} {a b : ByteArray} (e : a = b) : binsT .bool h .eql (.string a) (.string b) = some true := by
  subst e
  simp [binsT, binsK, strOp, Ty.prj]
section
variable {n m : Nat} {A F : Ch} {h : Heap} {v : Value} {X : List Int} {c : Int}
theorem iz_set {k : IntKind} {L : List Int} {j : Nat} {z : Int} : (iz k L).set j (.int k z) = iz k (L.set j z) := by simp [iz, List.map_set]
end
section
variable {h h' h0 : Heap} {A D R F X Y : Ch} {l1 l2 : List Nat} {es n m : Nat} {s y : Value} {cs new : List Value}
theorem Own.roDL (ho : Own h (D ++ (R ++ F))) (hl1 : ∀ r, r ∈ l1 ↔ ∃ x ∈ D, x.1 = r) (hl2 : ∀ r, r ∈ l2 ↔ ∃ x ∈ R, x.1 = r) (hc : ∀ x ∈ R, ∃ cs q es, x.2 = .cells cs q es) : Own (hid h l1 l2) (R.map roA ++ F) := by
  have o1 : Own (h.dropAll l1) (R ++ F) := ho.right.keep (fun x hx => by
    rw [Heap.get_dropAll, if_neg (fun hm => by
      obtain ⟨y, hy, e⟩ := (hl1 _).1 hm
      exact ho.apart hy hx e)]) (by rw [Heap.next_dropAll]; exact Nat.le_refl _)
  exact Own.roL o1 hl2 hc
theorem Own.backDL (ho : Own h (R.map roA ++ X)) (h0o : Own h0 (D ++ R)) (hl1 : ∀ r, r ∈ l1 ↔ ∃ x ∈ D, x.1 = r) (hl2 : ∀ r, r ∈ l2 ↔ ∃ x ∈ R, x.1 = r) (hlt : ∀ x ∈ D, x.1 < h.next) (hX : ∀ x ∈ D, ∀ y ∈ X, x.1 ≠ y.1) : Own (h.putBack h0 (l1 ++ l2)) (D ++ (R ++ X)) := by
  refine ⟨fun x hx => ?_, ?_, fun x hx => ?_⟩
  · rw [Heap.get_putBack]
    rcases List.mem_append.1 hx with hx | hx
    · rw [if_pos (List.mem_append_left _ ((hl1 _).2 ⟨x, hx, rfl⟩))]; exact h0o.get x (List.mem_append_left _ hx)
    · rcases List.mem_append.1 hx with hx | hx
      · rw [if_pos (List.mem_append_right _ ((hl2 _).2 ⟨x, hx, rfl⟩))]; exact h0o.get x (List.mem_append_right _ hx)
      · rw [if_neg (fun hm => by
          rcases List.mem_append.1 hm with hm | hm
          · obtain ⟨y, hy, e⟩ := (hl1 _).1 hm
            exact hX y hy x hx e
          · obtain ⟨y, hy, e⟩ := (hl2 _).1 hm
            exact ho.apart (List.mem_map_of_mem hy) hx (by rw [roA_fst]; exact e))]
        exact ho.get x (List.mem_append_right _ hx)
  · have h1 := h0o.nodup
    have h2 := ho.nodup
    have e : (R.map ((fun x => x.1) ∘ roA)) = R.map (·.1) := List.map_congr_left fun x _ => roA_fst
    rw [List.map_append, List.map_map, e] at h2
    rw [List.map_append] at h1
    rw [List.map_append, List.map_append]
    obtain ⟨a1, a2, a3⟩ := List.nodup_append.1 h1
    refine List.nodup_append.2 ⟨a1, h2, fun x hx y hy => ?_⟩
    rcases List.mem_append.1 hy with hy | hy
    · exact a3 x hx y hy
    · obtain ⟨x', hx', rfl⟩ := List.mem_map.1 hx
      obtain ⟨y', hy', rfl⟩ := List.mem_map.1 hy
      exact hX x' hx' y' hy'
  · rw [Heap.next_putBack]
    rcases List.mem_append.1 hx with hx | hx
    · exact hlt x hx
    · rcases List.mem_append.1 hx with hx | hx
      · have := ho.lt (roA x) (List.mem_append_left _ (List.mem_map_of_mem hx))
        rwa [roA_fst] at this
      · exact ho.lt x (List.mem_append_right _ hx)
theorem Slc.appH (hs : Slc es s n cs A) (hy : Sow es y m new Y) (ho : Own h (D ++ (R ++ (A ++ (Y ++ F))))) (hl1 : ∀ r, r ∈ l1 ↔ ∃ x ∈ D, x.1 = r) (hl2 : ∀ r, r ∈ l2 ↔ ∃ x ∈ R, x.1 = r) (hc : ∀ x ∈ R, ∃ cs q es, x.2 = .cells cs q es)
    (hes : 1 ≤ es) {bytes : Nat} (hb : (n + m) * bytes ≤ 140737488355328) :
    ∃ s' h' A', appendK (hid h l1 l2) bytes es s y = some (s', h') ∧ Slc es s' (n + m) (cs ++ new) A' ∧ Own (h'.putBack h (l1 ++ l2)) (D ++ (R ++ (A' ++ (Y ++ F)))) := by
  have o1 := ho.roDL hl1 hl2 hc
  obtain ⟨s', h', A', e1, a1, o2⟩ := hy.app hs (h := hid h l1 l2) (F := R.map roA ++ F) (o1.to fun x => by simp only [cnt_append]; omega) hes hb
  have hnx : (hid h l1 l2).next = h.next := next_hid
  have hle := append_next e1
  rw [hnx] at hle
  refine ⟨s', h', A', e1, a1, Own.backDL (o2.to fun x => by simp only [cnt_append]; omega) (ho.to fun x => by simp only [cnt_append]; omega) hl1 hl2 (fun x hx => Nat.lt_of_lt_of_le (ho.lt x (List.mem_append_left _ hx)) hle) fun x hx z hz => ?_⟩
  rcases List.mem_append.1 hz with hz | hz
  · obtain ⟨q, k, c, rfl, e⟩ := a1.at_keys z hz
    rw [e]
    have hlt := ho.lt x (List.mem_append_left _ hx)
    obtain ⟨a, c0, rfl⟩ := hs.form
    rcases append_at e1 with ⟨p, hp, e'⟩ | e'
    · subst hp
      rw [e']
      cases hs with
      | mk' hp hl hr =>
        have := ho.apart (x := x) hx (List.mem_append_right _ (List.mem_append_left _ (List.mem_cons_self ..)))
        exact this
    · rw [e', hnx]; omega
  · exact ho.apart hx (List.mem_append_right _ (List.mem_append_right _ hz))
end
end Go.Proofs.YtdlfdieehioolaaDoor
