import Derived.Test.YtkfdikcnpaechaaS4
/- Lists that are kept while what they came from goes on by append. -/
namespace Go.Proofs.Ytkfdikcnpaechaa
open Go
set_option linter.unusedVariables false
set_option linter.unusedSimpArgs false

abbrev Shs := List (Nat × Nat × List Value × Nat)
/-- What was noted is of blocks that are gone. -/
def ShD (h : Heap) : Prop := ∀ e ∈ h.sh, h.get e.1 = none ∧ e.1 < h.next
theorem ShD.live {h : Heap} (hd : ShD h) {r : Nat} {o : AObj} (hg : h.get r = some o) : shFind r h.sh = none := by
  cases hf : shFind r h.sh with
  | none => rfl
  | some e => have := (hd _ (shFind_mem hf)).1; simp only at this; rw [hg] at this; cases this
theorem ShD.fresh {h : Heap} (hd : ShD h) {r : Nat} (hr : h.next ≤ r) : shFind r h.sh = none := by
  cases hf : shFind r h.sh with
  | none => rfl
  | some e => have := (hd _ (shFind_mem hf)).2; simp only at this; omega
theorem ShD.clr {h : Heap} : ShD (clrH h) := fun e he => absurd he List.not_mem_nil
theorem ShD.keep {h h' : Heap} (hd : ShD h) (hs : h'.sh = h.sh) (hg : ∀ r, r < h.next → h.get r = none → h'.get r = none) (hn : h.next ≤ h'.next) : ShD h' := fun e he => by
  rw [hs] at he
  obtain ⟨h1, h2⟩ := hd e he
  exact ⟨hg _ h2 h1, Nat.lt_of_lt_of_le h2 hn⟩
theorem ShD.new {h : Heap} (hd : ShD h) (o : AObj) : ShD (h.new o) := hd.keep rfl (fun r hr hg => by rw [Heap.get_new, if_neg (Nat.ne_of_lt hr)]; exact hg) (Nat.le_succ _)
theorem ShD.put {h : Heap} (hd : ShD h) {b : Nat} {o o' : AObj} (hb : h.get b = some o) : ShD (h.put b o') := hd.keep rfl (fun r hr hg => by
  rw [Heap.get_put]; split
  · rename_i e; subst e; rw [hb] at hg; cases hg
  · exact hg) (Nat.le_refl _)

theorem shFind_cons {b r : Nat} {e : Nat × List Value × Nat} {sh : Shs} (h : r ≠ b) : shFind r ((b, e) :: sh) = shFind r sh := by
  simp only [shFind]
  have : Nat.beq b r = false := by
    cases hb : Nat.beq b r with
    | false => rfl
    | true => exact absurd (Nat.eq_of_beq_eq_true hb).symm h
  rw [this]; rfl
theorem shFind_head {b : Nat} {e : Nat × List Value × Nat} {sh : Shs} : shFind b ((b, e) :: sh) = some e := by
  simp [shFind]

/-- From what was let go to where it stands now. -/
inductive Cn (sh : Shs) : Nat → Nat → Nat → List Value → Nat → Nat → Nat → Prop
  | live {r off k : Nat} {xs : List Value} (h : shFind r sh = none) : Cn sh r off k xs r off 0
  | hop {r off k : Nat} {xs : List Value} {base : Nat} {old : List Value} {r' R o d : Nat} (h : shFind r sh = some (base, old, r')) (hb : base ≤ off) (hl : off - base + k ≤ old.length) (hx : (old.drop (off - base)).take k = xs)
      (next : Cn sh r' (off - base) k xs R o d) : Cn sh r off k xs R o (d + 1)

section
variable {sh : Shs} {r off k R o d : Nat} {xs : List Value}
theorem Cn.sub (h : Cn sh r off k xs R o d) : ∀ {j k' : Nat}, j + k' ≤ k → Cn sh r (off + j) k' ((xs.drop j).take k') R (o + j) d := by
  induction h with
  | live h => intro j k' hj; exact .live h
  | @hop r off k xs base old r' R o d h hb hl hx next ih =>
    intro j k' hj
    refine .hop h (by omega) (by omega) ?_ ?_
    · rw [← hx]
      apply List.ext_getElem?
      intro i
      by_cases hi : i < k'
      · rw [List.getElem?_take, if_pos hi, List.getElem?_take, if_pos hi, List.getElem?_drop, List.getElem?_drop, List.getElem?_take, if_pos (by omega), List.getElem?_drop]
        congr 1; omega
      · rw [List.getElem?_take, if_neg hi, List.getElem?_take, if_neg hi]
    · have := ih hj
      rwa [show off - base + j = off + j - base by omega] at this
theorem Cn.cons {b : Nat} {e : Nat × List Value × Nat} (hb : shFind b sh = none) (h : Cn sh r off k xs R o d) (hR : R ≠ b) : Cn ((b, e) :: sh) r off k xs R o d := by
  induction h with
  | live h => exact .live (by rw [shFind_cons hR]; exact h)
  | hop h hb' hl hx next ih => exact .hop (by rw [shFind_cons (fun e1 => by rw [e1, hb] at h; cases h)]; exact h) hb' hl hx (ih hR)
theorem Cn.ext {b N base : Nat} {old : List Value} (hb : shFind b sh = none) (hN : shFind N sh = none) (hne : N ≠ b) (h : Cn sh r off k xs R o d) (hR : R = b) (ho : o = base) (hl : k ≤ old.length) (hx : old.take k = xs) :
    Cn ((b, base, old, N) :: sh) r off k xs N 0 (d + 1) := by
  induction h with
  | live h =>
    subst hR ho
    refine .hop shFind_head (Nat.le_refl _) (by omega) (by rw [Nat.sub_self, List.drop_zero]; exact hx) ?_
    rw [Nat.sub_self]
    exact .live (by rw [shFind_cons hne]; exact hN)
  | hop h hb' hl' hx' next ih => exact .hop (by rw [shFind_cons (fun e1 => by rw [e1, hb] at h; cases h)]; exact h) hb' hl' hx' (ih hR ho hl hx)
theorem Cn.read {h : Heap} (hc : Cn h.sh r off k xs R o d) (hr : readCells h R o k = some xs) (hp : Go.Proofs.Ytkfdikcnpaechaa.sameL xs xs = true) : ∀ {f : Nat}, d < f → readS h f r off k = some xs := by
  induction hc with
  | live h1 => intro f hf; obtain ⟨f, rfl⟩ : ∃ g, f = g + 1 := ⟨f - 1, by omega⟩; simp only [readS, h1]; exact hr
  | @hop r off k xs base old r' R o d h1 hb hl hx next ih =>
    intro f hf
    obtain ⟨f, rfl⟩ : ∃ g, f = g + 1 := ⟨f - 1, by omega⟩
    simp only [readS, h1]
    rw [Nat.ble_eq_true_of_le hb, Nat.ble_eq_true_of_le hl]
    simp only [Bool.and_self, cond_true, ih hr hp (f := f) (by omega), hx, hp]
end

theorem sameL_int {k : IntKind} : ∀ {X : List Int}, Go.Proofs.Ytkfdikcnpaechaa.sameL (iz k X) (iz k X) = true := by
  intro X
  induction X with
  | nil => rfl
  | cons z X ih => simp only [iz, List.map_cons, Go.Proofs.Ytkfdikcnpaechaa.sameL, sameV, decide_true, Bool.and_self, Bool.true_and]; exact ih
theorem sameL_app {A B : List Value} (ha : Go.Proofs.Ytkfdikcnpaechaa.sameL A A = true) (hb : Go.Proofs.Ytkfdikcnpaechaa.sameL B B = true) : Go.Proofs.Ytkfdikcnpaechaa.sameL (A ++ B) (A ++ B) = true := by
  induction A with
  | nil => exact hb
  | cons a A ih =>
    simp only [Go.Proofs.Ytkfdikcnpaechaa.sameL, Bool.and_eq_true] at ha
    simp only [List.cons_append, Go.Proofs.Ytkfdikcnpaechaa.sameL, Bool.and_eq_true]
    exact ⟨ha.1, ih ha.2⟩
theorem sameL_sub {A : List Value} (ha : Go.Proofs.Ytkfdikcnpaechaa.sameL A A = true) : ∀ {j k : Nat}, Go.Proofs.Ytkfdikcnpaechaa.sameL ((A.drop j).take k) ((A.drop j).take k) = true := by
  have hd : ∀ {A : List Value} {j : Nat}, Go.Proofs.Ytkfdikcnpaechaa.sameL A A = true → Go.Proofs.Ytkfdikcnpaechaa.sameL (A.drop j) (A.drop j) = true := by
    intro A
    induction A with
    | nil => intro j h; simpa using h
    | cons a A ih =>
      intro j h
      cases j with
      | zero => exact h
      | succ j => simp only [Go.Proofs.Ytkfdikcnpaechaa.sameL, Bool.and_eq_true] at h; exact ih h.2
  have ht : ∀ {A : List Value} {k : Nat}, Go.Proofs.Ytkfdikcnpaechaa.sameL A A = true → Go.Proofs.Ytkfdikcnpaechaa.sameL (A.take k) (A.take k) = true := by
    intro A
    induction A with
    | nil => intro k h; simpa using h
    | cons a A ih =>
      intro k h
      cases k with
      | zero => rfl
      | succ k =>
        simp only [Go.Proofs.Ytkfdikcnpaechaa.sameL, Bool.and_eq_true] at h
        simp only [List.take_succ_cons, Go.Proofs.Ytkfdikcnpaechaa.sameL, Bool.and_eq_true]
        exact ⟨h.1, ih h.2⟩
  intro j k
  exact ht (hd ha)

/-- A list that is kept: it can be read where it stands now. -/
structure Kp (es : Nat) (sh : Shs) (L : Ch) (x : Value) (k : Nat) (xs : List Value) : Prop where
  form : ∃ a c, x = .slice a k c
  len : xs.length = k * es
  at' : k = 0 ∨ ∃ r off sp c R o d ys ro e, x = .slice (some ⟨r, off, sp⟩) k c ∧ Cn sh r off (k * es) xs R o d ∧ d ≤ sh.length ∧ (R, AObj.cells ys ro e) ∈ L ∧ o + k * es ≤ ys.length ∧ (ys.drop o).take (k * es) = xs
/-- A list that is kept: it stands at the beginning of s. -/
structure Bg (es : Nat) (sh : Shs) (s x : Value) (k : Nat) (xs : List Value) : Prop where
  form : ∃ a c, x = .slice a k c
  len : xs.length = k * es
  at' : k = 0 ∨ ∃ r off sp c R o sp' n' c' d, x = .slice (some ⟨r, off, sp⟩) k c ∧ s = .slice (some ⟨R, o, sp'⟩) n' c' ∧ Cn sh r off (k * es) xs R o d ∧ d ≤ sh.length

section
variable {es n m k : Nat} {s x y : Value} {cs new xs : List Value} {A F L L' : Ch} {h : Heap} {sh : Shs}
theorem Kp.mono (hk : Kp es sh L x k xs) (hm : ∀ z ∈ L, z ∈ L') : Kp es sh L' x k xs := ⟨hk.form, hk.len, hk.at'.imp id fun ⟨r, off, sp, c, R, o, d, ys, ro, e, h1, h2, h3, h4, h5⟩ => ⟨r, off, sp, c, R, o, d, ys, ro, e, h1, h2, h3, hm _ h4, h5⟩⟩
theorem Kp.lenB (hk : Kp es sh L x k xs) : Go.Proofs.Ytkfdikcnpaechaa.lenB x = some k := by obtain ⟨a, c, rfl⟩ := hk.form; rfl
theorem Bg.kp (hb : Bg es sh s x k xs) (hs : Slc es s n cs A) (hx : xs = cs.take (k * es)) (hk : k ≤ n) : Kp es sh A x k xs := by
  refine ⟨hb.form, hb.len, hb.at'.imp id ?_⟩
  rintro ⟨r, off, sp, c, R, o, sp', n', c', d, rfl, rfl, h3, h4⟩
  cases hs with
  | @mk' b off sp _ c pre _ rest hp hl hr =>
    have h1 := Nat.mul_le_mul_right es hk
    refine ⟨_, _, _, _, _, _, _, _, _, _, rfl, h3, h4, List.mem_cons_self .., by simp; omega, ?_⟩
    rw [← hp, List.drop_left, List.take_append_of_le_length (by omega)]
    exact hx.symm
theorem Slc.bg (hs : Slc es s n cs A) (ho : Own h (A ++ F)) (hd : ShD h) : Bg es h.sh s s n cs := by
  refine ⟨hs.form, hs.len, ?_⟩
  cases hs with
  | nil => exact .inl rfl
  | @mk' b off sp _ c pre _ rest hp hl hr =>
    exact .inr ⟨_, _, _, _, _, _, _, _, _, 0, rfl, rfl, .live (hd.live (ho.get _ (List.mem_append_left _ (List.mem_cons_self ..)))), Nat.zero_le _⟩
theorem Slc.kp (hs : Slc es s n cs A) (ho : Own h (A ++ F)) (hd : ShD h) : Kp es h.sh A s n cs := (hs.bg ho hd).kp hs (by rw [← hs.len, List.take_length]) (Nat.le_refl _)

/-- What is kept is read. -/
theorem Kp.ldA (hk : Kp es h.sh L x k xs) (ho : Own h (L ++ F)) (hp : Go.Proofs.Ytkfdikcnpaechaa.sameL xs xs = true) {i : Nat} (hi : i < k) : ∃ q, ixB es x (i : Int) = some q ∧ ldAS es h (some q) = some ((xs.drop (i * es)).take es) := by
  rcases hk.at' with rfl | ⟨r, off, sp, c, R, o, d, ys, ro, e, rfl, h2, h3, h4, h5, h6⟩
  · omega
  · have h1 : (i + 1) * es ≤ k * es := Nat.mul_le_mul_right es hi
    rw [Nat.add_mul, Nat.one_mul] at h1
    refine ⟨⟨r, off + i * es, none⟩, ?_, ?_⟩
    · show (bif Nat.blt i k then _ else none) = _
      rw [show Nat.blt i k = true from Nat.ble_eq_true_of_le hi]; rfl
    · simp only [ldAS, Option.bind_some]
      refine Cn.read (h2.sub h1) ?_ (sameL_sub hp) (by omega)
      rw [readCells_of (ho.get _ (List.mem_append_left _ h4)) (by omega)]
      congr 1
      rw [← h6]
      apply List.ext_getElem?
      intro j
      by_cases hj : j < es
      · rw [List.getElem?_take, if_pos hj, List.getElem?_take, if_pos hj, List.getElem?_drop, List.getElem?_drop, List.getElem?_take, if_pos (by omega), List.getElem?_drop]
        congr 1; omega
      · rw [List.getElem?_take, if_neg hj, List.getElem?_take, if_neg hj]
theorem Kp.ldT (hk : Kp 1 h.sh L x k xs) (ho : Own h (L ++ F)) (hp : Go.Proofs.Ytkfdikcnpaechaa.sameL xs xs = true) {i : Nat} {v : Value} (hv : xs[i]? = some v) {ty : Ty} : ∃ q, ixB 1 x (i : Int) = some q ∧ ldTS ty h (some q) = ty.prj v := by
  have hlt := (List.getElem?_eq_some_iff.1 hv).1
  obtain ⟨q, h1, h2⟩ := hk.ldA ho hp (i := i) (by have := hk.len; omega)
  refine ⟨q, h1, ?_⟩
  rw [Nat.mul_one, take_one_drop hv] at h2
  simp only [ldAS, Option.bind_some] at h2
  simp only [ldTS, Option.bind_some, h2]; rfl
theorem ldTS_eq (hd : ShD h) {q : Addr} {o : AObj} (hg : h.get q.block = some o) {ty : Ty} : ldTS ty h (some q) = Go.Proofs.Ytkfdikcnpaechaa.ldT ty h (some q) := by
  simp only [ldTS, Go.Proofs.Ytkfdikcnpaechaa.ldT, Option.bind_some, readS, hd.live hg]
theorem ldAS_eq (hd : ShD h) {q : Addr} {o : AObj} (hg : h.get q.block = some o) {sz : Nat} : ldAS sz h (some q) = Go.Proofs.Ytkfdikcnpaechaa.ldA sz h (some q) := by
  simp only [ldAS, Go.Proofs.Ytkfdikcnpaechaa.ldA, Option.bind_some, readS, hd.live hg]

/-- What is noted grows; what stands in F is found as before. -/
def ShX (F : Ch) (sh sh' : Shs) : Prop := sh.length ≤ sh'.length ∧ ∀ (r off k : Nat) (xs : List Value) (R o d : Nat), (∃ z ∈ F, z.1 = R) → Cn sh r off k xs R o d → Cn sh' r off k xs R o d
theorem ShX.refl {sh : Shs} : ShX F sh sh := ⟨Nat.le_refl _, fun _ _ _ _ _ _ _ _ h => h⟩
theorem ShX.trans {sh sh' sh'' : Shs} (h1 : ShX F sh sh') (h2 : ShX F sh' sh'') : ShX F sh sh'' := ⟨Nat.le_trans h1.1 h2.1, fun r off k xs R o d hz hc => h2.2 r off k xs R o d hz (h1.2 r off k xs R o d hz hc)⟩
theorem ShX.mono {sh sh' : Shs} {F' : Ch} (h1 : ShX F sh sh') (hm : ∀ z ∈ F', z ∈ F) : ShX F' sh sh' := ⟨h1.1, fun r off k xs R o d ⟨z, hz, e⟩ hc => h1.2 r off k xs R o d ⟨z, hm z hz, e⟩ hc⟩
theorem Kp.shx {sh' : Shs} (hk : Kp es sh L x k xs) (hx : ShX F sh sh') (hL : ∀ z ∈ L, z ∈ F) : Kp es sh' L x k xs := by
  refine ⟨hk.form, hk.len, hk.at'.imp id ?_⟩
  rintro ⟨r, off, sp, c2, R, o, d, ys, ro, e, rfl, h2, h3, h4, h5⟩
  exact ⟨r, off, sp, c2, R, o, d, ys, ro, e, rfl, hx.2 _ _ _ _ _ _ _ ⟨_, hL _ h4, rfl⟩ h2, Nat.le_trans h3 hx.1, h4, h5⟩
theorem Bg.shx {sh' : Shs} (hb : Bg es sh s x k xs) (hs : Slc es s n cs A) (hk : k ≤ n) (hx : ShX F sh sh') (hA : ∀ z ∈ A, z ∈ F) : Bg es sh' s x k xs := by
  refine ⟨hb.form, hb.len, ?_⟩
  cases hs with
  | nil => exact .inl (by omega)
  | @mk' b off sp _ c pre _ rest hp hl hr =>
    refine hb.at'.imp id ?_
    rintro ⟨r, off, sp, c2, R, o, sp', n', c', d, rfl, h2, h3, h4⟩
    cases h2
    exact ⟨_, _, _, _, _, _, _, _, _, _, rfl, rfl, hx.2 _ _ _ _ _ _ _ ⟨_, hA _ (List.mem_cons_self ..), rfl⟩ h3, Nat.le_trans h4 hx.1⟩
/-- 'append(s, y...)', where what is let go is noted. -/
theorem Slc.appS2 (hs : Slc es s n cs A) (ho : Own h (A ++ F)) (hd : ShD h) (hy : Rds h es y m new) (hes : 1 ≤ es) {bytes : Nat} (hb : (n + m) * bytes ≤ 140737488355328) :
    ∃ s' h' A' D, appendSK h bytes es s y = some (s', h') ∧ Slc es s' (n + m) (cs ++ new) A' ∧ Own h' (A' ++ (D ++ F)) ∧ ShD h' ∧
      ShX F h.sh h'.sh ∧ (∀ {x k xs}, Bg es h.sh s x k xs → xs = cs.take (k * es) → k ≤ n → Bg es h'.sh s' x k xs ∨ Kp es h'.sh D x k xs) := by
  obtain ⟨yb, yc, rfl, hsrc⟩ := hy.src
  have hn := hy.len
  cases hs with
  | nil =>
    by_cases hm : m = 0
    · subst hm
      have : new = [] := List.eq_nil_of_length_eq_zero (by omega)
      subst this
      rw [Nat.zero_mul] at hsrc
      exact ⟨.slice none 0 0, h, [], [], by simp [appendSK, hsrc, appendL, putCells, cond_ble, noteS], .nil, ho, hd, ShX.refl, fun h _ _ => .inl h⟩
    · refine ⟨.slice (some ⟨h.next, 0, none⟩) (0 + m) (0 + m), h.new (.cells new false es), [(h.next, .cells ([] ++ (new ++ [])) false es)], [], ?_, Slc.mk (pre := []) (rest := []) rfl (by simp [hn]) (by simp [hn]), ?_, hd.new _, ShX.refl, fun hbg _ hk => ?_⟩
      · simp only [appendSK, hsrc, Option.bind_some, appendL]
        rw [cond_ble (by simpa using hb), cond_nble (by omega)]
        simp [growCells, noteS]
      · have := ho.new (.cells new false es)
        simpa using this
      · exact .inl ⟨hbg.form, hbg.len, .inl (by omega)⟩
  | @mk' b off sp _ c pre _ rest hp hl hr =>
    subst hp
    have hg := ho.get (b, .cells (pre ++ (cs ++ rest)) false es) (by simp)
    by_cases hc : n + m ≤ c
    · have h1 : (n + m) * es ≤ c * es := Nat.mul_le_mul_right es hc
      rw [Nat.add_mul] at h1
      have hlen : pre.length + n * es + new.length ≤ (pre ++ (cs ++ rest)).length := by simp; omega
      refine ⟨.slice (some ⟨b, pre.length, sp⟩) (n + m) c, h.put b (.cells (pre ++ ((cs ++ new) ++ rest.drop new.length)) false es), _, [], ?_, Slc.mk' (rest := rest.drop new.length) rfl (by simp [hl, hn, Nat.add_mul]) ⟨fun _ => hc, by simp; rw [hn]; omega⟩, Own.put (F := F) ho _, hd.put hg, ShX.refl, fun hbg _ _ => .inl ?_⟩
      · simp only [appendSK, hsrc, Option.bind_some, appendL]
        rw [cond_ble hb, cond_ble hc]
        simp only [putCells]
        rw [writeCells_of hg hlen, writeAt_eq _ _ _ hlen]
        simp only [Option.map_some, Option.some.injEq, Prod.mk.injEq, true_and]
        have e1 : (pre ++ (cs ++ rest)).take (pre.length + n * es) = pre ++ cs := by
          rw [← hl, ← List.append_assoc, ← List.length_append, List.take_left]
        have e2 : (pre ++ (cs ++ rest)).drop (pre.length + n * es + new.length) = rest.drop new.length := by
          rw [← hl, ← List.append_assoc, ← List.length_append, ← List.drop_drop, List.drop_left]
        rw [e1, e2]
        have e3 : pre ++ cs ++ new ++ List.drop new.length rest = pre ++ (cs ++ new ++ List.drop new.length rest) := by simp
        rw [e3]
        cases sp with
        | none => simp only [noteS]; rw [cond_ble hc]
        | some j => rfl
      · refine ⟨hbg.form, hbg.len, hbg.at'.imp id ?_⟩
        rintro ⟨r, off, sp2, c2, R, o, sp', n', c', d, rfl, h2, h3, h4⟩
        cases h2
        exact ⟨_, _, _, _, _, _, _, _, _, _, rfl, rfl, h3, h4⟩
    · have hread : readCells h b pre.length (n * es) = some cs := by
        rw [readCells_of hg (by simp; omega)]
        congr 1
        rw [List.drop_left, ← hl, List.take_left]
      have hlt := ho.lt (b, .cells (pre ++ (cs ++ rest)) false es) (by simp)
      cases sp with
      | some j =>
        refine ⟨.slice (some ⟨h.next, 0, none⟩) (n + m) (n + m), h.new (.cells (cs ++ new) false es), [(h.next, .cells ([] ++ ((cs ++ new) ++ [])) false es)], [(b, .cells (pre ++ (cs ++ rest)) false es)], ?_, Slc.mk (pre := []) (rest := []) rfl (by simp [hl, hn, Nat.add_mul]) (by simp [hl, hn, Nat.add_mul]), ?_, hd.new _, ShX.refl, fun hbg hx hk => .inr ?_⟩
        · simp only [appendSK, hsrc, Option.bind_some, appendL]
          rw [cond_ble hb, cond_nble (by omega)]
          simp only [growCells, hread, letGo, Option.bind_some, Option.map_some, noteS]
        · have := ho.new (.cells (cs ++ new) false es)
          simpa using this
        · exact hbg.kp (Slc.mk' rfl hl hr) hx hk
      | none =>
        refine ⟨.slice (some ⟨h.next, 0, none⟩) (n + m) (n + m), { (h.drop b).new (.cells (cs ++ new) false es) with sh := (b, pre.length, cs, h.next) :: h.sh }, [(h.next, .cells ([] ++ ((cs ++ new) ++ [])) false es)], [], ?_, Slc.mk (pre := []) (rest := []) rfl (by simp [hl, hn, Nat.add_mul]) (by simp [hl, hn, Nat.add_mul]), ?_, ?_, ?_, ?_⟩
        · simp only [appendSK, hsrc, Option.bind_some, appendL]
          rw [cond_ble hb, cond_nble (by omega)]
          have hgo : letGo h ⟨b, pre.length, none⟩ c es = some (h.drop b) := by
            simp only [letGo, hg]
            rw [Nat.beq_refl, Nat.ble_eq_true_of_le (by simp; omega)]
            rfl
          simp only [growCells, hread, hgo, Option.bind_some, Option.map_some, noteS]
          rw [cond_nble (by omega)]
          rfl
        · have h1 := (Own.drop (F := F) ho).new (.cells (cs ++ new) false es)
          have h2 : Own ((h.drop b).new (.cells (cs ++ new) false es)) ([(h.next, .cells ([] ++ ((cs ++ new) ++ [])) false es)] ++ ([] ++ F)) := by simpa using h1
          exact ⟨h2.get, h2.nodup, h2.lt⟩
        · intro e he
          rcases List.mem_cons.1 he with rfl | he
          · refine ⟨?_, Nat.lt_succ_of_lt hlt⟩
            show ((h.drop b).new _).get b = none
            rw [Heap.get_new, if_neg (by show b ≠ h.next; omega), Heap.get_drop, if_pos rfl]
          · obtain ⟨k1, k2⟩ := hd e he
            refine ⟨?_, Nat.lt_succ_of_lt k2⟩
            show ((h.drop b).new _).get e.1 = none
            rw [Heap.get_new, if_neg (by show e.1 ≠ h.next; omega), Heap.get_drop]
            split
            · rfl
            · exact k1
        · refine ⟨Nat.le_succ _, fun r off k xs R o d hz hc2 => hc2.cons (hd.live hg) ?_⟩
          obtain ⟨z, hz, rfl⟩ := hz
          exact fun e1 => ho.apart (x := (b, AObj.cells (pre ++ (cs ++ rest)) false es)) (List.mem_cons_self ..) hz e1.symm
        · intro x k xs hbg hx hk
          left
          refine ⟨hbg.form, hbg.len, hbg.at'.imp id ?_⟩
          rintro ⟨r, off, sp, c2, R, o, sp', n', c', d, rfl, h2, h3, h4⟩
          cases h2
          have h1 : k * es ≤ n * es := Nat.mul_le_mul_right es hk
          exact ⟨_, _, _, _, _, _, _, _, _, _, rfl, rfl, h3.ext (hd.live hg) (hd.fresh (Nat.le_refl _)) (by omega) rfl rfl (by omega) hx.symm, Nat.succ_le_succ h4⟩
theorem Slc.appS (hs : Slc es s n cs A) (ho : Own h (A ++ F)) (hd : ShD h) (hy : Rds h es y m new) (hes : 1 ≤ es) {bytes : Nat} (hb : (n + m) * bytes ≤ 140737488355328) :
    ∃ s' h' A' D, appendSK h bytes es s y = some (s', h') ∧ Slc es s' (n + m) (cs ++ new) A' ∧ Own h' (A' ++ (D ++ F)) ∧ ShD h' ∧
      (∀ {es' L x k xs}, (∀ z ∈ L, z ∈ F) → Kp es' h.sh L x k xs → Kp es' h'.sh L x k xs) ∧ (∀ {x k xs}, Bg es h.sh s x k xs → xs = cs.take (k * es) → k ≤ n → Bg es h'.sh s' x k xs ∨ Kp es h'.sh D x k xs) := by
  obtain ⟨s', h', A', D, e1, e2, e3, e4, e5, e6⟩ := hs.appS2 ho hd hy hes hb
  exact ⟨s', h', A', D, e1, e2, e3, e4, fun hL hk => hk.shx e5 hL, e6⟩
/-- 'append(s, x)'. -/
theorem Slc.pushS2 (hs : Slc es s n cs A) (ho : Own h (A ++ F)) (hd : ShD h) (hes : 1 ≤ es) (hn : new.length = es) {bytes : Nat} (hb : (n + 1) * bytes ≤ 140737488355328) :
    ∃ s' h' A' D, appendSK (h.new (.cells new false es)) bytes es s (.slice (some ⟨h.next, 0, some 0⟩) 1 1) = some (s', h') ∧ Slc es s' (n + 1) (cs ++ new) A' ∧ Own h' (A' ++ (D ++ F)) ∧ ShD h' ∧
      ShX F h.sh h'.sh ∧ (∀ {x k xs}, Bg es h.sh s x k xs → xs = cs.take (k * es) → k ≤ n → Bg es h'.sh s' x k xs ∨ Kp es h'.sh D x k xs) := by
  have h1 : Own (h.new (.cells new false es)) ([(h.next, .cells ([] ++ (new ++ [])) false es)] ++ (A ++ F)) := by simpa using ho.new (.cells new false es)
  have hy : Slc es (.slice (some ⟨h.next, 0, some 0⟩) 1 1) 1 new [(h.next, .cells ([] ++ (new ++ [])) false es)] := .mk rfl (by simp [hn]) (by simp [hn])
  exact hs.appS2 (F := F) (h1.to fun x => by simp only [cnt_append, cnt_cons, cnt_nil]; omega) (hd.new _) (hy.rds h1) hes hb
theorem Slc.pushS (hs : Slc es s n cs A) (ho : Own h (A ++ F)) (hd : ShD h) (hes : 1 ≤ es) (hn : new.length = es) {bytes : Nat} (hb : (n + 1) * bytes ≤ 140737488355328) :
    ∃ s' h' A' D, appendSK (h.new (.cells new false es)) bytes es s (.slice (some ⟨h.next, 0, some 0⟩) 1 1) = some (s', h') ∧ Slc es s' (n + 1) (cs ++ new) A' ∧ Own h' (A' ++ (D ++ F)) ∧ ShD h' ∧
      (∀ {es' L x k xs}, (∀ z ∈ L, z ∈ F) → Kp es' h.sh L x k xs → Kp es' h'.sh L x k xs) ∧ (∀ {x k xs}, Bg es h.sh s x k xs → xs = cs.take (k * es) → k ≤ n → Bg es h'.sh s' x k xs ∨ Kp es h'.sh D x k xs) := by
  obtain ⟨s', h', A', D, e1, e2, e3, e4, e5, e6⟩ := hs.pushS2 ho hd hes hn hb
  exact ⟨s', h', A', D, e1, e2, e3, e4, fun hL hk => hk.shx e5 hL, e6⟩
/-- Stores keep the notes. -/
theorem stB_sh {sz : Nat} {v : Value} {h' : Heap} {p : Option Addr} (e : stB sz v h p = some h') : h'.sh = h.sh ∧ (ShD h → ShD h') := by
  cases p with
  | none => cases e
  | some q =>
  simp only [stB, Option.bind_some, Bool.cond_eq_ite] at e
  split at e
  · unfold writeCells at e
    split at e
    · rename_i cs es hg
      simp only [Bool.cond_eq_ite] at e
      split at e
      · cases e; exact ⟨rfl, fun hd => hd.put hg⟩
      · cases e
    · cases e
  · cases e
theorem ldTS_slc (hs : Slc es s n cs A) (ho : Own h (A ++ F)) (hd : ShD h) {i : Nat} {q : Addr} (e : ixB es s (i : Int) = some q) {ty : Ty} {o : Nat} : ldTS ty h (some (fa q o)) = Go.Proofs.Ytkfdikcnpaechaa.ldT ty h (some (fa q o)) := by
  obtain ⟨xs, rfl⟩ := ix_blk hs e
  exact ldTS_eq hd (q := fa q o) (ho.get _ (List.mem_append_left _ (List.mem_cons_self ..)))
theorem ldTS_slc0 (hs : Slc es s n cs A) (ho : Own h (A ++ F)) (hd : ShD h) {i : Nat} {q : Addr} (e : ixB es s (i : Int) = some q) {ty : Ty} : ldTS ty h (some q) = Go.Proofs.Ytkfdikcnpaechaa.ldT ty h (some q) := by
  obtain ⟨xs, rfl⟩ := ix_blk hs e
  exact ldTS_eq hd (ho.get _ (List.mem_append_left _ (List.mem_cons_self ..)))
/-- One cell of an element, set. -/
theorem slc_setc (hs : Slc es s n cs A) (ho : Own h (A ++ F)) {i o : Nat} (hi : i < n) (hoo : o < es) {v : Value} (hv : cellsOf v = [v]) (hc : isCell v = true) :
    ∃ q h' A', ixB es s (i : Int) = some q ∧ stB 1 v h (some (fa q o)) = some h' ∧ Slc es s n (cs.set (i * es + o) v) A' ∧ Own h' (A' ++ F) := by
  cases hs with
  | nil => omega
  | @mk' b off sp _ c pre _ rest hp hl hr =>
    subst hp
    have h1 : (i + 1) * es ≤ n * es := Nat.mul_le_mul_right es hi
    rw [Nat.add_mul, Nat.one_mul] at h1
    have hg := ho.get (b, .cells (pre ++ (cs ++ rest)) false es) (by simp)
    refine ⟨⟨b, pre.length + i * es, none⟩, h.put b (.cells (pre ++ (cs.set (i * es + o) v ++ rest)) false es), _, ?_, ?_, Slc.mk' (pre := pre) (rest := rest) rfl (by rw [List.length_set, hl]) (by rw [List.length_set]; exact hr), Own.put (F := F) ho _⟩
    · show (bif Nat.blt i n then _ else none) = _
      rw [show Nat.blt i n = true from Nat.ble_eq_true_of_le hi]; rfl
    · have := stB1_of (sp := none) (o := pre.length + i * es + o) hg hv hc (by simp; omega)
      rw [fa_mk, this]
      congr 3
      rw [List.set_append_right _ _ (by omega), List.set_append_left _ _ (by omega)]
      congr 3; omega
end
end Go.Proofs.Ytkfdikcnpaechaa

/- Lists that are marked, grown one by one, and looked at: none shares memory with another one. -/
namespace Go.Proofs.Ytkfdikcnpaechaa
open Go
set_option linter.unusedVariables false
set_option linter.unusedSimpArgs false

/-- m times a, c times b. -/
def cw (a b : List Value) (m c : Nat) : List Value := (List.replicate m a).flatten ++ (List.replicate c b).flatten
section
variable {a b : List Value} {m c c' k es : Nat}
theorem rep_len : ((List.replicate m a).flatten).length = m * a.length := by
  induction m with
  | zero => simp
  | succ m ih => rw [List.replicate_succ, List.flatten_cons, List.length_append, ih, Nat.succ_mul]; omega
theorem rep_drop (h : k ≤ m) : ((List.replicate m a).flatten).drop (k * a.length) = (List.replicate (m - k) a).flatten := by
  induction k generalizing m with
  | zero => simp
  | succ k ih =>
    obtain ⟨m, rfl⟩ : ∃ j, m = j + 1 := ⟨m - 1, by omega⟩
    rw [List.replicate_succ, List.flatten_cons, Nat.succ_mul, Nat.add_comm, ← List.drop_drop, List.drop_left, ih (by omega)]
    congr 2; omega
theorem rep_take (h : k ≤ m) : ((List.replicate m a).flatten).take (k * a.length) = (List.replicate k a).flatten := by
  induction k generalizing m with
  | zero => simp
  | succ k ih =>
    obtain ⟨m, rfl⟩ : ∃ j, m = j + 1 := ⟨m - 1, by omega⟩
    rw [List.replicate_succ, List.flatten_cons, List.replicate_succ, List.flatten_cons, Nat.succ_mul, Nat.add_comm, List.take_append, List.take_of_length_le (by omega), Nat.add_sub_cancel_left, ih (by omega)]
theorem rep_snoc : (List.replicate (m + 1) a).flatten = (List.replicate m a).flatten ++ a := by
  rw [List.replicate_succ', List.flatten_append]; simp
theorem rep_at (h : k < m) : (((List.replicate m a).flatten).drop (k * a.length)).take a.length = a := by
  rw [rep_drop (by omega)]
  have := rep_take (a := a) (k := 1) (m := m - k) (by omega)
  rw [Nat.one_mul] at this
  rw [this]; simp
theorem cw_len (ha : a.length = es) (hb : b.length = es) : (cw a b m c).length = (m + c) * es := by
  rw [cw, List.length_append, rep_len, rep_len, ha, hb, Nat.add_mul]
theorem cw_zero : cw a b m 0 = (List.replicate m a).flatten := by simp [cw]
theorem cw_snoc : cw a b m c ++ b = cw a b m (c + 1) := by rw [cw, cw, rep_snoc, List.append_assoc]
theorem cw_take (ha : a.length = es) (hb : b.length = es) (h : c' ≤ c) : (cw a b m c).take ((m + c') * es) = cw a b m c' := by
  rw [cw, cw, List.take_append, rep_len, ha, Nat.add_mul, List.take_of_length_le (by rw [rep_len, ha]; omega), Nat.add_sub_cancel_left, ← hb, rep_take h]
theorem cw_lo (ha : a.length = es) (h : k < m) : ((cw a b m c).drop (k * es)).take es = a := by
  have h1 : (k + 1) * es ≤ m * es := Nat.mul_le_mul_right es h
  rw [Nat.add_mul, Nat.one_mul] at h1
  rw [cw, List.drop_append_of_le_length (by rw [rep_len, ha]; omega), List.take_append_of_le_length (by rw [List.length_drop, rep_len, ha]; omega)]
  subst ha
  exact rep_at h
theorem cw_hi (ha : a.length = es) (hb : b.length = es) (h : k < c) : ((cw a b m c).drop ((m + k) * es)).take es = b := by
  rw [cw, Nat.add_mul, ← List.drop_drop]
  have : ((List.replicate m a).flatten ++ (List.replicate c b).flatten).drop (m * es) = (List.replicate c b).flatten := by
    have := List.drop_left (l₁ := (List.replicate m a).flatten) (l₂ := (List.replicate c b).flatten)
    rwa [rep_len, ha] at this
  rw [this]
  subst hb
  exact rep_at h
theorem sameL_rep (ha : Go.Proofs.Ytkfdikcnpaechaa.sameL a a = true) : Go.Proofs.Ytkfdikcnpaechaa.sameL ((List.replicate m a).flatten) ((List.replicate m a).flatten) = true := by
  induction m with
  | zero => rfl
  | succ m ih => rw [List.replicate_succ, List.flatten_cons]; exact sameL_app ha ih
theorem sameL_cw (ha : Go.Proofs.Ytkfdikcnpaechaa.sameL a a = true) (hb : Go.Proofs.Ytkfdikcnpaechaa.sameL b b = true) : Go.Proofs.Ytkfdikcnpaechaa.sameL (cw a b m c) (cw a b m c) = true := sameL_app (sameL_rep ha) (sameL_rep hb)
end

section
variable {es n m k i N : Nat} {s v u : Value} {cs w vs : List Value} {A F U : Ch} {h : Heap}
/-- An element, set. -/
theorem slc_setv (hs : Slc es s n cs A) (ho : Own h (A ++ F)) (hi : i < n) {v : Value} (hv : (cellsOf v).length = es) (hc : (cellsOf v).all isCell = true) :
    ∃ q h' A', ixB es s (i : Int) = some q ∧ stB es v h (some q) = some h' ∧ Slc es s n (writeAt cs (i * es) (cellsOf v)) A' ∧ Own h' (A' ++ F) := by
  cases hs with
  | nil => omega
  | @mk' b off sp _ c pre _ rest hp hl hr =>
    subst hp
    have hg := ho.get (b, .cells (pre ++ (cs ++ rest)) false es) (by simp)
    have h1 : (i + 1) * es ≤ n * es := Nat.mul_le_mul_right es hi
    rw [Nat.add_mul, Nat.one_mul] at h1
    have hb : i * es + (cellsOf v).length ≤ cs.length := by omega
    refine ⟨⟨b, pre.length + i * es, none⟩, h.put b (.cells (pre ++ (writeAt cs (i * es) (cellsOf v) ++ rest)) false es), _, ?_, ?_, Slc.mk' (pre := pre) (rest := rest) rfl (by rw [writeAt_len hb, hl]) (by rw [writeAt_len hb]; exact hr), Own.put (F := F) ho _⟩
    · show (bif Nat.blt i n then _ else none) = _
      rw [show Nat.blt i n = true from Nat.ble_eq_true_of_le hi]; rfl
    · rw [stB_of hg hv hc (by simp; omega), writeAt_mid hb]
/-- An element of a list of lists. -/
theorem sl_at (hu : Slc 1 u N vs U) (ho : Own h (U ++ F)) (hd : ShD h) (hv : vs[i]? = some v) : ∃ q, ixB 1 u (i : Int) = some q ∧ ldTS .any h (some q) = some v := by
  have hlt := (List.getElem?_eq_some_iff.1 hv).1
  have hN : i < N := by have := hu.len; omega
  obtain ⟨q, e1, e2⟩ := (hu.rds ho).ix i hN
  refine ⟨q, e1, ?_⟩
  rw [ldTS_slc0 hu ho hd e1]
  have := e2.ldT0 (ty := .any) (v := v) (by rw [Nat.mul_one, List.getElem?_take, if_pos (by omega), List.getElem?_drop]; simpa using hv)
  rw [this]; rfl

/-- A list, marked. -/
theorem markIn {R : Type} {r : R} {f : (Int × Unit) × Heap → Option (((Int × Unit) × Heap) ⊕ (R × Heap))} {V : Value} (hu : Slc 1 u N vs U) (hv : vs[i]? = some v) (ha : Slc es v m cs A) (ho : Own h (U ++ (A ++ F))) (hsh : h.sh = [])
    (hV : (cellsOf V).length = es) (hVc : (cellsOf V).all isCell = true)
    (hf : ∀ (k : Nat) (h1 h2 : Heap) (q q' : Addr), k < m → ixB 1 u (i : Int) = some q → ldTS .any h1 (some q) = some v → ixB es v (k : Int) = some q' → stB es V h1 (some q') = some h2 → f (((k : Int), ()), h1) = some (.inl ((IntKind.i64.wrap ((k : Int) + 1), ()), h2)))
    (hz : ∀ (h1 : Heap) (q : Addr), ixB 1 u (i : Int) = some q → ldTS .any h1 (some q) = some v → f (((m : Int), ()), h1) = some (.inr (r, h1)))
    (hm : m < 4611686018427387904) (hn : m + 1 ≤ n) :
    ∃ h' A', loopT f n (((0 : Int), ()), h) = some (r, h') ∧ Slc es v m (List.replicate m (cellsOf V)).flatten A' ∧ Own h' (U ++ (A' ++ F)) ∧ h'.sh = [] := by
  have hcl := ha.len
  obtain ⟨⟨x, h'⟩, e, q0, A', q1, q2, q3⟩ := loopT_up (f := f)
    (fun k (a : (Int × Unit) × Heap) => a.1 = ((k : Int), ()) ∧ ∃ A', Slc es v m ((List.replicate k (cellsOf V)).flatten ++ cs.drop (k * es)) A' ∧ Own a.2 (U ++ (A' ++ F)) ∧ a.2.sh = [])
    (fun x => x.1 = r ∧ ∃ A', Slc es v m (List.replicate m (cellsOf V)).flatten A' ∧ Own x.2 (U ++ (A' ++ F)) ∧ x.2.sh = []) (N := m) (k := n) (j := 0) (a := ((0, ()), h)) (by omega) (by omega)
    ⟨rfl, A, by simpa using ha, ho, hsh⟩
    (fun k a hk hi => by
      obtain ⟨⟨v0, _⟩, h1⟩ := a
      obtain ⟨e0, A1, hs1, o1, hsh1⟩ := hi
      cases e0
      have o1 : Own h1 _ := o1
      have hsh1 : h1.sh = [] := hsh1
      have hd1 : ShD h1 := fun e he => by rw [hsh1] at he; cases he
      obtain ⟨q, g1, g2⟩ := sl_at hu o1 hd1 hv
      obtain ⟨q', h2, A2, g3, g4, g5, o2⟩ := slc_setv hs1 (F := U ++ F) (o1.to fun x => by simp only [cnt_append]; omega) hk hV hVc
      refine .inl ⟨_, hf k h1 h2 q q' hk g1 g2 g3 g4, ?_, A2, ?_, o2.to fun x => by simp only [cnt_append]; omega, (stB_sh g4).1.trans hsh1⟩
      · rw [wrap_succ (show k < 4611686018427387904 by omega)]
      · have h1 : (k + 1) * es ≤ m * es := Nat.mul_le_mul_right es hk
        rw [Nat.add_mul, Nat.one_mul] at h1
        have hl : ((List.replicate k (cellsOf V)).flatten).length = k * es := by rw [rep_len, hV]
        have e : writeAt ((List.replicate k (cellsOf V)).flatten ++ cs.drop (k * es)) (k * es) (cellsOf V) = (List.replicate (k + 1) (cellsOf V)).flatten ++ cs.drop ((k + 1) * es) := by
          rw [writeAt_eq _ _ _ (by rw [List.length_append, hl, List.length_drop, hV]; omega), ← hl, List.take_left, rep_snoc, hl]
          congr 1
          rw [← List.drop_drop, ← hl, List.drop_left, hl, List.drop_drop, hV, Nat.add_mul, Nat.one_mul]
        rwa [e] at g5)
    (fun a hi => by
      obtain ⟨⟨v0, _⟩, h1⟩ := a
      obtain ⟨e0, A1, hs1, o1, hsh1⟩ := hi
      cases e0
      have o1 : Own h1 _ := o1
      have hsh1 : h1.sh = [] := hsh1
      have hd1 : ShD h1 := fun e he => by rw [hsh1] at he; cases he
      obtain ⟨q, g1, g2⟩ := sl_at hu o1 hd1 hv
      rw [List.drop_eq_nil_of_le (by omega), List.append_nil] at hs1
      exact ⟨_, hz h1 q g1 g2, rfl, A1, hs1, o1, hsh1⟩)
  have q0 : x = r := q0
  subst q0
  exact ⟨h', A', e, q1, q2, q3⟩
end

/-- A list in a list of lists. -/
structure Ax where
  v : Value
  m : Nat
  cs : List Value
  A : Ch
theorem ax_cnt {xs : List Ax} {j : Nat} (hj : j < xs.length) (x : Nat × AObj) : cnt x ((xs.drop j).flatMap Ax.A) = cnt x xs[j].A + cnt x ((xs.drop (j + 1)).flatMap Ax.A) := by
  rw [List.drop_eq_getElem_cons hj, List.flatMap_cons, cnt_append]
/-- Marked so far. -/
structure Dn (es : Nat) (mk : Nat → List Value) (xs ds : List Ax) (j : Nat) : Prop where
  len : ds.length = j
  d : ∀ (i : Nat) (h1 : i < ds.length) (h2 : i < xs.length), ds[i].v = xs[i].v ∧ ds[i].m = xs[i].m ∧ ds[i].cs = (List.replicate ds[i].m (mk i)).flatten ∧ Slc es ds[i].v ds[i].m ds[i].cs ds[i].A
section
variable {es n m k i N : Nat} {s v u : Value} {cs w vs : List Value} {A F U : Ch} {h : Heap} {xs : List Ax}
theorem marks_gen {R R2 : Type} {r : R} {r2 : R2} {fin : Nat → (Int × Unit) × Heap → Option (((Int × Unit) × Heap) ⊕ (R × Heap))} {f : (Int × Unit) × Heap → Option (((Int × Unit) × Heap) ⊕ (R2 × Heap))} {V : Nat → Value} {B : Nat}
    (hu : Slc 1 u xs.length (xs.map Ax.v) U) (hx : ∀ x ∈ xs, Slc es x.v x.m x.cs x.A ∧ x.m ≤ B) (ho : Own h (U ++ (xs.flatMap Ax.A ++ F))) (hsh : h.sh = [])
    (hV : ∀ i, (cellsOf (V i)).length = es) (hVc : ∀ i, (cellsOf (V i)).all isCell = true)
    (hfin : ∀ (i : Nat) (v : Value) (m k : Nat) (h1 h2 : Heap) (q q' : Addr), i < xs.length → lenB v = some m → k < m → ixB 1 u (i : Int) = some q → ldTS .any h1 (some q) = some v → ixB es v (k : Int) = some q' → stB es (V i) h1 (some q') = some h2 → fin i (((k : Int), ()), h1) = some (.inl ((IntKind.i64.wrap ((k : Int) + 1), ()), h2)))
    (hzin : ∀ (i : Nat) (v : Value) (m : Nat) (h1 : Heap) (q : Addr), i < xs.length → lenB v = some m → ixB 1 u (i : Int) = some q → ldTS .any h1 (some q) = some v → fin i (((m : Int), ()), h1) = some (.inr (r, h1)))
    (hf : ∀ (i : Nat) (h1 h2 : Heap), i < xs.length → loopT (fin i) n (((0 : Int), ()), h1) = some (r, h2) → f (((i : Int), ()), h1) = some (.inl ((IntKind.i64.wrap ((i : Int) + 1), ()), h2)))
    (hz : ∀ h1 : Heap, f (((xs.length : Int), ()), h1) = some (.inr (r2, h1)))
    (hB : B < 4611686018427387904) (hn : B + 1 ≤ n) (hN : xs.length < 4611686018427387904) (hNn : xs.length + 1 ≤ n) :
    ∃ h' ds, loopT f n (((0 : Int), ()), h) = some (r2, h') ∧ Dn es (fun i => cellsOf (V i)) xs ds xs.length ∧ Own h' (U ++ (ds.flatMap Ax.A ++ F)) ∧ h'.sh = [] := by
  obtain ⟨⟨x, h'⟩, e, q0, ds, q1, q2, q3⟩ := loopT_up (f := f)
    (fun j (a : (Int × Unit) × Heap) => a.1 = ((j : Int), ()) ∧ ∃ ds, Dn es (fun i => cellsOf (V i)) xs ds j ∧ Own a.2 (U ++ (ds.flatMap Ax.A ++ ((xs.drop j).flatMap Ax.A ++ F))) ∧ a.2.sh = [])
    (fun x => x.1 = r2 ∧ ∃ ds, Dn es (fun i => cellsOf (V i)) xs ds xs.length ∧ Own x.2 (U ++ (ds.flatMap Ax.A ++ F)) ∧ x.2.sh = []) (N := xs.length) (k := n) (j := 0) (a := ((0, ()), h)) (by omega) (by omega)
    ⟨rfl, [], ⟨rfl, fun i h => absurd h (Nat.not_lt_zero _)⟩, ho, hsh⟩
    (fun j a hj hi => by
      obtain ⟨⟨v0, _⟩, h1⟩ := a
      obtain ⟨e0, ds, hd, o1, hsh1⟩ := hi
      cases e0
      have o1 : Own h1 _ := o1
      have hsh1 : h1.sh = [] := hsh1
      obtain ⟨hx1, hxm⟩ := hx _ (List.getElem_mem hj)
      have hvj : (xs.map Ax.v)[j]? = some xs[j].v := by rw [List.getElem?_map, List.getElem?_eq_getElem hj]; rfl
      obtain ⟨h2, A2, e1, e2, o2, hsh2⟩ := markIn (f := fin j) (r := r) (n := n) hu hvj hx1 (F := ds.flatMap Ax.A ++ ((xs.drop (j + 1)).flatMap Ax.A ++ F)) (h := h1) (o1.to fun x => by have := ax_cnt hj x; simp only [cnt_append]; omega) hsh1 (hV j) (hVc j)
        (fun k h1 h2 q q' hk => hfin j xs[j].v xs[j].m k h1 h2 q q' hj hx1.lenB hk) (fun h1 q => hzin j xs[j].v xs[j].m h1 q hj hx1.lenB) (by omega) (by omega)
      refine .inl ⟨_, hf j h1 h2 hj e1, ?_, ds ++ [⟨xs[j].v, xs[j].m, (List.replicate xs[j].m (cellsOf (V j))).flatten, A2⟩], ⟨by simp [hd.len], fun i g1 g2 => ?_⟩, o2.to fun x => by simp only [cnt_append, List.flatMap_append, List.flatMap_cons, List.flatMap_nil, cnt_nil]; omega, hsh2⟩
      · rw [wrap_succ (show j < 4611686018427387904 by omega)]
      · by_cases hi : i < ds.length
        · rw [List.getElem_append_left hi]; exact hd.d i hi g2
        · have : i = ds.length := by simp at g1; omega
          have hij : i = j := by have := hd.len; omega
          subst hij
          rw [List.getElem_append_right (by omega)]
          have hd0 : i - ds.length = 0 := by omega
          simp only [hd0, List.getElem_cons_zero]
          exact ⟨trivial, trivial, trivial, e2⟩)
    (fun a hi => by
      obtain ⟨⟨v0, _⟩, h1⟩ := a
      obtain ⟨e0, ds, hd, o1, hsh1⟩ := hi
      cases e0
      have o1 : Own h1 _ := o1
      refine ⟨_, hz h1, rfl, ds, hd, o1.to fun x => by simp only [cnt_append, List.drop_length, List.flatMap_nil, cnt_nil]; omega, hsh1⟩)
  have q0 : x = r2 := q0
  subst q0
  exact ⟨h', ds, e, q1, q2, q3⟩
end
end Go.Proofs.Ytkfdikcnpaechaa

/- Lists that are grown one by one, and looked at. -/
namespace Go.Proofs.Ytkfdikcnpaechaa
open Go
set_option linter.unusedVariables false
set_option linter.unusedSimpArgs false

/-- Kept: at the beginning of x, or elsewhere. -/
def Kq (es : Nat) (sh : Shs) (x : Value) (D : Ch) (a b : List Value) (m : Nat) (t : Value × Nat) : Prop := Bg es sh x t.1 (m + t.2) (cw a b m t.2) ∨ Kp es sh D t.1 (m + t.2) (cw a b m t.2)
section
variable {es n m k c i N nl : Nat} {s v u x lg : Value} {cs a b vs lvs : List Value} {A D F U Lg : Ch} {h : Heap} {ks : List (Value × Nat)}
theorem Kq.kp {sh : Shs} {t : Value × Nat} (hk : Kq es sh x D a b m t) (hs : Slc es x (m + c) (cw a b m c) A) (ht : t.2 ≤ c) (ha : a.length = es) (hb : b.length = es) : Kp es sh (A ++ D) t.1 (m + t.2) (cw a b m t.2) := by
  rcases hk with hk | hk
  · exact (hk.kp hs (cw_take ha hb ht).symm (by omega)).mono fun z hz => List.mem_append_left _ hz
  · exact hk.mono fun z hz => List.mem_append_right _ hz
/-- The list grows by one. -/
theorem grow1 (hs : Slc es x (m + c) (cw a b m c) A) (ho : Own h (A ++ (D ++ F))) (hd : ShD h) (hes : 1 ≤ es) (ha : a.length = es) (hb : b.length = es) {bytes : Nat} (hbt : (m + c + 1) * bytes ≤ 140737488355328)
    (hk : ∀ t ∈ ks, t.2 ≤ c ∧ Kq es h.sh x D a b m t) :
    ∃ x' h' A' D', appendSK (h.new (.cells b false es)) bytes es x (.slice (some ⟨h.next, 0, some 0⟩) 1 1) = some (x', h') ∧ Slc es x' (m + (c + 1)) (cw a b m (c + 1)) A' ∧ Own h' (A' ++ (D' ++ F)) ∧ ShD h' ∧ ShX F h.sh h'.sh ∧
      (∀ t ∈ ks ++ [(x', c + 1)], t.2 ≤ c + 1 ∧ Kq es h'.sh x' D' a b m t) := by
  obtain ⟨x', h', A', D1, e1, e2, e3, e4, e5, e6⟩ := hs.pushS2 (F := D ++ F) (new := b) ho hd hes hb hbt
  rw [cw_snoc] at e2
  have e2 : Slc es x' (m + (c + 1)) (cw a b m (c + 1)) A' := e2
  refine ⟨x', h', A', D1 ++ D, e1, e2, e3.to fun z => by simp only [cnt_append]; omega, e4, e5.mono fun z hz => List.mem_append_right _ hz, fun t ht => ?_⟩
  rcases List.mem_append.1 ht with ht | ht
  · obtain ⟨h1, h2⟩ := hk t ht
    refine ⟨by omega, ?_⟩
    rcases h2 with h2 | h2
    · rcases e6 h2 (cw_take ha hb h1).symm (by omega) with h3 | h3
      · exact .inl h3
      · exact .inr (h3.mono fun z hz => List.mem_append_left _ hz)
    · exact .inr ((h2.shx e5 fun z hz => List.mem_append_left _ hz).mono fun z hz => List.mem_append_right _ hz)
  · rw [List.mem_singleton.1 ht]
    exact ⟨Nat.le_refl _, .inl (e2.bg e3 e4)⟩
/-- A value is put behind the list of lists. -/
theorem long1 (hl : Slc 1 lg nl lvs Lg) (hs : Slc es x (m + c) (cw a b m c) A) (ho : Own h (Lg ++ (A ++ (D ++ F)))) (hd : ShD h) (hnl : (nl + 1) * 24 ≤ 140737488355328)
    (hk : ∀ t ∈ ks, t.2 ≤ c ∧ Kq es h.sh x D a b m t) {y : Value} :
    ∃ lg' h' Lg', appendSK (h.new (.cells [y] false 1)) 24 1 lg (.slice (some ⟨h.next, 0, some 0⟩) 1 1) = some (lg', h') ∧ Slc 1 lg' (nl + 1) (lvs ++ [y]) Lg' ∧ Own h' (Lg' ++ (A ++ (D ++ F))) ∧ ShD h' ∧ ShX (A ++ (D ++ F)) h.sh h'.sh ∧
      (∀ t ∈ ks, t.2 ≤ c ∧ Kq es h'.sh x D a b m t) := by
  obtain ⟨lg', h', Lg', D1, e1, e2, e3, e4, e5, e6⟩ := hl.pushS2 (new := [y]) ho hd (by decide) rfl hnl
  refine ⟨lg', h', Lg', e1, e2, e3.to fun z => by simp only [cnt_append]; omega, e4, e5, fun t ht => ?_⟩
  obtain ⟨h1, h2⟩ := hk t ht
  refine ⟨h1, ?_⟩
  rcases h2 with h2 | h2
  · exact .inl (h2.shx hs (by omega) e5 fun z hz => List.mem_append_left _ hz)
  · exact .inr (h2.shx e5 fun z hz => List.mem_append_right _ (List.mem_append_left _ hz))

/-- The numbers by which the kept lists of a group are longer. -/
def cc (M g : Nat) : Nat := if g < 16 then g + 1 else M
/-- One list, grown M times; the first sixteen are kept. -/
def GrI (es : Nat) (a b : List Value) (m nl : Nat) (lvs : List Value) (F : Ch) (sh0 : Shs) (v : Value) (k : Nat) (lg x : Value) (h1 : Heap) : Prop := ∃ Lg A D vs, Slc 1 lg (nl + min k 16) (lvs ++ vs) Lg ∧ vs.length = min k 16 ∧ Slc es x (m + k) (cw a b m k) A ∧ Own h1 (Lg ++ (A ++ (D ++ F))) ∧ ShD h1 ∧ ShX F sh0 h1.sh ∧
    ∃ ks : List (Value × Nat), (∀ t ∈ ks, t.2 ≤ k ∧ Kq es h1.sh x D a b m t) ∧ (∀ (g : Nat) (hg : g < vs.length), (vs[g], g + 1) ∈ ks) ∧ (v, 0) ∈ ks
theorem growIn {M : Nat} {a0 : List Value} {f : (Value × Value × Int × Unit) × Heap → Option (((Value × Value × Int × Unit) × Heap) ⊕ ((Value × Value × Unit) × Heap))} (hl : Slc 1 lg nl lvs Lg) (hv : Slc es v m (cw a0 b m 0) A) (ho : Own h (Lg ++ (A ++ F))) (hd : ShD h)
    (hes : 1 ≤ es) (ha : a0.length = es) (hb : b.length = es) {bytes : Nat} (hbt : ∀ c, c ≤ m + M → c * bytes ≤ 140737488355328) (hnl : (nl + 16) * 24 ≤ 140737488355328) (hM : 16 ≤ M) (hM2 : M ≤ 1000) (hn : M + 1 ≤ n)
    (hfA : ∀ (k : Nat) (lg x x' lg' : Value) (h h1 h2 : Heap), k < 16 → appendSK (h.new (.cells b false es)) bytes es x (.slice (some ⟨h.next, 0, some 0⟩) 1 1) = some (x', h1) → cellsOf x' = [x'] → isCell x' = true →
      appendSK (h1.new (.cells [x'] false 1)) 24 1 lg (.slice (some ⟨h1.next, 0, some 0⟩) 1 1) = some (lg', h2) → f ((lg, (x, ((k : Int), ()))), h) = some (.inl ((lg', (x', (IntKind.i64.wrap ((k : Int) + 1), ()))), h2)))
    (hfB : ∀ (k : Nat) (lg x x' : Value) (h h1 : Heap), 16 ≤ k → k < M → appendSK (h.new (.cells b false es)) bytes es x (.slice (some ⟨h.next, 0, some 0⟩) 1 1) = some (x', h1) → f ((lg, (x, ((k : Int), ()))), h) = some (.inl ((lg, (x', (IntKind.i64.wrap ((k : Int) + 1), ()))), h1)))
    (hz : ∀ (lg x : Value) (h : Heap), f ((lg, (x, ((M : Int), ()))), h) = some (.inr ((lg, (x, ())), h))) :
    ∃ lg' x' h' Lg' A' D vs, loopT f n ((lg, (v, ((0 : Int), ()))), h) = some ((lg', (x', ())), h') ∧ Slc 1 lg' (nl + 16) (lvs ++ vs) Lg' ∧ vs.length = 16 ∧ Slc es x' (m + M) (cw a0 b m M) A' ∧ Own h' (Lg' ++ (A' ++ (D ++ F))) ∧ ShD h' ∧ ShX F h.sh h'.sh ∧
      (∀ (g : Nat) (hg : g < vs.length), Kq es h'.sh x' D a0 b m (vs[g], g + 1)) ∧ Kq es h'.sh x' D a0 b m (v, 0) := by
  obtain ⟨⟨⟨lg', x', _⟩, h'⟩, e, q⟩ := loopT_up (f := f)
    (fun k (a : (Value × Value × Int × Unit) × Heap) => a.1.2.2.1 = (k : Int) ∧ GrI es a0 b m nl lvs F h.sh v k a.1.1 a.1.2.1 a.2)
    (fun r => GrI es a0 b m nl lvs F h.sh v M r.1.1 r.1.2.1 r.2) (N := M) (k := n) (j := 0) (a := ((lg, (v, ((0 : Int), ()))), h)) (by omega) (by omega)
    ⟨rfl, Lg, A, [], [], by simpa using hl, rfl, hv, ho, hd, ShX.refl, [(v, 0)], fun t ht => by
      rw [List.mem_singleton.1 ht]
      exact ⟨Nat.le_refl _, .inl (hv.bg (F := Lg ++ F) (ho.to fun z => by simp only [cnt_append]; omega) hd)⟩, fun g hg => absurd hg (Nat.not_lt_zero _), List.mem_singleton.2 rfl⟩
    (fun k a hk hi => by
      have hnl2 : k < 16 → (nl + k + 1) * 24 ≤ 140737488355328 := fun h => Nat.le_trans (Nat.mul_le_mul_right 24 (by omega)) hnl
      obtain ⟨⟨lg, x, k0, _⟩, h1⟩ := a
      obtain ⟨e0, hi⟩ := hi
      obtain ⟨Lg, A, D, vs, i1, i2, i3, i4, i5, i6, ks, i7, i8, i9⟩ := hi
      have e0 : k0 = (k : Int) := e0
      subst e0
      have i4 : Own h1 _ := i4
      have i5 : ShD h1 := i5
      have i1 : Slc 1 lg _ _ Lg := i1
      have i3 : Slc es x _ _ A := i3
      obtain ⟨x2, h2, A2, D2, g1, g2, g3, g4, g5, g6⟩ := grow1 i3 (F := Lg ++ F) (h := h1) (i4.to fun z => by simp only [cnt_append]; omega) i5 hes ha hb (hbt _ (by omega)) i7
      by_cases hk16 : k < 16
      · have hmin : min k 16 = k := Nat.min_eq_left (by omega)
        have hmin' : min (k + 1) 16 = k + 1 := Nat.min_eq_left (by omega)
        rw [hmin] at i1 i2
        obtain ⟨lg3, h3, Lg3, j1, j2, j3, j4, j5, j6⟩ := long1 i1 g2 (F := F) (h := h2) (g3.to fun z => by simp only [cnt_append]; omega) g4 (hnl2 hk16) g6 (y := x2)
        have hF := hfA k lg x x2 lg3 h1 h2 h3 hk16 g1 g2.cellsOf g2.isCell j1
        rw [wrap_succ (show k < 4611686018427387904 by omega)] at hF
        have hI : GrI es a0 b m nl lvs F h.sh v (k + 1) lg3 x2 h3 := by
         refine ⟨Lg3, A2, D2, vs ++ [x2], ?_, by simp [i2, hmin'], g2, j3, j4, ?_, ks ++ [(x2, k + 1)], j6, ?_, List.mem_append_left _ i9⟩
         · rw [hmin', ← List.append_assoc]; exact j2
         · exact (i6.trans (g5.mono fun z hz => List.mem_append_right _ hz)).trans (j5.mono fun z hz => List.mem_append_right _ (List.mem_append_right _ hz))
         · intro g hg
           by_cases hgl : g < vs.length
           · rw [List.getElem_append_left hgl]; exact List.mem_append_left _ (i8 g hgl)
           · have : g = vs.length := by simp at hg; omega
             subst this
             rw [List.getElem_append_right (Nat.le_refl _)]
             simp [i2]
        exact .inl ⟨((lg3, (x2, (((k + 1 : Nat) : Int), ()))), h3), hF, rfl, hI⟩
      · have hmin : min k 16 = 16 := Nat.min_eq_right (by omega)
        have hmin' : min (k + 1) 16 = 16 := Nat.min_eq_right (by omega)
        rw [hmin] at i1 i2
        have hF := hfB k lg x x2 h1 h2 (by omega) hk g1
        rw [wrap_succ (show k < 4611686018427387904 by omega)] at hF
        exact .inl ⟨((lg, (x2, (((k + 1 : Nat) : Int), ()))), h2), hF, rfl, Lg, A2, D2, vs, by rw [hmin']; exact i1, by rw [hmin']; exact i2, g2, g3.to fun z => by simp only [cnt_append]; omega, g4, i6.trans (g5.mono fun z hz => List.mem_append_right _ hz), ks ++ [(x2, k + 1)], g6, fun g hg => List.mem_append_left _ (i8 g hg), List.mem_append_left _ i9⟩)
    (fun a hi => by
      obtain ⟨⟨lg, x, k0, _⟩, h1⟩ := a
      obtain ⟨e0, hi⟩ := hi
      have e0 : k0 = (M : Int) := e0
      subst e0
      exact ⟨_, hz lg x h1, hi⟩)
  obtain ⟨Lg', A', D', vs, i1, i2, i3, i4, i5, i6, ks, i7, i8, i9⟩ := q
  have hmin : min M 16 = 16 := Nat.min_eq_right hM
  rw [hmin] at i1 i2
  exact ⟨lg', x', h', Lg', A', D', vs, e, i1, i2, i3, i4, i5, i6, fun g hg => (i7 _ (i8 g hg)).2, (i7 _ i9).2⟩
end

/-- A group of grown lists. -/
structure Gp where
  vs : List Value
  G : Ch
structure Gpd (es M : Nat) (mk gr : Nat → List Value) (sh : Shs) (xs : List Ax) (gs : List Gp) (j : Nat) : Prop where
  len : gs.length = j
  vs : ∀ (i : Nat) (y : Gp), gs[i]? = some y → y.vs.length = 17
  g : ∀ (i : Nat) (y : Gp) (x : Ax), gs[i]? = some y → xs[i]? = some x → ∀ (k : Nat) (w : Value), y.vs[k]? = some w → Kp es sh y.G w (x.m + cc M k) (cw (mk i) (gr i) x.m (cc M k))
  k : ∀ (i : Nat) (y : Gp) (x : Ax), gs[i]? = some y → xs[i]? = some x → Kp es sh y.G x.v x.m (cw (mk i) (gr i) x.m 0)
theorem snoc_at {α : Type} {l : List α} {y z : α} {i : Nat} (h : (l ++ [y])[i]? = some z) : l[i]? = some z ∨ (i = l.length ∧ z = y) := by
  by_cases hi : i < l.length
  · rw [List.getElem?_append_left hi] at h; exact .inl h
  · rw [List.getElem?_append_right (by omega)] at h
    have h1 := (List.getElem?_eq_some_iff.1 h).1
    simp only [List.length_singleton] at h1
    have : i - l.length = 0 := by omega
    rw [this] at h
    simp at h
    exact .inr ⟨by omega, h.symm⟩
section
variable {es n m k c i N nl : Nat} {s v u x lg : Value} {cs a b vs lvs : List Value} {A D F U Lg : Ch} {h : Heap} {xs : List Ax}
theorem flat17_at {gs : List Gp} (hg : ∀ (i : Nat) (y : Gp), gs[i]? = some y → y.vs.length = 17) {i g : Nat} {y : Gp} (hi : gs[i]? = some y) (hgl : g < 17) : (gs.flatMap Gp.vs)[17 * i + g]? = y.vs[g]? := by
  obtain ⟨h1, h2⟩ := List.getElem?_eq_some_iff.1 hi
  have := flat_get (xs := gs) (f := Gp.vs) (e := 17) (fun x hx => by obtain ⟨i, hi, rfl⟩ := List.getElem_of_mem hx; exact hg i _ (List.getElem?_eq_getElem hi)) h1
  rw [h2] at this
  rw [← this, List.getElem?_take, if_pos hgl, List.getElem?_drop, Nat.mul_comm 17 i]
theorem grows_gen {M B : Nat} {mk gr : Nat → List Value} {bytes : Nat} {fin : Nat → (Value × Value × Int × Unit) × Heap → Option (((Value × Value × Int × Unit) × Heap) ⊕ ((Value × Value × Unit) × Heap))} {f : (Value × Int × Unit) × Heap → Option (((Value × Int × Unit) × Heap) ⊕ ((Value × Unit) × Heap))}
    (hu : Slc 1 u xs.length (xs.map Ax.v) U) (hx : ∀ (i : Nat) (h1 : i < xs.length), Slc es xs[i].v xs[i].m (cw (mk i) (gr i) xs[i].m 0) xs[i].A ∧ xs[i].m ≤ B) (ho : Own h (U ++ (xs.flatMap Ax.A ++ F))) (hd : ShD h)
    (hes : 1 ≤ es) (ha : ∀ i, (mk i).length = es) (hb : ∀ i, (gr i).length = es) (hbt : ∀ c, c ≤ B + M → c * bytes ≤ 140737488355328) (hnl : xs.length ≤ 100000000000) (hM : 16 ≤ M) (hM2 : M ≤ 1000) (hn : M + 1 ≤ n) (hn2 : xs.length + 1 ≤ n)
    (hfA : ∀ (i k : Nat) (lg x x' lg' : Value) (h h1 h2 : Heap), k < 16 → appendSK (h.new (.cells (gr i) false es)) bytes es x (.slice (some ⟨h.next, 0, some 0⟩) 1 1) = some (x', h1) → cellsOf x' = [x'] → isCell x' = true →
      appendSK (h1.new (.cells [x'] false 1)) 24 1 lg (.slice (some ⟨h1.next, 0, some 0⟩) 1 1) = some (lg', h2) → fin i ((lg, (x, ((k : Int), ()))), h) = some (.inl ((lg', (x', (IntKind.i64.wrap ((k : Int) + 1), ()))), h2)))
    (hfB : ∀ (i k : Nat) (lg x x' : Value) (h h1 : Heap), 16 ≤ k → k < M → appendSK (h.new (.cells (gr i) false es)) bytes es x (.slice (some ⟨h.next, 0, some 0⟩) 1 1) = some (x', h1) → fin i ((lg, (x, ((k : Int), ()))), h) = some (.inl ((lg, (x', (IntKind.i64.wrap ((k : Int) + 1), ()))), h1)))
    (hzin : ∀ (i : Nat) (lg x : Value) (h : Heap), fin i ((lg, (x, ((M : Int), ()))), h) = some (.inr ((lg, (x, ())), h)))
    (hf : ∀ (i : Nat) (lg v lg1 x1 lg2 : Value) (h h1 h2 : Heap) (q : Addr), i < xs.length → ixB 1 u (i : Int) = some q → ldTS .any h (some q) = some v → loopT (fin i) n ((lg, (v, ((0 : Int), ()))), h) = some ((lg1, (x1, ())), h1) → cellsOf x1 = [x1] → isCell x1 = true →
      appendSK (h1.new (.cells [x1] false 1)) 24 1 lg1 (.slice (some ⟨h1.next, 0, some 0⟩) 1 1) = some (lg2, h2) → f ((lg, ((i : Int), ())), h) = some (.inl ((lg2, (IntKind.i64.wrap ((i : Int) + 1), ())), h2)))
    (hz : ∀ (lg : Value) (h : Heap), f ((lg, ((xs.length : Int), ())), h) = some (.inr ((lg, ()), h))) :
    ∃ lg' h' Lg' gs, loopT f n ((.slice none 0 0, ((0 : Int), ())), h) = some ((lg', ()), h') ∧ Slc 1 lg' (17 * xs.length) (gs.flatMap Gp.vs) Lg' ∧ Gpd es M mk gr h'.sh xs gs xs.length ∧ Own h' (Lg' ++ (gs.flatMap Gp.G ++ (U ++ F))) ∧ ShD h' := by
  obtain ⟨⟨⟨lg', _⟩, h'⟩, e, Lg', gs, q1, q2, q3, q4⟩ := loopT_up (f := f)
    (fun j (a : (Value × Int × Unit) × Heap) => a.1.2.1 = (j : Int) ∧ ∃ Lg gs, Slc 1 a.1.1 (17 * j) (gs.flatMap Gp.vs) Lg ∧ Gpd es M mk gr a.2.sh xs gs j ∧ Own a.2 (Lg ++ (gs.flatMap Gp.G ++ (U ++ ((xs.drop j).flatMap Ax.A ++ F)))) ∧ ShD a.2)
    (fun r => ∃ Lg gs, Slc 1 r.1.1 (17 * xs.length) (gs.flatMap Gp.vs) Lg ∧ Gpd es M mk gr r.2.sh xs gs xs.length ∧ Own r.2 (Lg ++ (gs.flatMap Gp.G ++ (U ++ F))) ∧ ShD r.2) (N := xs.length) (k := n) (j := 0) (a := ((.slice none 0 0, ((0 : Int), ())), h)) (by omega) (by omega)
    ⟨rfl, [], [], .nil, ⟨rfl, fun i y h => (by simp at h), fun i y x h => (by simp at h), fun i y x h => (by simp at h)⟩, ho, hd⟩
    (fun j a hj hi => by
      obtain ⟨⟨lg, j0, _⟩, h1⟩ := a
      obtain ⟨e0, Lg, gs, i1, i2, i3, i4⟩ := hi
      have e0 : j0 = (j : Int) := e0
      subst e0
      have i3 : Own h1 _ := i3
      have i4 : ShD h1 := i4
      have i1 : Slc 1 lg _ _ Lg := i1
      obtain ⟨x1, x2⟩ := hx j hj
      have hvj : (xs.map Ax.v)[j]? = some xs[j].v := by rw [List.getElem?_map, List.getElem?_eq_getElem hj]; rfl
      obtain ⟨q, s1, s2⟩ := sl_at hu (F := Lg ++ (gs.flatMap Gp.G ++ ((xs.drop j).flatMap Ax.A ++ F))) (h := h1) (i3.to fun z => by simp only [cnt_append]; omega) i4 hvj
      have hbj : ∀ c, c ≤ xs[j].m + M → c * bytes ≤ 140737488355328 := fun c hc => hbt c (by omega)
      obtain ⟨lg2, x2', h2, Lg2, A2, D2, vs2, e1, e2, e3, e4, e5, e6, e7, e8, e9⟩ := growIn (f := fin j) (M := M) (n := n) i1 x1 (F := gs.flatMap Gp.G ++ (U ++ ((xs.drop (j + 1)).flatMap Ax.A ++ F))) (h := h1) (i3.to fun z => by have := ax_cnt hj z; simp only [cnt_append]; omega) i4 hes (ha j) (hb j) hbj (by omega) hM hM2 hn (hfA j) (hfB j) (hzin j)
      obtain ⟨lg3, h3, Lg3, j1, j2, j3, j4, j5, j6⟩ := long1 (ks := [(xs[j].v, 0), (x2', M)] ++ (vs2.zipIdx.map fun t => (t.1, t.2 + 1))) e2 e4 (F := gs.flatMap Gp.G ++ (U ++ ((xs.drop (j + 1)).flatMap Ax.A ++ F))) (h := h2) e5 e6 (by omega) (fun t ht => by
        simp only [List.mem_append, List.mem_cons, List.not_mem_nil, or_false, List.mem_map] at ht
        rcases ht with (rfl | rfl) | ⟨⟨w, g⟩, hw, rfl⟩
        · exact ⟨by simp, e9⟩
        · exact ⟨Nat.le_refl _, .inl (e4.bg (F := Lg2 ++ (D2 ++ (gs.flatMap Gp.G ++ (U ++ ((xs.drop (j + 1)).flatMap Ax.A ++ F))))) (e5.to fun z => by simp only [cnt_append]; omega) e6)⟩
        · have hw := List.mem_zipIdx hw
          simp only [Nat.zero_add, Nat.sub_zero] at hw
          obtain ⟨_, h5, h6⟩ := hw
          have := e8 g h5
          rw [← h6] at this
          exact ⟨by simp only; omega, this⟩) (y := x2')
      have hkp : ∀ t, t ∈ [(xs[j].v, 0), (x2', M)] ++ (vs2.zipIdx.map fun t => (t.1, t.2 + 1)) → Kp es h3.sh (A2 ++ D2) t.1 (xs[j].m + t.2) (cw (mk j) (gr j) xs[j].m t.2) := fun t ht => (j6 t ht).2.kp e4 (j6 t ht).1 (ha j) (hb j)
      refine .inl ⟨_, hf j lg xs[j].v lg2 x2' lg3 h1 h2 h3 q hj s1 s2 e1 e4.cellsOf e4.isCell j1, by rw [wrap_succ (show j < 4611686018427387904 by omega)], Lg3, gs ++ [⟨vs2 ++ [x2'], A2 ++ D2⟩], ?_, ⟨by simp [i2.len], fun i y g1 => ?_, fun i y xx g1 g2 g w g3 => ?_, fun i y xx g1 g2 => ?_⟩, j3.to fun z => by simp only [cnt_append, List.flatMap_append, List.flatMap_cons, List.flatMap_nil, cnt_nil]; omega, j4⟩
      · have : 17 * (j + 1) = 17 * j + 16 + 1 := by omega
        rw [this, List.flatMap_append, List.flatMap_cons, List.flatMap_nil, List.append_nil, ← List.append_assoc]
        exact j2
      · rcases snoc_at g1 with g1 | ⟨_, rfl⟩
        · exact i2.vs i y g1
        · simp [e3]
      · rcases snoc_at g1 with g1 | ⟨hi, rfl⟩
        · have hm := List.mem_of_getElem? g1
          exact ((i2.g i y xx g1 g2 g w g3).shx (e7.mono fun z hz => List.mem_append_left _ hz) fun z hz => List.mem_flatMap.2 ⟨_, hm, hz⟩).shx j5 fun z hz => List.mem_append_right _ (List.mem_append_right _ (List.mem_append_left _ (List.mem_flatMap.2 ⟨_, hm, hz⟩)))
        · have hij : i = j := by rw [hi, i2.len]
          subst hij
          rw [List.getElem?_eq_getElem hj] at g2
          obtain rfl := Option.some.inj g2
          rcases snoc_at g3 with g3 | ⟨hg, rfl⟩
          · obtain ⟨h5, h6⟩ := List.getElem?_eq_some_iff.1 g3
            have h7 := hkp (w, g + 1) (List.mem_append_right _ (List.mem_map.2 ⟨(w, g), by rw [List.mem_zipIdx_iff_getElem?]; exact g3, rfl⟩))
            rw [cc, if_pos (by omega)]
            exact h7
          · rw [cc, if_neg (by omega)]
            exact hkp (w, M) (by simp)
      · rcases snoc_at g1 with g1 | ⟨hi, rfl⟩
        · have hm := List.mem_of_getElem? g1
          exact ((i2.k i y xx g1 g2).shx (e7.mono fun z hz => List.mem_append_left _ hz) fun z hz => List.mem_flatMap.2 ⟨_, hm, hz⟩).shx j5 fun z hz => List.mem_append_right _ (List.mem_append_right _ (List.mem_append_left _ (List.mem_flatMap.2 ⟨_, hm, hz⟩)))
        · have hij : i = j := by rw [hi, i2.len]
          subst hij
          rw [List.getElem?_eq_getElem hj] at g2
          obtain rfl := Option.some.inj g2
          exact hkp (xs[i].v, 0) (by simp))
    (fun a hi => by
      obtain ⟨⟨lg, j0, _⟩, h1⟩ := a
      obtain ⟨e0, Lg, gs, i1, i2, i3, i4⟩ := hi
      have e0 : j0 = ((xs.length : Nat) : Int) := e0
      subst e0
      have i3 : Own h1 _ := i3
      exact ⟨_, hz lg h1, Lg, gs, i1, i2, i3.to fun x => by simp only [cnt_append, List.drop_length, List.flatMap_nil, cnt_nil]; omega, i4⟩)
  exact ⟨lg', h', Lg', gs, e, q1, q2, q3, q4⟩

/-- The marks are looked at. -/
theorem look1 {R : Type} {r : R} {f : (Int × Unit) × Heap → Option (((Int × Unit) × Heap) ⊕ R)} (hk : Kp es h.sh D v m (cw a b m c)) (hcm : c = 0) (ho : Own h (D ++ F)) (ha : a.length = es) (hsa : Go.Proofs.Ytkfdikcnpaechaa.sameL a a = true) (hsb : Go.Proofs.Ytkfdikcnpaechaa.sameL b b = true)
    (hf : ∀ (k : Nat) (q : Addr), k < m → ixB es v (k : Int) = some q → ldAS es h (some q) = some a → f (((k : Int), ()), h) = some (.inl ((IntKind.i64.wrap ((k : Int) + 1), ()), h)))
    (hz : f (((m : Int), ()), h) = some (.inr r)) (hm : m < 4611686018427387904) (hn : m + 1 ≤ n) : loopT f n (((0 : Int), ()), h) = some r := by
  obtain ⟨x, e, q⟩ := loopT_up (f := f) (fun k (a : (Int × Unit) × Heap) => a = (((k : Int), ()), h)) (fun x => x = r) (N := m) (k := n) (j := 0) (a := ((0, ()), h)) (by omega) (by omega) rfl
    (fun k a hkm hi => by
      subst hi
      obtain ⟨q, e1, e2⟩ := hk.ldA ho (sameL_cw hsa hsb) hkm
      rw [cw_lo ha hkm] at e2
      exact .inl ⟨_, hf k q hkm e1 e2, by rw [wrap_succ (show k < 4611686018427387904 by omega)]⟩)
    (fun a hi => by subst hi; exact ⟨_, hz, rfl⟩)
  rw [e, q]
/-- What is behind is looked at. -/
theorem look2 {R : Type} {r : R} {f : (Int × Unit) × Heap → Option (((Int × Unit) × Heap) ⊕ R)} (hk : Kp es h.sh D v (m + c) (cw a b m c)) (ho : Own h (D ++ F)) (ha : a.length = es) (hb : b.length = es) (hsa : Go.Proofs.Ytkfdikcnpaechaa.sameL a a = true) (hsb : Go.Proofs.Ytkfdikcnpaechaa.sameL b b = true)
    (hf : ∀ (k : Nat) (q : Addr), k < m + c → ixB es v (k : Int) = some q → ldAS es h (some q) = some b → f (((k : Int), ()), h) = some (.inl ((IntKind.i64.wrap ((k : Int) + 1), ()), h)))
    (hz : f ((((m + c : Nat) : Int), ()), h) = some (.inr r)) (hm : m + c < 4611686018427387904) (hn : c + 1 ≤ n) : loopT f n (((m : Int), ()), h) = some r := by
  obtain ⟨x, e, q⟩ := loopT_up (f := f) (fun k (a : (Int × Unit) × Heap) => a = ((((m + k : Nat) : Int), ()), h)) (fun x => x = r) (N := c) (k := n) (j := 0) (a := (((m : Int), ()), h)) (by omega) (by omega) rfl
    (fun k a hkm hi => by
      subst hi
      obtain ⟨q, e1, e2⟩ := hk.ldA ho (sameL_cw hsa hsb) (i := m + k) (by omega)
      rw [cw_hi ha hb hkm] at e2
      exact .inl ⟨_, hf (m + k) q (by omega) e1 e2, by rw [wrap_succ (show m + k < 4611686018427387904 by omega)]; rfl⟩)
    (fun a hi => by subst hi; exact ⟨_, hz, rfl⟩)
  rw [e, q]
end
end Go.Proofs.Ytkfdikcnpaechaa

/- Hidden and only looked at: several blocks at once. -/
namespace Go.Proofs.Ytkfdikcnpaechaa
open Go
set_option linter.unusedVariables false
set_option linter.unusedSimpArgs false
theorem append_at {h h' : Heap} {bytes es n c k c' : Nat} {a : Option Addr} {y : Value} {q : Addr} (e : appendK h bytes es (.slice a n c) y = some (.slice (some q) k c', h')) : (∃ p, a = some p ∧ q.block = p.block) ∨ q.block = h.next := by
  cases y with
  | slice b m c2 =>
    simp only [appendK] at e
    cases hs : srcCells h b (m * es) with
    | none => rw [hs] at e; cases e
    | some new =>
      rw [hs] at e
      simp only [Option.bind_some, appendL, Bool.cond_eq_ite] at e
      split at e
      · split at e
        · cases hp : putCells h a (n * es) new with
          | none => rw [hp] at e; cases e
          | some h2 => rw [hp] at e; cases e; exact .inl ⟨q, rfl, rfl⟩
        · unfold growCells at e
          split at e
          · cases e; exact .inr rfl
          · rename_i p
            cases h1 : readCells h p.block p.off (n * es) with
            | none => rw [h1] at e; cases e
            | some old =>
              cases h2 : letGo h p c es with
              | none => rw [h1, h2] at e; cases e
              | some h3 => rw [h1, h2] at e; cases e; exact .inr rfl
      · cases e
  | _ => simp [appendK] at e
theorem append_next {h h' : Heap} {bytes es : Nat} {s y s' : Value} (e : appendK h bytes es s y = some (s', h')) : h.next ≤ h'.next := by
  cases s with
  | slice a n c =>
    cases y with
    | slice b m c2 =>
      simp only [appendK] at e
      cases hs : srcCells h b (m * es) with
      | none => rw [hs] at e; cases e
      | some new =>
        rw [hs] at e
        simp only [Option.bind_some, appendL, Bool.cond_eq_ite] at e
        split at e
        · split at e
          · unfold putCells at e
            split at e
            · cases e; exact Nat.le_refl _
            · unfold writeCells at e
              split at e
              · simp only [Bool.cond_eq_ite] at e
                split at e
                · cases e; exact Nat.le_refl _
                · cases e
              · cases e
          · unfold growCells at e
            split at e
            · cases e; exact Nat.le_succ _
            · rename_i p
              cases h1 : readCells h p.block p.off (n * es) with
              | none => rw [h1] at e; cases e
              | some old =>
                cases h2 : letGo h p c es with
                | none => rw [h1, h2] at e; cases e
                | some h3 =>
                  rw [h1, h2] at e; cases e
                  have : h3.next = h.next := by
                    unfold letGo at h2
                    split at h2
                    · cases h2; rfl
                    · split at h2
                      · simp only [Bool.cond_eq_ite] at h2
                        split at h2
                        · cases h2; rfl
                        · cases h2
                      · cases h2
                  show h.next ≤ h3.next + 1
                  omega
        · cases e
    | _ => simp [appendK] at e
  | _ => simp [appendK] at e
theorem Slc.at_keys {es n : Nat} {s : Value} {cs : List Value} {A : Ch} (hs : Slc es s n cs A) : ∀ x ∈ A, ∃ q k c, s = .slice (some q) k c ∧ x.1 = q.block := by
  cases hs with
  | nil => intro x hx; cases hx
  | mk' hp hl hr => intro x hx; rw [List.mem_singleton.1 hx]; exact ⟨_, _, _, rfl, rfl⟩
theorem Slc.pre' {b off k m c : Nat} {sp : Option Nat} {cs : List Value} {A : Ch} (hs : Slc 1 (.slice (some ⟨b, off, sp⟩) m c) m cs A) (hk : k ≤ m) : Slc 1 (.slice (some ⟨b, off, sp⟩) k c) k (cs.take k) A := by
  cases hs with
  | @mk' _ _ _ _ _ pre _ rest hp hl hr =>
    have e : pre ++ (cs ++ rest) = pre ++ (cs.take k ++ (cs.drop k ++ rest)) := by rw [← List.append_assoc (cs.take k), List.take_append_drop]
    rw [e]
    exact .mk' hp (by rw [List.length_take]; omega) ⟨fun _ => by have := hr.1 (Nat.le_refl _); omega, by have := hr.2; simp; omega⟩
section
variable {h h' h0 : Heap} {b r es : Nat} {o : AObj} {cs : List Value} {q : Bool} {F X : Ch}
theorem Own.roD (ho : Own h ((b, o) :: (r, .cells cs q es) :: F)) : Own (hid h [b] [r]) ((r, .cells cs true es) :: F) := by
  have h1 := ho.drop
  have := h1.ro
  exact this
theorem Own.backD (ho : Own h ((r, .cells cs true es) :: X)) (g1 : h0.get r = some (.cells cs q es)) (g2 : h0.get b = some o) (hb : b < h.next) (hbr : b ≠ r) (hX : ∀ x ∈ X, x.1 ≠ b) : Own (h.putBack h0 ([b] ++ [r])) ((b, o) :: (r, .cells cs q es) :: X) := by
  have h1 := Own.back (h0 := h0) ho g1
  refine Own.cons (h1.keep (fun x hx => ?_) (by rw [Heap.next_putBack, Heap.next_putBack]; exact Nat.le_refl _)) ?_ ?_ ?_
  · rw [Heap.get_putBack, Heap.get_putBack]
    have hxb : x.1 ≠ b := by
      rcases List.mem_cons.1 hx with rfl | hx
      · exact fun e => hbr e.symm
      · exact hX x hx
    simp only [List.cons_append, List.nil_append, List.mem_cons, List.not_mem_nil, or_false, hxb, false_or]
  · rw [Heap.get_putBack, if_pos (by simp)]; exact g2
  · rw [Heap.next_putBack]; exact hb
  · intro y hy
    rcases List.mem_cons.1 hy with rfl | hy
    · exact fun e => hbr e.symm
    · exact hX y hy
end
def roA : Nat × AObj → Nat × AObj
  | (b, .cells cs _ es) => (b, .cells cs true es)
  | x => x
theorem roA_fst {x : Nat × AObj} : (roA x).1 = x.1 := by
  obtain ⟨b, o⟩ := x
  cases o <;> rfl
section
variable {h h' h0 : Heap} {A F X : Ch} {l : List Nat}
theorem Own.roL (ho : Own h (A ++ F)) (hl : ∀ r, r ∈ l ↔ ∃ x ∈ A, x.1 = r) (hc : ∀ x ∈ A, ∃ cs q es, x.2 = .cells cs q es) : Own (hid h [] l) (A.map roA ++ F) := by
  refine ⟨fun x hx => ?_, ?_, fun x hx => ?_⟩
  · rcases List.mem_append.1 hx with hx | hx
    · obtain ⟨y, hy, rfl⟩ := List.mem_map.1 hx
      rw [roA_fst, get_hid, if_pos ((hl _).2 ⟨y, hy, rfl⟩)]
      have := ho.get y (List.mem_append_left _ hy)
      obtain ⟨cs, q, es, e⟩ := hc y hy
      obtain ⟨b, o⟩ := y
      simp only at e
      subst e
      rw [if_neg List.not_mem_nil, this]; rfl
    · rw [get_hid, if_neg (fun hm => by
        obtain ⟨y, hy, e⟩ := (hl _).1 hm
        exact ho.apart hy hx e), if_neg List.not_mem_nil]
      exact ho.get x (List.mem_append_right _ hx)
  · have := ho.nodup
    rw [List.map_append, List.map_map]
    rw [List.map_append] at this
    have e : (A.map ((fun x => x.1) ∘ roA)) = A.map (·.1) := List.map_congr_left fun x _ => roA_fst
    rwa [e]
  · rw [next_hid]
    rcases List.mem_append.1 hx with hx | hx
    · obtain ⟨y, hy, rfl⟩ := List.mem_map.1 hx
      rw [roA_fst]; exact ho.lt y (List.mem_append_left _ hy)
    · exact ho.lt x (List.mem_append_right _ hx)
theorem Own.backL (ho : Own h (A.map roA ++ X)) (hl : ∀ r, r ∈ l ↔ ∃ x ∈ A, x.1 = r) (hg : ∀ x ∈ A, h0.get x.1 = some x.2) : Own (h.putBack h0 l) (A ++ X) := by
  refine ⟨fun x hx => ?_, ?_, fun x hx => ?_⟩
  · rw [Heap.get_putBack]
    rcases List.mem_append.1 hx with hx | hx
    · rw [if_pos ((hl _).2 ⟨x, hx, rfl⟩)]; exact hg x hx
    · rw [if_neg (fun hm => by
        obtain ⟨y, hy, e⟩ := (hl _).1 hm
        exact ho.apart (List.mem_map_of_mem hy) hx (by rw [roA_fst]; exact e))]
      exact ho.get x (List.mem_append_right _ hx)
  · have := ho.nodup
    rw [List.map_append, List.map_map] at this
    rw [List.map_append]
    have e : (A.map ((fun x => x.1) ∘ roA)) = A.map (·.1) := List.map_congr_left fun x _ => roA_fst
    rwa [e] at this
  · rw [Heap.next_putBack]
    rcases List.mem_append.1 hx with hx | hx
    · have := ho.lt (roA x) (List.mem_append_left _ (List.mem_map_of_mem hx))
      rwa [roA_fst] at this
    · exact ho.lt x (List.mem_append_right _ hx)
end
section
variable {n : Nat} {A F : Ch} {h : Heap} {s : Value} {cs : List Value}
theorem hid_str (hs : Slc 1 s n cs A) (ho : Own h (A ++ F)) : ∃ A1, Own (hid h [] (strReads s ++ [])) (A1 ++ F) ∧ ∀ (h' : Heap) (X : Ch), Own h' (A1 ++ X) → Own (h'.putBack h ([] ++ (strReads s ++ []))) (A ++ X) := by
  cases hs with
  | nil =>
    refine ⟨[], ho.keep (fun x hx => ?_) (by rw [next_hid]; exact Nat.le_refl _), fun h' X o => o.keep (fun x hx => ?_) (by rw [Heap.next_putBack]; exact Nat.le_refl _)⟩
    · rw [get_hid, if_neg (by simp [strReads])]; simp
    · rw [Heap.get_putBack, if_neg (by simp [strReads])]
  | @mk' b off sp _ c pre _ rest hp hl hr =>
    exact ⟨[(b, .cells (pre ++ (cs ++ rest)) true 1)], Own.ro (F := F) ho, fun h' X o => Own.back (X := X) o ho.head⟩
theorem Slc.reads (hs : Slc 1 s n cs A) (r : Nat) : (r ∈ strReads s ↔ ∃ x ∈ A, x.1 = r) ∧ ∀ x ∈ A, ∃ cs q es, x.2 = .cells cs q es := by
  cases hs with
  | nil => simp [strReads]
  | mk' hp hl hr =>
    refine ⟨?_, fun x hx => by rw [List.mem_singleton.1 hx]; exact ⟨_, _, _, rfl⟩⟩
    simp only [strReads_slice, List.mem_singleton]
    constructor
    · rintro rfl; exact ⟨_, rfl, rfl⟩
    · rintro ⟨x, rfl, rfl⟩; rfl
end
theorem mem_blk {r b : Nat} {o : AObj} {A : Ch} : (∃ x ∈ (b, o) :: A, x.1 = r) ↔ r = b ∨ ∃ x ∈ A, x.1 = r := by
  constructor
  · rintro ⟨x, hx, rfl⟩
    rcases List.mem_cons.1 hx with rfl | hx
    · exact .inl rfl
    · exact .inr ⟨x, hx, rfl⟩
  · rintro (rfl | ⟨x, hx, rfl⟩)
    · exact ⟨_, List.mem_cons_self .., rfl⟩
    · exact ⟨x, List.mem_cons_of_mem _ hx, rfl⟩
theorem which_ok (z : Int) : ∃ w : Nat, w < 2 ∧ Int.tmod (IntKind.i64.wrap (Int.tmod z 2 + 2)) 2 = (w : Int) ∧ IntKind.i64.wrap (1 - (w : Int)) = ((1 - w : Nat) : Int) := by
  have : Int.tmod z 2 = -1 ∨ Int.tmod z 2 = 0 ∨ Int.tmod z 2 = 1 := by
    by_cases h0 : 0 ≤ z
    · rw [Int.tmod_eq_emod_of_nonneg h0]; omega
    · obtain ⟨m, rfl⟩ : ∃ m, z = -m := ⟨-z, by omega⟩
      rw [Int.neg_tmod, Int.tmod_eq_emod_of_nonneg (by omega)]; omega
  rcases this with e | e | e <;> rw [e]
  · exact ⟨1, by decide, rfl, rfl⟩
  · exact ⟨0, by decide, rfl, rfl⟩
  · exact ⟨1, by decide, rfl, rfl⟩
theorem fill0 : fillL [] [] = some [] := rfl
theorem fill1 {d u : Value} (h1 : cellsOf u = [u]) (h2 : isCell u = true) : fillL [d] [(0, 1, u)] = some [u] := by
  simp [fillL, h1, h2, writeAt]; rfl
theorem sow_cell {es m : Nat} {s : Value} {cs : List Value} {G F : Ch} {h : Heap} (hs : Sow es s m cs G) (ho : Own h (G ++ F)) : isCell s = true := by
  obtain ⟨a, c, rfl⟩ := (hs.rds ho).form; rfl
theorem str_eql {h : Heap} {a b : ByteArray} (e : a = b) : binsT .bool h .eql (.string a) (.string b) = some true := by
  subst e
  simp [binsT, binsK, strOp, Ty.prj]
section
variable {n m : Nat} {A F : Ch} {h : Heap} {v : Value} {X : List Int} {c : Int}
theorem iz_set {k : IntKind} {L : List Int} {j : Nat} {z : Int} : (iz k L).set j (.int k z) = iz k (L.set j z) := by simp [iz, List.map_set]
/-- A loop that writes into every place. -/
theorem fills_ok {kk : IntKind} {cc : Nat → Int} {R : Type} {f : (Int × Unit) × Heap → Option (((Int × Unit) × Heap) ⊕ (R × Heap))} {r : R} (hv : Slc 1 v m (iz kk X) A) (ho : Own h (A ++ F))
    (hf : ∀ (k : Nat) (h1 h2 : Heap) (q : Addr), k < m → ixB 1 v (k : Int) = some q → stB 1 (.int kk (cc k)) h1 (some q) = some h2 → f (((k : Int), ()), h1) = some (.inl ((IntKind.i64.wrap ((k : Int) + 1), ()), h2)))
    (hz : ∀ h1, f (((m : Int), ()), h1) = some (.inr (r, h1))) (hm : m < 4611686018427387904) (hn : m + 1 ≤ n) :
    ∃ h' A', loopT f n (((0 : Int), ()), h) = some (r, h') ∧ Own h' (A' ++ F) := by
  obtain ⟨⟨x, h'⟩, e, q0, X', A', q1, q2⟩ := loopT_up (f := f)
    (fun k (a : (Int × Unit) × Heap) => a.1 = ((k : Int), ()) ∧ ∃ X' A', Slc 1 v m (iz kk X') A' ∧ Own a.2 (A' ++ F))
    (fun x => x.1 = r ∧ ∃ X' A', Slc 1 v m (iz kk X') A' ∧ Own x.2 (A' ++ F)) (N := m) (k := n) (j := 0) (a := ((0, ()), h)) (by omega) (by omega)
    ⟨rfl, X, A, hv, ho⟩
    (fun k a hk hi => by
      obtain ⟨⟨v0, _⟩, h1⟩ := a
      obtain ⟨e0, X1, A1, hs1, o1⟩ := hi
      cases e0
      obtain ⟨q, h2, A2, g1, g2, g3, o2⟩ := slc_set1 hs1 o1 hk (v := .int kk (cc k)) rfl rfl
      rw [iz_set] at g3
      refine .inl ⟨_, hf k h1 h2 q hk g1 g2, ?_, _, A2, g3, o2⟩
      rw [wrap_succ (show k < 4611686018427387904 by omega)])
    (fun a hi => by
      obtain ⟨⟨v0, _⟩, h1⟩ := a
      obtain ⟨e0, X1, A1, hs1, o1⟩ := hi
      cases e0
      exact ⟨_, hz h1, rfl, X1, A1, hs1, o1⟩)
  have q0 : x = r := q0
  subst q0
  exact ⟨h', A', e, q2⟩
end
section
variable {h h' h0 : Heap} {A D R F X Y : Ch} {l1 l2 : List Nat} {es n m : Nat} {s y : Value} {cs new : List Value}
/-- Some blocks hidden, some only to be looked at. -/
theorem Own.roDL (ho : Own h (D ++ (R ++ F))) (hl1 : ∀ r, r ∈ l1 ↔ ∃ x ∈ D, x.1 = r) (hl2 : ∀ r, r ∈ l2 ↔ ∃ x ∈ R, x.1 = r) (hc : ∀ x ∈ R, ∃ cs q es, x.2 = .cells cs q es) : Own (hid h l1 l2) (R.map roA ++ F) := by
  have o1 : Own (h.dropAll l1) (R ++ F) := ho.right.keep (fun x hx => by
    rw [Heap.get_dropAll, if_neg (fun hm => by
      obtain ⟨y, hy, e⟩ := (hl1 _).1 hm
      exact ho.apart hy hx e)]) (by rw [Heap.next_dropAll]; exact Nat.le_refl _)
  exact Own.roL o1 hl2 hc
theorem Own.backDL (ho : Own h (R.map roA ++ X)) (h0o : Own h0 (D ++ R)) (hl1 : ∀ r, r ∈ l1 ↔ ∃ x ∈ D, x.1 = r) (hl2 : ∀ r, r ∈ l2 ↔ ∃ x ∈ R, x.1 = r) (hlt : ∀ x ∈ D, x.1 < h.next) (hX : ∀ x ∈ D, ∀ y ∈ X, x.1 ≠ y.1) : Own (h.putBack h0 (l1 ++ l2)) (D ++ (R ++ X)) := by
  refine ⟨fun x hx => ?_, ?_, fun x hx => ?_⟩
  · rw [Heap.get_putBack]
    rcases List.mem_append.1 hx with hx | hx
    · rw [if_pos (List.mem_append_left _ ((hl1 _).2 ⟨x, hx, rfl⟩))]; exact h0o.get x (List.mem_append_left _ hx)
    · rcases List.mem_append.1 hx with hx | hx
      · rw [if_pos (List.mem_append_right _ ((hl2 _).2 ⟨x, hx, rfl⟩))]; exact h0o.get x (List.mem_append_right _ hx)
      · rw [if_neg (fun hm => by
          rcases List.mem_append.1 hm with hm | hm
          · obtain ⟨y, hy, e⟩ := (hl1 _).1 hm
            exact hX y hy x hx e
          · obtain ⟨y, hy, e⟩ := (hl2 _).1 hm
            exact ho.apart (List.mem_map_of_mem hy) hx (by rw [roA_fst]; exact e))]
        exact ho.get x (List.mem_append_right _ hx)
  · have h1 := h0o.nodup
    have h2 := ho.nodup
    have e : (R.map ((fun x => x.1) ∘ roA)) = R.map (·.1) := List.map_congr_left fun x _ => roA_fst
    rw [List.map_append, List.map_map, e] at h2
    rw [List.map_append] at h1
    rw [List.map_append, List.map_append]
    obtain ⟨a1, a2, a3⟩ := List.nodup_append.1 h1
    refine List.nodup_append.2 ⟨a1, h2, fun x hx y hy => ?_⟩
    rcases List.mem_append.1 hy with hy | hy
    · exact a3 x hx y hy
    · obtain ⟨x', hx', rfl⟩ := List.mem_map.1 hx
      obtain ⟨y', hy', rfl⟩ := List.mem_map.1 hy
      exact hX x' hx' y' hy'
  · rw [Heap.next_putBack]
    rcases List.mem_append.1 hx with hx | hx
    · exact hlt x hx
    · rcases List.mem_append.1 hx with hx | hx
      · have := ho.lt (roA x) (List.mem_append_left _ (List.mem_map_of_mem hx))
        rwa [roA_fst] at this
      · exact ho.lt x (List.mem_append_right _ hx)
/-- 'append(s, y..)', while some blocks are hidden and some are only to be looked at. -/
theorem Slc.appH (hs : Slc es s n cs A) (hy : Sow es y m new Y) (ho : Own h (D ++ (R ++ (A ++ (Y ++ F))))) (hl1 : ∀ r, r ∈ l1 ↔ ∃ x ∈ D, x.1 = r) (hl2 : ∀ r, r ∈ l2 ↔ ∃ x ∈ R, x.1 = r) (hc : ∀ x ∈ R, ∃ cs q es, x.2 = .cells cs q es)
    (hes : 1 ≤ es) {bytes : Nat} (hb : (n + m) * bytes ≤ 140737488355328) :
    ∃ s' h' A', appendK (hid h l1 l2) bytes es s y = some (s', h') ∧ Slc es s' (n + m) (cs ++ new) A' ∧ Own (h'.putBack h (l1 ++ l2)) (D ++ (R ++ (A' ++ (Y ++ F)))) := by
  have o1 := ho.roDL hl1 hl2 hc
  obtain ⟨s', h', A', e1, a1, o2⟩ := hy.app hs (h := hid h l1 l2) (F := R.map roA ++ F) (o1.to fun x => by simp only [cnt_append]; omega) hes hb
  have hnx : (hid h l1 l2).next = h.next := next_hid
  have hle := append_next e1
  rw [hnx] at hle
  refine ⟨s', h', A', e1, a1, Own.backDL (o2.to fun x => by simp only [cnt_append]; omega) (ho.to fun x => by simp only [cnt_append]; omega) hl1 hl2 (fun x hx => Nat.lt_of_lt_of_le (ho.lt x (List.mem_append_left _ hx)) hle) fun x hx z hz => ?_⟩
  rcases List.mem_append.1 hz with hz | hz
  · obtain ⟨q, k, c, rfl, e⟩ := a1.at_keys z hz
    rw [e]
    have hlt := ho.lt x (List.mem_append_left _ hx)
    obtain ⟨a, c0, rfl⟩ := hs.form
    rcases append_at e1 with ⟨p, hp, e'⟩ | e'
    · subst hp
      rw [e']
      cases hs with
      | mk' hp hl hr =>
        have := ho.apart (x := x) hx (List.mem_append_right _ (List.mem_append_left _ (List.mem_cons_self ..)))
        exact this
    · rw [e', hnx]; omega
  · exact ho.apart hx (List.mem_append_right _ (List.mem_append_right _ hz))
end
theorem loopT_go {A B : Type} {f : A → Option (A ⊕ B)} {k : Nat} {a a' : A} (e : f a = some (.inl a')) : loopT f (k + 1) a = loopT f k a' := by simp only [loopT, e]
theorem loopT_end {A B : Type} {f : A → Option (A ⊕ B)} {k : Nat} {a : A} {b : B} (e : f a = some (.inr b)) : loopT f (k + 1) a = some b := by simp only [loopT, e]
end Go.Proofs.Ytkfdikcnpaechaa

