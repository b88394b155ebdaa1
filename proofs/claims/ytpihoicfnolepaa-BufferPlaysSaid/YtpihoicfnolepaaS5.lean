/- Lists that are kept while what they came from goes on by append. -/
import Derived.Test.YtpihoicfnolepaaS4
namespace Go.Proofs.Ytpihoicfnolepaa
open Go
set_option linter.unusedVariables false
set_option linter.unusedSimpArgs false

abbrev Shs := List (Nat × Nat × List Value × Nat)
/-- What was noted is of blocks that are gone. -/
def ShD (h : Heap) : Prop := ∀ e ∈ h.sh, h.get e.1 = none ∧ e.1 < h.next
theorem ShD.live {h : Heap} (hd : ShD h) {r : Nat} {o : AObj} (hg : h.get r = some o) : shFind r h.sh = none := by
  cases hf : shFind r h.sh with
  | none => rfl
  | some e => have := (hd _ (shFind_mem hf)).1; simp only at this; rw [hg] at this; cases this
theorem ShD.fresh {h : Heap} (hd : ShD h) {r : Nat} (hr : h.next ≤ r) : shFind r h.sh = none := by
  cases hf : shFind r h.sh with
  | none => rfl
  | some e => have := (hd _ (shFind_mem hf)).2; simp only at this; omega
theorem ShD.clr {h : Heap} : ShD (clrH h) := fun e he => absurd he List.not_mem_nil
theorem ShD.keep {h h' : Heap} (hd : ShD h) (hs : h'.sh = h.sh) (hg : ∀ r, r < h.next → h.get r = none → h'.get r = none) (hn : h.next ≤ h'.next) : ShD h' := fun e he => by
  rw [hs] at he
  obtain ⟨h1, h2⟩ := hd e he
  exact ⟨hg _ h2 h1, Nat.lt_of_lt_of_le h2 hn⟩
theorem ShD.new {h : Heap} (hd : ShD h) (o : AObj) : ShD (h.new o) := hd.keep rfl (fun r hr hg => by rw [Heap.get_new, if_neg (Nat.ne_of_lt hr)]; exact hg) (Nat.le_succ _)
theorem ShD.put {h : Heap} (hd : ShD h) {b : Nat} {o o' : AObj} (hb : h.get b = some o) : ShD (h.put b o') := hd.keep rfl (fun r hr hg => by
  rw [Heap.get_put]; split
  · rename_i e; subst e; rw [hb] at hg; cases hg
  · exact hg) (Nat.le_refl _)

theorem shFind_cons {b r : Nat} {e : Nat × List Value × Nat} {sh : Shs} (h : r ≠ b) : shFind r ((b, e) :: sh) = shFind r sh := by
  simp only [shFind]
  have : Nat.beq b r = false := by
    cases hb : Nat.beq b r with
    | false => rfl
    | true => exact absurd (Nat.eq_of_beq_eq_true hb).symm h
  rw [this]; rfl
theorem shFind_head {b : Nat} {e : Nat × List Value × Nat} {sh : Shs} : shFind b ((b, e) :: sh) = some e := by
  simp [shFind]

/-- From what was let go to where it stands now. -/
inductive Cn (sh : Shs) : Nat → Nat → Nat → List Value → Nat → Nat → Nat → Prop
  | live {r off k : Nat} {xs : List Value} (h : shFind r sh = none) : Cn sh r off k xs r off 0
  | hop {r off k : Nat} {xs : List Value} {base : Nat} {old : List Value} {r' R o d : Nat} (h : shFind r sh = some (base, old, r')) (hb : base ≤ off) (hl : off - base + k ≤ old.length) (hx : (old.drop (off - base)).take k = xs)
      (next : Cn sh r' (off - base) k xs R o d) : Cn sh r off k xs R o (d + 1)

section
variable {sh : Shs} {r off k R o d : Nat} {xs : List Value}
theorem Cn.sub (h : Cn sh r off k xs R o d) : ∀ {j k' : Nat}, j + k' ≤ k → Cn sh r (off + j) k' ((xs.drop j).take k') R (o + j) d := by
  induction h with
  | live h => intro j k' hj; exact .live h
  | @hop r off k xs base old r' R o d h hb hl hx next ih =>
    intro j k' hj
    refine .hop h (by omega) (by omega) ?_ ?_
    · rw [← hx]
      apply List.ext_getElem?
      intro i
      by_cases hi : i < k'
      · rw [List.getElem?_take, if_pos hi, List.getElem?_take, if_pos hi, List.getElem?_drop, List.getElem?_drop, List.getElem?_take, if_pos (by omega), List.getElem?_drop]
        congr 1; omega
      · rw [List.getElem?_take, if_neg hi, List.getElem?_take, if_neg hi]
    · have := ih hj
      rwa [show off - base + j = off + j - base by omega] at this
theorem Cn.cons {b : Nat} {e : Nat × List Value × Nat} (hb : shFind b sh = none) (h : Cn sh r off k xs R o d) (hR : R ≠ b) : Cn ((b, e) :: sh) r off k xs R o d := by
  induction h with
  | live h => exact .live (by rw [shFind_cons hR]; exact h)
  | hop h hb' hl hx next ih => exact .hop (by rw [shFind_cons (fun e1 => by rw [e1, hb] at h; cases h)]; exact h) hb' hl hx (ih hR)
theorem Cn.ext {b N base : Nat} {old : List Value} (hb : shFind b sh = none) (hN : shFind N sh = none) (hne : N ≠ b) (h : Cn sh r off k xs R o d) (hR : R = b) (ho : o = base) (hl : k ≤ old.length) (hx : old.take k = xs) :
    Cn ((b, base, old, N) :: sh) r off k xs N 0 (d + 1) := by
  induction h with
  | live h =>
    subst hR ho
    refine .hop shFind_head (Nat.le_refl _) (by omega) (by rw [Nat.sub_self, List.drop_zero]; exact hx) ?_
    rw [Nat.sub_self]
    exact .live (by rw [shFind_cons hne]; exact hN)
  | hop h hb' hl' hx' next ih => exact .hop (by rw [shFind_cons (fun e1 => by rw [e1, hb] at h; cases h)]; exact h) hb' hl' hx' (ih hR ho hl hx)
theorem Cn.read {h : Heap} (hc : Cn h.sh r off k xs R o d) (hr : readCells h R o k = some xs) (hp : Go.Proofs.Ytpihoicfnolepaa.sameL xs xs = true) : ∀ {f : Nat}, d < f → readS h f r off k = some xs := by
  induction hc with
  | live h1 => intro f hf; obtain ⟨f, rfl⟩ : ∃ g, f = g + 1 := ⟨f - 1, by omega⟩; simp only [readS, h1]; exact hr
  | @hop r off k xs base old r' R o d h1 hb hl hx next ih =>
    intro f hf
    obtain ⟨f, rfl⟩ : ∃ g, f = g + 1 := ⟨f - 1, by omega⟩
    simp only [readS, h1]
    rw [Nat.ble_eq_true_of_le hb, Nat.ble_eq_true_of_le hl]
    simp only [Bool.and_self, cond_true, ih hr hp (f := f) (by omega), hx, hp]
end

theorem sameL_int {k : IntKind} : ∀ {X : List Int}, Go.Proofs.Ytpihoicfnolepaa.sameL (iz k X) (iz k X) = true := by
  intro X
  induction X with
  | nil => rfl
  | cons z X ih => simp only [iz, List.map_cons, Go.Proofs.Ytpihoicfnolepaa.sameL, sameV, decide_true, Bool.and_self, Bool.true_and]; exact ih
theorem sameL_app {A B : List Value} (ha : Go.Proofs.Ytpihoicfnolepaa.sameL A A = true) (hb : Go.Proofs.Ytpihoicfnolepaa.sameL B B = true) : Go.Proofs.Ytpihoicfnolepaa.sameL (A ++ B) (A ++ B) = true := by
  induction A with
  | nil => exact hb
  | cons a A ih =>
    simp only [Go.Proofs.Ytpihoicfnolepaa.sameL, Bool.and_eq_true] at ha
    simp only [List.cons_append, Go.Proofs.Ytpihoicfnolepaa.sameL, Bool.and_eq_true]
    exact ⟨ha.1, ih ha.2⟩
theorem sameL_sub {A : List Value} (ha : Go.Proofs.Ytpihoicfnolepaa.sameL A A = true) : ∀ {j k : Nat}, Go.Proofs.Ytpihoicfnolepaa.sameL ((A.drop j).take k) ((A.drop j).take k) = true := by
  have hd : ∀ {A : List Value} {j : Nat}, Go.Proofs.Ytpihoicfnolepaa.sameL A A = true → Go.Proofs.Ytpihoicfnolepaa.sameL (A.drop j) (A.drop j) = true := by
    intro A
    induction A with
    | nil => intro j h; simpa using h
    | cons a A ih =>
      intro j h
      cases j with
      | zero => exact h
      | succ j => simp only [Go.Proofs.Ytpihoicfnolepaa.sameL, Bool.and_eq_true] at h; exact ih h.2
  have ht : ∀ {A : List Value} {k : Nat}, Go.Proofs.Ytpihoicfnolepaa.sameL A A = true → Go.Proofs.Ytpihoicfnolepaa.sameL (A.take k) (A.take k) = true := by
    intro A
    induction A with
    | nil => intro k h; simpa using h
    | cons a A ih =>
      intro k h
      cases k with
      | zero => rfl
      | succ k =>
        simp only [Go.Proofs.Ytpihoicfnolepaa.sameL, Bool.and_eq_true] at h
        simp only [List.take_succ_cons, Go.Proofs.Ytpihoicfnolepaa.sameL, Bool.and_eq_true]
        exact ⟨h.1, ih h.2⟩
  intro j k
  exact ht (hd ha)

/-- A list that is kept: it can be read where it stands now. -/
structure Kp (es : Nat) (sh : Shs) (L : Ch) (x : Value) (k : Nat) (xs : List Value) : Prop where
  form : ∃ a c, x = .slice a k c
  len : xs.length = k * es
  at' : k = 0 ∨ ∃ r off sp c R o d ys ro e, x = .slice (some ⟨r, off, sp⟩) k c ∧ Cn sh r off (k * es) xs R o d ∧ d ≤ sh.length ∧ (R, AObj.cells ys ro e) ∈ L ∧ o + k * es ≤ ys.length ∧ (ys.drop o).take (k * es) = xs
/-- A list that is kept: it stands at the beginning of s. -/
structure Bg (es : Nat) (sh : Shs) (s x : Value) (k : Nat) (xs : List Value) : Prop where
  form : ∃ a c, x = .slice a k c
  len : xs.length = k * es
  at' : k = 0 ∨ ∃ r off sp c R o sp' n' c' d, x = .slice (some ⟨r, off, sp⟩) k c ∧ s = .slice (some ⟨R, o, sp'⟩) n' c' ∧ Cn sh r off (k * es) xs R o d ∧ d ≤ sh.length

section
variable {es n m k : Nat} {s x y : Value} {cs new xs : List Value} {A F L L' : Ch} {h : Heap} {sh : Shs}
theorem Kp.mono (hk : Kp es sh L x k xs) (hm : ∀ z ∈ L, z ∈ L') : Kp es sh L' x k xs := ⟨hk.form, hk.len, hk.at'.imp id fun ⟨r, off, sp, c, R, o, d, ys, ro, e, h1, h2, h3, h4, h5⟩ => ⟨r, off, sp, c, R, o, d, ys, ro, e, h1, h2, h3, hm _ h4, h5⟩⟩
theorem Kp.lenB (hk : Kp es sh L x k xs) : Go.Proofs.Ytpihoicfnolepaa.lenB x = some k := by obtain ⟨a, c, rfl⟩ := hk.form; rfl
theorem Bg.kp (hb : Bg es sh s x k xs) (hs : Slc es s n cs A) (hx : xs = cs.take (k * es)) (hk : k ≤ n) : Kp es sh A x k xs := by
  refine ⟨hb.form, hb.len, hb.at'.imp id ?_⟩
  rintro ⟨r, off, sp, c, R, o, sp', n', c', d, rfl, rfl, h3, h4⟩
  cases hs with
  | @mk b off sp _ c pre _ rest hp hl hr =>
    have h1 := Nat.mul_le_mul_right es hk
    refine ⟨_, _, _, _, _, _, _, _, _, _, rfl, h3, h4, List.mem_cons_self .., by simp; omega, ?_⟩
    rw [← hp, List.drop_left, List.take_append_of_le_length (by omega)]
    exact hx.symm
theorem Slc.bg (hs : Slc es s n cs A) (ho : Own h (A ++ F)) (hd : ShD h) : Bg es h.sh s s n cs := by
  refine ⟨hs.form, hs.len, ?_⟩
  cases hs with
  | nil => exact .inl rfl
  | @mk b off sp _ c pre _ rest hp hl hr =>
    exact .inr ⟨_, _, _, _, _, _, _, _, _, 0, rfl, rfl, .live (hd.live (ho.get _ (List.mem_append_left _ (List.mem_cons_self ..)))), Nat.zero_le _⟩
theorem Slc.kp (hs : Slc es s n cs A) (ho : Own h (A ++ F)) (hd : ShD h) : Kp es h.sh A s n cs := (hs.bg ho hd).kp hs (by rw [← hs.len, List.take_length]) (Nat.le_refl _)

/-- What is kept is read. -/
theorem Kp.ldA (hk : Kp es h.sh L x k xs) (ho : Own h (L ++ F)) (hp : Go.Proofs.Ytpihoicfnolepaa.sameL xs xs = true) {i : Nat} (hi : i < k) : ∃ q, ixB es x (i : Int) = some q ∧ ldAS es h (some q) = some ((xs.drop (i * es)).take es) := by
  rcases hk.at' with rfl | ⟨r, off, sp, c, R, o, d, ys, ro, e, rfl, h2, h3, h4, h5, h6⟩
  · omega
  · have h1 : (i + 1) * es ≤ k * es := Nat.mul_le_mul_right es hi
    rw [Nat.add_mul, Nat.one_mul] at h1
    refine ⟨⟨r, off + i * es, none⟩, ?_, ?_⟩
    · show (bif Nat.blt i k then _ else none) = _
      rw [show Nat.blt i k = true from Nat.ble_eq_true_of_le hi]; rfl
    · simp only [ldAS, Option.bind_some]
      refine Cn.read (h2.sub h1) ?_ (sameL_sub hp) (by omega)
      rw [readCells_of (ho.get _ (List.mem_append_left _ h4)) (by omega)]
      congr 1
      rw [← h6]
      apply List.ext_getElem?
      intro j
      by_cases hj : j < es
      · rw [List.getElem?_take, if_pos hj, List.getElem?_take, if_pos hj, List.getElem?_drop, List.getElem?_drop, List.getElem?_take, if_pos (by omega), List.getElem?_drop]
        congr 1; omega
      · rw [List.getElem?_take, if_neg hj, List.getElem?_take, if_neg hj]
theorem Kp.ldT (hk : Kp 1 h.sh L x k xs) (ho : Own h (L ++ F)) (hp : Go.Proofs.Ytpihoicfnolepaa.sameL xs xs = true) {i : Nat} {v : Value} (hv : xs[i]? = some v) {ty : Ty} : ∃ q, ixB 1 x (i : Int) = some q ∧ ldTS ty h (some q) = ty.prj v := by
  have hlt := (List.getElem?_eq_some_iff.1 hv).1
  obtain ⟨q, h1, h2⟩ := hk.ldA ho hp (i := i) (by have := hk.len; omega)
  refine ⟨q, h1, ?_⟩
  rw [Nat.mul_one, take_one_drop hv] at h2
  simp only [ldAS, Option.bind_some] at h2
  simp only [ldTS, Option.bind_some, h2]; rfl
theorem ldTS_eq (hd : ShD h) {q : Addr} {o : AObj} (hg : h.get q.block = some o) {ty : Ty} : ldTS ty h (some q) = Go.Proofs.Ytpihoicfnolepaa.ldT ty h (some q) := by
  simp only [ldTS, Go.Proofs.Ytpihoicfnolepaa.ldT, Option.bind_some, readS, hd.live hg]
theorem ldAS_eq (hd : ShD h) {q : Addr} {o : AObj} (hg : h.get q.block = some o) {sz : Nat} : ldAS sz h (some q) = Go.Proofs.Ytpihoicfnolepaa.ldA sz h (some q) := by
  simp only [ldAS, Go.Proofs.Ytpihoicfnolepaa.ldA, Option.bind_some, readS, hd.live hg]

/-- What is noted grows; what stands in F is found as before. -/
def ShX (F : Ch) (sh sh' : Shs) : Prop := sh.length ≤ sh'.length ∧ ∀ (r off k : Nat) (xs : List Value) (R o d : Nat), (∃ z ∈ F, z.1 = R) → Cn sh r off k xs R o d → Cn sh' r off k xs R o d
theorem ShX.refl {sh : Shs} : ShX F sh sh := ⟨Nat.le_refl _, fun _ _ _ _ _ _ _ _ h => h⟩
theorem ShX.trans {sh sh' sh'' : Shs} (h1 : ShX F sh sh') (h2 : ShX F sh' sh'') : ShX F sh sh'' := ⟨Nat.le_trans h1.1 h2.1, fun r off k xs R o d hz hc => h2.2 r off k xs R o d hz (h1.2 r off k xs R o d hz hc)⟩
theorem ShX.mono {sh sh' : Shs} {F' : Ch} (h1 : ShX F sh sh') (hm : ∀ z ∈ F', z ∈ F) : ShX F' sh sh' := ⟨h1.1, fun r off k xs R o d ⟨z, hz, e⟩ hc => h1.2 r off k xs R o d ⟨z, hm z hz, e⟩ hc⟩
theorem Kp.shx {sh' : Shs} (hk : Kp es sh L x k xs) (hx : ShX F sh sh') (hL : ∀ z ∈ L, z ∈ F) : Kp es sh' L x k xs := by
  refine ⟨hk.form, hk.len, hk.at'.imp id ?_⟩
  rintro ⟨r, off, sp, c2, R, o, d, ys, ro, e, rfl, h2, h3, h4, h5⟩
  exact ⟨r, off, sp, c2, R, o, d, ys, ro, e, rfl, hx.2 _ _ _ _ _ _ _ ⟨_, hL _ h4, rfl⟩ h2, Nat.le_trans h3 hx.1, h4, h5⟩
theorem Bg.shx {sh' : Shs} (hb : Bg es sh s x k xs) (hs : Slc es s n cs A) (hk : k ≤ n) (hx : ShX F sh sh') (hA : ∀ z ∈ A, z ∈ F) : Bg es sh' s x k xs := by
  refine ⟨hb.form, hb.len, ?_⟩
  cases hs with
  | nil => exact .inl (by omega)
  | @mk b off sp _ c pre _ rest hp hl hr =>
    refine hb.at'.imp id ?_
    rintro ⟨r, off, sp, c2, R, o, sp', n', c', d, rfl, h2, h3, h4⟩
    cases h2
    exact ⟨_, _, _, _, _, _, _, _, _, _, rfl, rfl, hx.2 _ _ _ _ _ _ _ ⟨_, hA _ (List.mem_cons_self ..), rfl⟩ h3, Nat.le_trans h4 hx.1⟩
/-- 'append(s, y...)', where what is let go is noted. -/
theorem Slc.appS2 (hs : Slc es s n cs A) (ho : Own h (A ++ F)) (hd : ShD h) (hy : Rds h es y m new) (hes : 1 ≤ es) {bytes : Nat} (hb : (n + m) * bytes ≤ 140737488355328) :
    ∃ s' h' A' D, appendSK h bytes es s y = some (s', h') ∧ Slc es s' (n + m) (cs ++ new) A' ∧ Own h' (A' ++ (D ++ F)) ∧ ShD h' ∧
      ShX F h.sh h'.sh ∧ (∀ {x k xs}, Bg es h.sh s x k xs → xs = cs.take (k * es) → k ≤ n → Bg es h'.sh s' x k xs ∨ Kp es h'.sh D x k xs) := by
  obtain ⟨yb, yc, rfl, hsrc⟩ := hy.src
  have hn := hy.len
  cases hs with
  | nil =>
    by_cases hm : m = 0
    · subst hm
      have : new = [] := List.eq_nil_of_length_eq_zero (by omega)
      subst this
      rw [Nat.zero_mul] at hsrc
      exact ⟨.slice none 0 0, h, [], [], by simp [appendSK, hsrc, appendL, putCells, cond_ble, noteS], .nil, ho, hd, ShX.refl, fun h _ _ => .inl h⟩
    · refine ⟨.slice (some ⟨h.next, 0, none⟩) (0 + m) (0 + m), h.new (.cells new false es), [(h.next, .cells ([] ++ (new ++ [])) false es)], [], ?_, Slc.mk (pre := []) (rest := []) rfl (by simp [hn]) (by simp [hn]), ?_, hd.new _, ShX.refl, fun hbg _ hk => ?_⟩
      · simp only [appendSK, hsrc, Option.bind_some, appendL]
        rw [cond_ble (by simpa using hb), cond_nble (by omega)]
        simp [growCells, noteS]
      · have := ho.new (.cells new false es)
        simpa using this
      · exact .inl ⟨hbg.form, hbg.len, .inl (by omega)⟩
  | @mk b off sp _ c pre _ rest hp hl hr =>
    subst hp
    have hg := ho.get (b, .cells (pre ++ (cs ++ rest)) false es) (by simp)
    by_cases hc : n + m ≤ c
    · have h1 : (n + m) * es ≤ c * es := Nat.mul_le_mul_right es hc
      rw [Nat.add_mul] at h1
      have hlen : pre.length + n * es + new.length ≤ (pre ++ (cs ++ rest)).length := by simp; omega
      refine ⟨.slice (some ⟨b, pre.length, sp⟩) (n + m) c, h.put b (.cells (pre ++ ((cs ++ new) ++ rest.drop new.length)) false es), _, [], ?_, Slc.mk (rest := rest.drop new.length) rfl (by simp [hl, hn, Nat.add_mul]) (by simp; rw [hn]; omega), Own.put (F := F) ho _, hd.put hg, ShX.refl, fun hbg _ _ => .inl ?_⟩
      · simp only [appendSK, hsrc, Option.bind_some, appendL]
        rw [cond_ble hb, cond_ble hc]
        simp only [putCells]
        rw [writeCells_of hg hlen, writeAt_eq _ _ _ hlen]
        simp only [Option.map_some, Option.some.injEq, Prod.mk.injEq, true_and]
        have e1 : (pre ++ (cs ++ rest)).take (pre.length + n * es) = pre ++ cs := by
          rw [← hl, ← List.append_assoc, ← List.length_append, List.take_left]
        have e2 : (pre ++ (cs ++ rest)).drop (pre.length + n * es + new.length) = rest.drop new.length := by
          rw [← hl, ← List.append_assoc, ← List.length_append, ← List.drop_drop, List.drop_left]
        rw [e1, e2]
        have e3 : pre ++ cs ++ new ++ List.drop new.length rest = pre ++ (cs ++ new ++ List.drop new.length rest) := by simp
        rw [e3]
        cases sp with
        | none => simp only [noteS]; rw [cond_ble hc]
        | some j => rfl
      · refine ⟨hbg.form, hbg.len, hbg.at'.imp id ?_⟩
        rintro ⟨r, off, sp2, c2, R, o, sp', n', c', d, rfl, h2, h3, h4⟩
        cases h2
        exact ⟨_, _, _, _, _, _, _, _, _, _, rfl, rfl, h3, h4⟩
    · have hread : readCells h b pre.length (n * es) = some cs := by
        rw [readCells_of hg (by simp; omega)]
        congr 1
        rw [List.drop_left, ← hl, List.take_left]
      have hlt := ho.lt (b, .cells (pre ++ (cs ++ rest)) false es) (by simp)
      cases sp with
      | some j =>
        refine ⟨.slice (some ⟨h.next, 0, none⟩) (n + m) (n + m), h.new (.cells (cs ++ new) false es), [(h.next, .cells ([] ++ ((cs ++ new) ++ [])) false es)], [(b, .cells (pre ++ (cs ++ rest)) false es)], ?_, Slc.mk (pre := []) (rest := []) rfl (by simp [hl, hn, Nat.add_mul]) (by simp [hl, hn, Nat.add_mul]), ?_, hd.new _, ShX.refl, fun hbg hx hk => .inr ?_⟩
        · simp only [appendSK, hsrc, Option.bind_some, appendL]
          rw [cond_ble hb, cond_nble (by omega)]
          simp only [growCells, hread, letGo, Option.bind_some, Option.map_some, noteS]
        · have := ho.new (.cells (cs ++ new) false es)
          simpa using this
        · exact hbg.kp (Slc.mk rfl hl hr) hx hk
      | none =>
        refine ⟨.slice (some ⟨h.next, 0, none⟩) (n + m) (n + m), { (h.drop b).new (.cells (cs ++ new) false es) with sh := (b, pre.length, cs, h.next) :: h.sh }, [(h.next, .cells ([] ++ ((cs ++ new) ++ [])) false es)], [], ?_, Slc.mk (pre := []) (rest := []) rfl (by simp [hl, hn, Nat.add_mul]) (by simp [hl, hn, Nat.add_mul]), ?_, ?_, ?_, ?_⟩
        · simp only [appendSK, hsrc, Option.bind_some, appendL]
          rw [cond_ble hb, cond_nble (by omega)]
          have hgo : letGo h ⟨b, pre.length, none⟩ c es = some (h.drop b) := by
            simp only [letGo, hg]
            rw [Nat.beq_refl, Nat.ble_eq_true_of_le (by simp; omega)]
            rfl
          simp only [growCells, hread, hgo, Option.bind_some, Option.map_some, noteS]
          rw [cond_nble (by omega)]
          rfl
        · have h1 := (Own.drop (F := F) ho).new (.cells (cs ++ new) false es)
          have h2 : Own ((h.drop b).new (.cells (cs ++ new) false es)) ([(h.next, .cells ([] ++ ((cs ++ new) ++ [])) false es)] ++ ([] ++ F)) := by simpa using h1
          exact ⟨h2.get, h2.nodup, h2.lt⟩
        · intro e he
          rcases List.mem_cons.1 he with rfl | he
          · refine ⟨?_, Nat.lt_succ_of_lt hlt⟩
            show ((h.drop b).new _).get b = none
            rw [Heap.get_new, if_neg (by show b ≠ h.next; omega), Heap.get_drop, if_pos rfl]
          · obtain ⟨k1, k2⟩ := hd e he
            refine ⟨?_, Nat.lt_succ_of_lt k2⟩
            show ((h.drop b).new _).get e.1 = none
            rw [Heap.get_new, if_neg (by show e.1 ≠ h.next; omega), Heap.get_drop]
            split
            · rfl
            · exact k1
        · refine ⟨Nat.le_succ _, fun r off k xs R o d hz hc2 => hc2.cons (hd.live hg) ?_⟩
          obtain ⟨z, hz, rfl⟩ := hz
          exact fun e1 => ho.apart (x := (b, AObj.cells (pre ++ (cs ++ rest)) false es)) (List.mem_cons_self ..) hz e1.symm
        · intro x k xs hbg hx hk
          left
          refine ⟨hbg.form, hbg.len, hbg.at'.imp id ?_⟩
          rintro ⟨r, off, sp, c2, R, o, sp', n', c', d, rfl, h2, h3, h4⟩
          cases h2
          have h1 : k * es ≤ n * es := Nat.mul_le_mul_right es hk
          exact ⟨_, _, _, _, _, _, _, _, _, _, rfl, rfl, h3.ext (hd.live hg) (hd.fresh (Nat.le_refl _)) (by omega) rfl rfl (by omega) hx.symm, Nat.succ_le_succ h4⟩
theorem Slc.appS (hs : Slc es s n cs A) (ho : Own h (A ++ F)) (hd : ShD h) (hy : Rds h es y m new) (hes : 1 ≤ es) {bytes : Nat} (hb : (n + m) * bytes ≤ 140737488355328) :
    ∃ s' h' A' D, appendSK h bytes es s y = some (s', h') ∧ Slc es s' (n + m) (cs ++ new) A' ∧ Own h' (A' ++ (D ++ F)) ∧ ShD h' ∧
      (∀ {es' L x k xs}, (∀ z ∈ L, z ∈ F) → Kp es' h.sh L x k xs → Kp es' h'.sh L x k xs) ∧ (∀ {x k xs}, Bg es h.sh s x k xs → xs = cs.take (k * es) → k ≤ n → Bg es h'.sh s' x k xs ∨ Kp es h'.sh D x k xs) := by
  obtain ⟨s', h', A', D, e1, e2, e3, e4, e5, e6⟩ := hs.appS2 ho hd hy hes hb
  exact ⟨s', h', A', D, e1, e2, e3, e4, fun hL hk => hk.shx e5 hL, e6⟩
/-- 'append(s, x)'. -/
theorem Slc.pushS2 (hs : Slc es s n cs A) (ho : Own h (A ++ F)) (hd : ShD h) (hes : 1 ≤ es) (hn : new.length = es) {bytes : Nat} (hb : (n + 1) * bytes ≤ 140737488355328) :
    ∃ s' h' A' D, appendSK (h.new (.cells new false es)) bytes es s (.slice (some ⟨h.next, 0, some 0⟩) 1 1) = some (s', h') ∧ Slc es s' (n + 1) (cs ++ new) A' ∧ Own h' (A' ++ (D ++ F)) ∧ ShD h' ∧
      ShX F h.sh h'.sh ∧ (∀ {x k xs}, Bg es h.sh s x k xs → xs = cs.take (k * es) → k ≤ n → Bg es h'.sh s' x k xs ∨ Kp es h'.sh D x k xs) := by
  have h1 : Own (h.new (.cells new false es)) ([(h.next, .cells ([] ++ (new ++ [])) false es)] ++ (A ++ F)) := by simpa using ho.new (.cells new false es)
  have hy : Slc es (.slice (some ⟨h.next, 0, some 0⟩) 1 1) 1 new [(h.next, .cells ([] ++ (new ++ [])) false es)] := .mk rfl (by simp [hn]) (by simp [hn])
  exact hs.appS2 (F := F) (h1.to fun x => by simp only [cnt_append, cnt_cons, cnt_nil]; omega) (hd.new _) (hy.rds h1) hes hb
theorem Slc.pushS (hs : Slc es s n cs A) (ho : Own h (A ++ F)) (hd : ShD h) (hes : 1 ≤ es) (hn : new.length = es) {bytes : Nat} (hb : (n + 1) * bytes ≤ 140737488355328) :
    ∃ s' h' A' D, appendSK (h.new (.cells new false es)) bytes es s (.slice (some ⟨h.next, 0, some 0⟩) 1 1) = some (s', h') ∧ Slc es s' (n + 1) (cs ++ new) A' ∧ Own h' (A' ++ (D ++ F)) ∧ ShD h' ∧
      (∀ {es' L x k xs}, (∀ z ∈ L, z ∈ F) → Kp es' h.sh L x k xs → Kp es' h'.sh L x k xs) ∧ (∀ {x k xs}, Bg es h.sh s x k xs → xs = cs.take (k * es) → k ≤ n → Bg es h'.sh s' x k xs ∨ Kp es h'.sh D x k xs) := by
  obtain ⟨s', h', A', D, e1, e2, e3, e4, e5, e6⟩ := hs.pushS2 ho hd hes hn hb
  exact ⟨s', h', A', D, e1, e2, e3, e4, fun hL hk => hk.shx e5 hL, e6⟩
/-- Stores keep the notes. -/
theorem stB_sh {sz : Nat} {v : Value} {h' : Heap} {p : Option Addr} (e : stB sz v h p = some h') : h'.sh = h.sh ∧ (ShD h → ShD h') := by
  cases p with
  | none => cases e
  | some q =>
  simp only [stB, Option.bind_some, Bool.cond_eq_ite] at e
  split at e
  · unfold writeCells at e
    split at e
    · rename_i cs es hg
      simp only [Bool.cond_eq_ite] at e
      split at e
      · cases e; exact ⟨rfl, fun hd => hd.put hg⟩
      · cases e
    · cases e
  · cases e
theorem ldTS_slc (hs : Slc es s n cs A) (ho : Own h (A ++ F)) (hd : ShD h) {i : Nat} {q : Addr} (e : ixB es s (i : Int) = some q) {ty : Ty} {o : Nat} : ldTS ty h (some (fa q o)) = Go.Proofs.Ytpihoicfnolepaa.ldT ty h (some (fa q o)) := by
  obtain ⟨xs, rfl⟩ := ix_blk hs e
  exact ldTS_eq hd (q := fa q o) (ho.get _ (List.mem_append_left _ (List.mem_cons_self ..)))
theorem ldTS_slc0 (hs : Slc es s n cs A) (ho : Own h (A ++ F)) (hd : ShD h) {i : Nat} {q : Addr} (e : ixB es s (i : Int) = some q) {ty : Ty} : ldTS ty h (some q) = Go.Proofs.Ytpihoicfnolepaa.ldT ty h (some q) := by
  obtain ⟨xs, rfl⟩ := ix_blk hs e
  exact ldTS_eq hd (ho.get _ (List.mem_append_left _ (List.mem_cons_self ..)))
/-- One cell of an element, set. -/
theorem slc_setc (hs : Slc es s n cs A) (ho : Own h (A ++ F)) {i o : Nat} (hi : i < n) (hoo : o < es) {v : Value} (hv : cellsOf v = [v]) (hc : isCell v = true) :
    ∃ q h' A', ixB es s (i : Int) = some q ∧ stB 1 v h (some (fa q o)) = some h' ∧ Slc es s n (cs.set (i * es + o) v) A' ∧ Own h' (A' ++ F) := by
  cases hs with
  | nil => omega
  | @mk b off sp _ c pre _ rest hp hl hr =>
    subst hp
    have h1 : (i + 1) * es ≤ n * es := Nat.mul_le_mul_right es hi
    rw [Nat.add_mul, Nat.one_mul] at h1
    have hg := ho.get (b, .cells (pre ++ (cs ++ rest)) false es) (by simp)
    refine ⟨⟨b, pre.length + i * es, none⟩, h.put b (.cells (pre ++ (cs.set (i * es + o) v ++ rest)) false es), _, ?_, ?_, Slc.mk (pre := pre) (rest := rest) rfl (by rw [List.length_set, hl]) (by rw [List.length_set, hr]), Own.put (F := F) ho _⟩
    · show (bif Nat.blt i n then _ else none) = _
      rw [show Nat.blt i n = true from Nat.ble_eq_true_of_le hi]; rfl
    · have := stB1_of (sp := none) (o := pre.length + i * es + o) hg hv hc (by simp; omega)
      rw [fa_mk, this]
      congr 3
      rw [List.set_append_right _ _ (by omega), List.set_append_left _ _ (by omega)]
      congr 3; omega
end
end Go.Proofs.Ytpihoicfnolepaa
