/- What is handed in, as something that can be read. -/
import Derived.Test.YtadkkmingfajdaaArgs4
import Derived.Test.YtadkkmingfajdaaS3
namespace Go.Proofs.Ytadkkmingfajdaa
open Go
set_option linter.unusedVariables false
set_option linter.unusedSimpArgs false

theorem Sow.mono {es n : Nat} {s : Value} {cs : List Value} {G G' : Ch} (hs : Sow es s n cs G) (hm : ∀ x ∈ G, x ∈ G') : Sow es s n cs G' := fun h hh => hs h fun x hx => hh x (hm x hx)
/-- What overlaps is owned once. -/
theorem own_of {h : Heap} (wf : WF h) : ∀ {G : Ch}, (∀ x ∈ G, h.get x.1 = some x.2) → ∃ G', Own h G' ∧ ∀ x ∈ G, x ∈ G' := by
  intro G
  induction G with
  | nil => intro _; exact ⟨[], .nil, fun _ h => h⟩
  | cons x G ih =>
    intro hg
    obtain ⟨G', ho, hm⟩ := ih fun y hy => hg y (List.mem_cons_of_mem _ hy)
    by_cases he : ∃ y ∈ G', y.1 = x.1
    · obtain ⟨y, hy, e⟩ := he
      have : y = x := by
        have h1 := ho.get y hy
        have h2 := hg x (List.mem_cons_self ..)
        rw [e, h2] at h1
        exact Prod.ext e (Option.some.inj h1).symm
      subst this
      exact ⟨G', ho, fun z hz => (List.mem_cons.1 hz).elim (fun e => e ▸ hy) (hm z)⟩
    · refine ⟨x :: G', Own.cons ho (hg x (List.mem_cons_self ..)) (wf.lt (hg x (List.mem_cons_self ..))) fun y hy e => he ⟨y, hy, e⟩, fun z hz => ?_⟩
      rcases List.mem_cons.1 hz with rfl | hz
      · exact List.mem_cons_self ..
      · exact List.mem_cons_of_mem _ (hm z hz)

/-- How a list is handed in: nil, or all of a block. -/
def Lst (u : Value) (n : Nat) : Prop := (u = .slice none 0 0 ∧ n = 0) ∨ ∃ b, u = .slice (some ⟨b, 0, none⟩) n n
theorem InSl.lst {H : Heap} {es n : Nat} {u : Value} {cs : List Value} (h : InSl H es u n cs) : Lst u n := by
  cases h with
  | empty => exact .inl ⟨rfl, rfl⟩
  | @full b n cs ro e hb hl => exact .inr ⟨b, rfl⟩

/- wherever these blocks are -/
mutual
def Hs (M : Nat) (G : Ch) : Sh → Value → Prop
  | .int k, v => ∃ z, v = .int k z ∧ (Lit.int k z).wf = true
  | .bool, v => ∃ b, v = .bool b
  | .sl shs, v => ∃ chunks : List (List Value), Sow shs.length v chunks.length chunks.flatten G ∧ Lst v chunks.length ∧ chunks.length ≤ M ∧ ∀ c ∈ chunks, HsL M G shs c
def HsL (M : Nat) (G : Ch) : List Sh → List Value → Prop
  | [], cs => cs = []
  | s :: ss, cs => ∃ v rest, cs = v :: rest ∧ Hs M G s v ∧ HsL M G ss rest
end
variable {M : Nat}
mutual
theorem Hs.mono {G G' : Ch} (f : ∀ x ∈ G, x ∈ G') : ∀ {s : Sh} {v : Value}, Hs M G s v → Hs M G' s v
  | .int k, v, h => by simpa only [Hs] using h
  | .bool, v, h => by simpa only [Hs] using h
  | .sl shs, v, h => by
    simp only [Hs] at h ⊢
    obtain ⟨chunks, h1, h2, h3, h4⟩ := h
    exact ⟨chunks, h1.mono f, h2, h3, fun c hc => HsL.mono f (h4 c hc)⟩
theorem HsL.mono {G G' : Ch} (f : ∀ x ∈ G, x ∈ G') : ∀ {ss : List Sh} {cs : List Value}, HsL M G ss cs → HsL M G' ss cs
  | [], cs, h => by simpa only [HsL] using h
  | s :: ss, cs, h => by
    simp only [HsL] at h ⊢
    obtain ⟨v, rest, h1, h2, h3⟩ := h
    exact ⟨v, rest, h1, Hs.mono f h2, HsL.mono f h3⟩
end
theorem HsL.len {G : Ch} : ∀ {ss : List Sh} {cs : List Value}, HsL M G ss cs → cs.length = ss.length := by
  intro ss
  induction ss with
  | nil => intro cs h; simp only [HsL] at h; subst h; rfl
  | cons s ss ih =>
    intro cs h
    simp only [HsL] at h
    obtain ⟨v, rest, rfl, _, h⟩ := h
    simp [ih h]
theorem hs_chunks {H : Heap} {shs : List Sh} (hone : ∀ c, HvL M H shs c → ∃ G : Ch, (∀ x ∈ G, H.get x.1 = some x.2) ∧ HsL M G shs c) :
    ∀ (chunks : List (List Value)), (∀ c ∈ chunks, HvL M H shs c) → ∃ G : Ch, (∀ x ∈ G, H.get x.1 = some x.2) ∧ ∀ c ∈ chunks, HsL M G shs c := by
  intro chunks
  induction chunks with
  | nil => intro _; exact ⟨[], fun _ h => absurd h List.not_mem_nil, fun _ h => absurd h List.not_mem_nil⟩
  | cons c chunks ih =>
    intro hc
    obtain ⟨G1, g1, g2⟩ := hone c (hc c (List.mem_cons_self ..))
    obtain ⟨G2, k1, k2⟩ := ih fun c hm => hc c (List.mem_cons_of_mem _ hm)
    refine ⟨G1 ++ G2, fun x hx => (List.mem_append.1 hx).elim (g1 x) (k1 x), fun x hx => ?_⟩
    rcases List.mem_cons.1 hx with rfl | hx
    · exact g2.mono fun y hy => List.mem_append_left _ hy
    · exact (k2 x hx).mono fun y hy => List.mem_append_right _ hy
mutual
theorem hs_of {H : Heap} (wf : WF H) : ∀ (s : Sh) (v : Value), Hv M H s v → ∃ G : Ch, (∀ x ∈ G, H.get x.1 = some x.2) ∧ Hs M G s v
  | .int k, v, h => ⟨[], fun _ h => absurd h List.not_mem_nil, by simp only [Hv] at h; simpa only [Hs] using h⟩
  | .bool, v, h => ⟨[], fun _ h => absurd h List.not_mem_nil, by simp only [Hv] at h; simpa only [Hs] using h⟩
  | .sl shs, v, h => by
    simp only [Hv] at h
    obtain ⟨chunks, h1, h2, h3⟩ := h
    obtain ⟨G1, g1, _, g3⟩ := h1.own wf
    obtain ⟨G2, k1, k2⟩ := hs_chunks (fun c hc => hsL_of wf shs c hc) chunks h3
    refine ⟨G1 ++ G2, fun x hx => (List.mem_append.1 hx).elim (g3 x) (k1 x), ?_⟩
    simp only [Hs]
    exact ⟨chunks, g1.mono fun y hy => List.mem_append_left _ hy, h1.lst, h2, fun c hc => (k2 c hc).mono fun y hy => List.mem_append_right _ hy⟩
theorem hsL_of {H : Heap} (wf : WF H) : ∀ (ss : List Sh) (cs : List Value), HvL M H ss cs → ∃ G : Ch, (∀ x ∈ G, H.get x.1 = some x.2) ∧ HsL M G ss cs
  | [], cs, h => ⟨[], fun _ h => absurd h List.not_mem_nil, by simp only [HvL] at h; simpa only [HsL] using h⟩
  | s :: ss, cs, h => by
    simp only [HvL] at h
    obtain ⟨v, rest, rfl, h1, h2⟩ := h
    obtain ⟨G1, g1, g2⟩ := hs_of wf s v h1
    obtain ⟨G2, k1, k2⟩ := hsL_of wf ss rest h2
    refine ⟨G1 ++ G2, fun x hx => (List.mem_append.1 hx).elim (g1 x) (k1 x), ?_⟩
    simp only [HsL]
    exact ⟨v, rest, rfl, g2.mono fun y hy => List.mem_append_left _ hy, k2.mono fun y hy => List.mem_append_right _ hy⟩
end
/-- A list of numbers that is handed in. -/
theorem Hs.ints {G : Ch} {k : IntKind} {v : Value} (h : Hs M G (.sl [.int k]) v) : ∃ X : List Int, Sow 1 v X.length (iz k X) G ∧ Lst v X.length ∧ X.length ≤ M ∧ ∀ z ∈ X, (Lit.int k z).wf = true := by
  simp only [Hs, HsL] at h
  obtain ⟨chunks, h1, h2, h3, h4⟩ := h
  obtain ⟨X, hX, hw⟩ : ∃ X : List Int, chunks = (X.map fun z => [.int k z]) ∧ ∀ z ∈ X, (Lit.int k z).wf = true := by
    clear h1 h2 h3
    induction chunks with
    | nil => exact ⟨[], rfl, fun _ h => absurd h List.not_mem_nil⟩
    | cons c cs ih =>
      obtain ⟨X, rfl, hX⟩ := ih fun c hc => h4 c (List.mem_cons_of_mem _ hc)
      obtain ⟨v, rest, rfl, ⟨z, rfl, hz⟩, rfl⟩ := h4 c (List.mem_cons_self ..)
      exact ⟨z :: X, rfl, fun y hy => (List.mem_cons.1 hy).elim (fun e => e ▸ hz) (hX y)⟩
  subst hX
  have hf : (X.map fun z => [Value.int k z]).flatten = iz k X := by
    clear h1 h2 h3 h4 hw
    induction X with
    | nil => rfl
    | cons z X ih => simp [ih]
  rw [hf, List.length_map] at h1
  rw [List.length_map] at h2 h3
  exact ⟨X, h1, h2, h3, hw⟩
end Go.Proofs.Ytadkkmingfajdaa
