import Derived.Test.YtjpiakhpkmmggaaDoorLHomeBytes
import Derived.Test.YtjpiakhpkmmggaaDoorS58
import Derived.Test.YtjpiakhpkmmggaaDoorAgZ
/- HbA: put together from HoAll. -/
namespace Go.Proofs.YtjpiakhpkmmggaaDoor
open Go
set_option linter.unusedVariables false
set_option linter.unusedSimpArgs false

/- ==== from HoAll -/


def tabN : List Nat := [0, 498536548, 997073096, 651767980, 1994146192, 1802195444, 1303535960, 1342533948, 3988292384, 4027552580, 3604390888, 3412177804, 2607071920, 2262029012, 2685067896, 3183342108]
/-- Half a push. -/
def hf (x : Nat) : Nat := tabN.getD (x % 16) 0 ^^^ (x / 16)
/-- A push. -/
def psh (x c : Nat) : Nat := hf (hf (x ^^^ c))
def crcs (L : List Int) (x : Nat) : Nat := L.foldl (fun x z => psh x z.toNat) x
def crc (L : List Int) : Nat := 4294967295 ^^^ crcs L 4294967295
def Byt (L : List Int) : Prop := ∀ z ∈ L, 0 ≤ z ∧ z < 256

theorem wrap_u32 {x : Int} (h1 : 0 ≤ x) (h2 : x < 4294967296) : IntKind.u32.wrap x = x := by
  have : x % 4294967296 = x := Int.emod_eq_of_lt h1 h2
  simpa [IntKind.wrap, IntKind.signed, IntKind.bits] using this
theorem xor_b {a b : Nat} (ha : a < 4294967296) (hb : b < 4294967296) : bitB .xor .u32 (a : Int) .u32 (b : Int) = some ((a ^^^ b : Nat) : Int) := by
  have h1 : a ^^^ b < 2 ^ 32 := Nat.xor_lt_two_pow (n := 32) ha hb
  have e1 : ((a : Int) % 2 ^ 32).toNat = a := by omega
  have e2 : ((b : Int) % 2 ^ 32).toNat = b := by omega
  have e : bitB .xor .u32 (a : Int) .u32 (b : Int) = some (IntKind.u32.wrap (((((a : Int) % 2 ^ 32).toNat ^^^ ((b : Int) % 2 ^ 32).toNat : Nat)) : Int)) := rfl
  rw [e, e1, e2, wrap_u32 (by omega) (by omega)]
theorem and_b {a : Nat} (ha : a < 4294967296) : bitB .and .u32 (a : Int) .u32 15 = some ((a % 16 : Nat) : Int) := by
  have e1 : ((a : Int) % 2 ^ 32).toNat = a := by omega
  have e2 : a &&& 15 = a % 16 := Nat.and_two_pow_sub_one_eq_mod a 4
  have e : bitB .and .u32 (a : Int) .u32 15 = some (IntKind.u32.wrap (((((a : Int) % 2 ^ 32).toNat &&& ((15 : Int) % 2 ^ 32).toNat : Nat)) : Int)) := rfl
  have e3 : ((15 : Int) % 2 ^ 32).toNat = 15 := by decide
  rw [e, e1, e3, e2, wrap_u32 (by omega) (by omega)]
theorem shr_b {a : Nat} : bitB .shr .u32 (a : Int) .u64 4 = some ((a / 16 : Nat) : Int) := by
  have e : bitB .shr .u32 (a : Int) .u64 4 = some ((a : Int).fdiv (2 ^ (min 4 32))) := rfl
  rw [e, Int.fdiv_eq_ediv_of_nonneg _ (by decide)]
  rfl
theorem not_b {a : Nat} (ha : a < 4294967296) : unB .xor .u32 (a : Int) = some ((4294967295 ^^^ a : Nat) : Int) := by
  have e : unB .xor .u32 (a : Int) = bitB .xor .u32 ((4294967295 : Nat) : Int) .u32 (a : Int) := rfl
  rw [e, xor_b (by decide) ha]

theorem tab_lt : ∀ i : Nat, tabN.getD i 0 < 4294967296 := by
  intro i
  by_cases hi : i < 16
  · have : ∀ j : Fin 16, tabN.getD j.1 0 < 4294967296 := by decide
    exact this ⟨i, hi⟩
  · rw [List.getD_eq_getElem?_getD, List.getElem?_eq_none (by simp [tabN]; omega)]; decide
theorem hf_lt {x : Nat} (hx : x < 4294967296) : hf x < 4294967296 := by
  have h2 : x / 16 < 2 ^ 32 := by omega
  exact Nat.xor_lt_two_pow (n := 32) (tab_lt _) h2
theorem psh_lt {x c : Nat} (hx : x < 4294967296) (hc : c < 256) : psh x c < 4294967296 := hf_lt (hf_lt (Nat.xor_lt_two_pow (n := 32) hx (by omega)))
theorem crcs_lt : ∀ {L : List Int} {x : Nat}, Byt L → x < 4294967296 → crcs L x < 4294967296 := by
  intro L
  induction L with
  | nil => intro x _ hx; exact hx
  | cons z L ih =>
    intro x hL hx
    have hz := hL z (List.mem_cons_self ..)
    exact ih (fun y hy => hL y (List.mem_cons_of_mem _ hy)) (psh_lt hx (by omega))
theorem crcs_append {A B : List Int} {x : Nat} : crcs (A ++ B) x = crcs B (crcs A x) := by simp [crcs]

section
variable {n : Nat} {h : Heap} {F G : Ch} {s u : Value} {L : List Int}

theorem tab_ld (hg : h.get 1 = some (.cells tab0.cells true 0)) {i : Nat} (hi : i < 16) : ixA 16 1 (some ⟨1, 0, none⟩) (i : Int) = some ⟨1, i, none⟩ ∧ ldT (.int .u32) h (some ⟨1, i, none⟩) = some ((tabN.getD i 0 : Nat) : Int) := by
  constructor
  · show (bif Nat.blt i 16 then _ else none) = _
    rw [show Nat.blt i 16 = true from Nat.ble_eq_true_of_le hi]; simp
  · rw [ldT_of hg]
    have : ∀ j : Fin 16, ((tab0.cells)[j.1]?).bind (Ty.int .u32).prj = some ((tabN.getD j.1 0 : Nat) : Int) := by decide
    exact this ⟨i, hi⟩

theorem push_ok (hg : h.get 1 = some (.cells tab0.cells true 0)) {x c : Nat} (hx : x < 4294967296) (hc : c < 256) : f_sum_push n (x : Int) (c : Int) h = some ((((psh x c : Nat) : Int), ()), h) := by
  have w1 : IntKind.u32.wrap (c : Int) = (c : Int) := by
    have : (c : Int) % 4294967296 = c := Int.emod_eq_of_lt (by omega) (by omega)
    simpa [IntKind.wrap, IntKind.signed, IntKind.bits] using this
  have l1 : x ^^^ c < 4294967296 := Nat.xor_lt_two_pow (n := 32) hx (by omega)
  obtain ⟨a1, a2⟩ := tab_ld hg (i := (x ^^^ c) % 16) (Nat.mod_lt _ (by decide))
  have l2 := hf_lt l1
  obtain ⟨b1, b2⟩ := tab_ld hg (i := hf (x ^^^ c) % 16) (Nat.mod_lt _ (by decide))
  have x1 := xor_b (tab_lt ((x ^^^ c) % 16)) (show (x ^^^ c) / 16 < 4294967296 by omega)
  have x2 := xor_b (tab_lt (hf (x ^^^ c) % 16)) (show hf (x ^^^ c) / 16 < 4294967296 by omega)
  have e1 : tabN.getD ((x ^^^ c) % 16) 0 ^^^ (x ^^^ c) / 16 = hf (x ^^^ c) := rfl
  have e2 : tabN.getD (hf (x ^^^ c) % 16) 0 ^^^ hf (x ^^^ c) / 16 = psh x c := rfl
  rw [e1] at x1
  rw [e2] at x2
  simp only [f_sum_push, w1, xor_b hx (show c < 4294967296 by omega), Option.bind_some, and_b l1, a1, a2, shr_b, x1, and_b l2, b1, b2, x2]

theorem of_ok {F : Ch} (hg : h.get 1 = some (.cells tab0.cells true 0)) (hL : Byt L) (hs : Sow 1 s L.length (iz .u8 L) G) (hu : Sow 1 u 1 [s] G) (ho : Own h (G ++ F)) (hlen : L.length ≤ 1000) (hn : 2000 ≤ n) :
    f_sum_Of n u h = some ((((crc L : Nat) : Int), ()), h) := by
  have rs : Rds h 1 s L.length (iz .u8 L) := hs.rds ho
  have ru : Rds h 1 u 1 [s] := hu.rds ho
  obtain ⟨a, a1, a2⟩ := ru.ix 0 (by decide)
  have a1 : ixB 1 u 0 = some a := a1
  have lda : ldT .any h (some a) = some s := by rw [a2.ldT0 (v := s) (by simp)]; rfl
  have hbt : ∀ j, Byt (L.take j) := fun j z hz => hL z (List.mem_of_mem_take hz)
  obtain ⟨r, e1, rfl⟩ := loopT_up (f := fun a : (Int × Int × Unit) × Heap => f_sum_Of_L13 n s L.length a.1.1 a.1.2.1 a.2)
    (I := fun j a => a = ((((crcs (L.take j) 4294967295 : Nat) : Int), (j : Int), ()), h)) (Q := fun r => r = ((((crcs L 4294967295 : Nat) : Int), ()), h)) (N := L.length) (k := n) (j := 0) (a := ((4294967295, 0, ()), h)) (by omega) (Nat.zero_le _) rfl (by
      rintro j a hj rfl
      obtain ⟨q, b1, b2⟩ := rs.int (L := L) hj
      have hz := hL _ (List.getElem_mem hj)
      obtain ⟨c, hc⟩ : ∃ c : Nat, L[j] = (c : Int) := ⟨L[j].toNat, by omega⟩
      rw [hc] at b2
      have e := push_ok (n := n) hg (x := crcs (L.take j) 4294967295) (c := c) (crcs_lt (hbt j) (by decide)) (by omega)
      have hcs : crcs (L.take (j + 1)) 4294967295 = psh (crcs (L.take j) 4294967295) c := by rw [take_snoc hj, crcs_append, hc]; rfl
      have hlt : (j : Int) < (L.length : Int) := by omega
      refine .inl ⟨_, ?_, rfl⟩
      simp only [f_sum_Of_L13, hlt, decide_true, cond_true, b1, b2, Option.bind_some, e, wrap_succ (j := j) (by omega), hcs]) (by
      rintro a rfl
      exact ⟨_, by simp [f_sum_Of_L13], rfl⟩)
  have e1' : loopT (fun a : (Int × Int × Unit) × Heap => f_sum_Of_L13 n s L.length a.1.1 a.1.2.1 a.2) n ((4294967295, 0, ()), h) = some ((((crcs L 4294967295 : Nat) : Int), ()), h) := e1
  obtain ⟨m, rfl⟩ : ∃ m, n = m + 2 := ⟨n - 2, by omega⟩
  have hw : IntKind.i64.wrap (0 + 1) = 1 := by decide
  have st1 : f_sum_Of_L15 (m + 2) u 1 4294967295 0 h = some (.inl ((((crcs L 4294967295 : Nat) : Int), (1, ())), h)) := by
    have : (0 : Int) < ((1 : Nat) : Int) := by omega
    simp only [f_sum_Of_L15, this, decide_true, cond_true, a1, lda, Option.bind_some, rs.lenB, e1', hw]
  have st2 : f_sum_Of_L15 (m + 2) u 1 ((crcs L 4294967295 : Nat) : Int) 1 h = some (.inr ((((crcs L 4294967295 : Nat) : Int), ()), h)) := by
    simp [f_sum_Of_L15]
  have hx := not_b (crcs_lt (x := 4294967295) hL (by decide))
  simp only [f_sum_Of, ru.lenB, Option.bind_some, loopT, st1, st2, hx]
  rfl
end
end Go.Proofs.YtjpiakhpkmmggaaDoor

/- Homes: parts side by side, numbers as bytes. -/
namespace Go.Proofs.YtjpiakhpkmmggaaDoor

section
variable {n : Nat} {h : Heap} {F G : Ch} {s u : Value} {L : List Int}

theorem join_ok {P : List (Value × List Int)} (hu : Sow 1 u P.length (P.map (·.1)) G) (hp : ∀ x ∈ P, Sow 1 x.1 x.2.length (iz .u8 x.2) G) (ho : Own h (G ++ F)) (hlen : (P.flatMap (·.2)).length ≤ 1000) (hP : P.length ≤ 10) (hn : 2000 ≤ n) :
    ∃ s h' A, f_octet_Join n u h = some ((s, ()), h') ∧ Slc 1 s (P.flatMap (·.2)).length (iz .u8 (P.flatMap (·.2))) A ∧ Own h' (A ++ (G ++ F)) := by
  have ru : Rds h 1 u P.length (P.map (·.1)) := hu.rds ho
  obtain ⟨⟨⟨s, _⟩, h'⟩, e1, A, g1, g2⟩ := loopT_up (f := fun a : (Value × Int × Unit) × Heap => f_octet_Join_L7 n u P.length a.1.1 a.1.2.1 a.2)
    (I := fun j a => a.1.2.1 = (j : Int) ∧ ∃ A, Slc 1 a.1.1 ((P.take j).flatMap (·.2)).length (iz .u8 ((P.take j).flatMap (·.2))) A ∧ Own a.2 (A ++ (G ++ F)))
    (Q := fun r => ∃ A, Slc 1 r.1.1 (P.flatMap (·.2)).length (iz .u8 (P.flatMap (·.2))) A ∧ Own r.2 (A ++ (G ++ F))) (N := P.length) (k := n) (j := 0) (a := ((.slice none 0 0, 0, ()), h)) (by omega) (Nat.zero_le _) ⟨rfl, [], .nil, ho⟩ (by
      rintro j ⟨⟨v, z, _⟩, hh⟩ hj ⟨rfl, A, l1, ow⟩
      have ow : Own hh (A ++ (G ++ F)) := ow
      have ru : Rds hh 1 u P.length (P.map (·.1)) := hu hh fun x hx => ow.get x (by simp [hx])
      obtain ⟨a, a1, a2⟩ := ru.ix j hj
      have lda : ldT .any hh (some a) = some P[j].1 := by
        rw [a2.ldT0 (v := P[j].1) (by rw [Nat.mul_one, List.getElem?_take, if_pos (by omega), List.getElem?_drop, Nat.add_zero, List.getElem?_map, List.getElem?_eq_getElem hj]; rfl)]; rfl
      have hfl : (P.take (j + 1)).flatMap (·.2) = (P.take j).flatMap (·.2) ++ P[j].2 := by rw [take_snoc hj, List.flatMap_append]; simp
      have hle : ((P.take (j + 1)).flatMap (·.2)).length ≤ (P.flatMap (·.2)).length := by
        conv => rhs; rw [← List.take_append_drop (j + 1) P, List.flatMap_append, List.length_append]
        omega
      rw [hfl, List.length_append] at hle
      obtain ⟨s', h2, A2, e2, l2, o2⟩ := (hp _ (List.getElem_mem hj)).app l1 ow (by decide) (bytes := 1) (by omega)
      have hlt : (j : Int) < (P.length : Int) := by omega
      refine .inl ⟨((s', ((j + 1 : Nat) : Int), ()), h2), ?_, rfl, A2, ?_, o2⟩
      · simp only [f_octet_Join_L7, hlt, decide_true, cond_true, a1, lda, Option.bind_some, e2, wrap_succ (j := j) (by omega)]
      · rw [hfl, List.length_append, iz_append]; exact l2) (by
      rintro ⟨⟨v, z, _⟩, hh⟩ ⟨rfl, A, l1, ow⟩
      rw [List.take_length] at l1
      refine ⟨((v, ()), hh), ?_, A, l1, ow⟩
      have : isTuple v = false := l1.notT
      simp [f_octet_Join_L7, this])
  exact ⟨s, h', A, by simp only [f_octet_Join, ru.lenB, Option.bind_some]; exact e1, g1, g2⟩

/-- A number as so many bytes. -/
def le : Nat → Nat → List Int
  | _, 0 => []
  | x, j + 1 => ((x % 256 : Nat) : Int) :: le (x / 256) j
theorem le_len : ∀ {j x : Nat}, (le x j).length = j := by
  intro j
  induction j with
  | zero => intro x; rfl
  | succ j ih => intro x; simp [le, ih]
theorem le_byt : ∀ {j x : Nat}, Byt (le x j) := by
  intro j
  induction j with
  | zero => intro x z hz; cases hz
  | succ j ih =>
    intro x z hz
    rcases List.mem_cons.1 hz with rfl | hz
    · omega
    · exact ih z hz
theorem le_get : ∀ {j x i : Nat}, i < j → (le x j)[i]? = some ((x / 256 ^ i % 256 : Nat) : Int) := by
  intro j
  induction j with
  | zero => intro x i hi; omega
  | succ j ih =>
    intro x i hi
    cases i with
    | zero => simp [le]
    | succ i =>
      simp only [le, List.getElem?_cons_succ]
      rw [ih (by omega), Nat.div_div_eq_div_mul, Nat.pow_succ, Nat.mul_comm]

theorem shr8_b {a : Nat} : bitB .shr .u64 (a : Int) .u64 8 = some ((a / 256 : Nat) : Int) := by
  have e : bitB .shr .u64 (a : Int) .u64 8 = some ((a : Int).fdiv (2 ^ (min 8 64))) := rfl
  rw [e, Int.fdiv_eq_ediv_of_nonneg _ (by decide)]
  rfl
theorem wrap_u8 {x : Nat} : IntKind.u8.wrap (x : Int) = ((x % 256 : Nat) : Int) := by
  have : IntKind.u8.wrap (x : Int) = (x : Int) % 256 := by simp [IntKind.wrap, IntKind.signed, IntKind.bits]
  rw [this]; omega

theorem oput_ok {x : Nat} (hx : x < 4294967296) (ho : Own h F) (hn : 2000 ≤ n) : ∃ s h' A, f_octet_Put n (x : Int) 4 h = some ((s, 0, ()), h') ∧ Slc 1 s 4 (iz .u8 (le x 4)) A ∧ Own h' (A ++ F) := by
  have m1 := mkSl_of (nx := h.next) (bytes := 1) (es := 1) (zs := [.int .u8 0]) (k := .i64) (k' := .i64) (l := 4) (c := 4) (by decide) (by decide) (by decide)
  have o1 := ho.new (.cells ((List.replicate 4 [Value.int .u8 0]).flatten) false 1)
  generalize hb : h.next = b at m1 o1
  generalize hh1 : h.new (.cells ((List.replicate 4 [Value.int .u8 0]).flatten) false 1) = h1 at o1
  have l0 : Slc 1 (.slice (some ⟨b, 0, some 0⟩) 4 4) 4 (iz .u8 [0, 0, 0, 0]) [(b, .cells ([] ++ (iz .u8 [0, 0, 0, 0] ++ [])) false 1)] := .mk rfl rfl rfl
  have o1 : Own h1 ([(b, .cells ([] ++ (iz .u8 [0, 0, 0, 0] ++ [])) false 1)] ++ F) := o1
  obtain ⟨q0, h2, A2, a1, a2, a3, o2⟩ := slc_set1 l0 o1 (i := 0) (by decide) (v := .int .u8 ((x % 256 : Nat) : Int)) rfl rfl
  obtain ⟨q1, h3, A3, b1, b2, b3, o3⟩ := slc_set1 a3 o2 (i := 1) (by decide) (v := .int .u8 ((x / 256 % 256 : Nat) : Int)) rfl rfl
  obtain ⟨q2, h4, A4, c1, c2, c3, o4⟩ := slc_set1 b3 o3 (i := 2) (by decide) (v := .int .u8 ((x / 256 / 256 % 256 : Nat) : Int)) rfl rfl
  obtain ⟨q3, h5, A5, d1, d2, d3, o5⟩ := slc_set1 c3 o4 (i := 3) (by decide) (v := .int .u8 ((x / 256 / 256 / 256 % 256 : Nat) : Int)) rfl rfl
  refine ⟨_, h5, A5, ?_, d3, o5⟩
  obtain ⟨m, rfl⟩ : ∃ m, n = m + 6 := ⟨n - 6, by omega⟩
  have m1' : mkSl b 1 1 [.int .u8 0] (.int .i64 4) (.int .i64 4) = some (.slice (some ⟨b, 0, some 0⟩) 4 4, .cells ((List.replicate 4 [Value.int .u8 0]).flatten) false 1) := m1
  have a1 : ixB 1 (.slice (some ⟨b, 0, some 0⟩) 4 4) 0 = some q0 := a1
  have b1 : ixB 1 (.slice (some ⟨b, 0, some 0⟩) 4 4) 1 = some q1 := b1
  have c1 : ixB 1 (.slice (some ⟨b, 0, some 0⟩) 4 4) 2 = some q2 := c1
  have d1 : ixB 1 (.slice (some ⟨b, 0, some 0⟩) 4 4) 3 = some q3 := d1
  have s0 : f_octet_Put_L10 (m + 6) (.slice (some ⟨b, 0, some 0⟩) 4 4, .cells ((List.replicate 4 [Value.int .u8 0]).flatten) false 1) 4 (x : Int) 0 h1 = some (.inl ((((x / 256 : Nat) : Int), (1, ())), h2)) := by
    have h0 : (0 : Int) < ((4 : Nat) : Int) := by omega
    have w : IntKind.i64.wrap (0 + 1) = 1 := by decide
    simp only [f_octet_Put_L10, h0, decide_true, cond_true, a1, Option.bind_some, wrap_u8, a2, shr8_b, w]
  have s1 : f_octet_Put_L10 (m + 6) (.slice (some ⟨b, 0, some 0⟩) 4 4, .cells ((List.replicate 4 [Value.int .u8 0]).flatten) false 1) 4 ((x / 256 : Nat) : Int) 1 h2 = some (.inl ((((x / 256 / 256 : Nat) : Int), (2, ())), h3)) := by
    have h0 : (1 : Int) < ((4 : Nat) : Int) := by omega
    have w : IntKind.i64.wrap (1 + 1) = 2 := by decide
    simp only [f_octet_Put_L10, h0, decide_true, cond_true, b1, Option.bind_some, wrap_u8, b2, shr8_b, w]
  have s2 : f_octet_Put_L10 (m + 6) (.slice (some ⟨b, 0, some 0⟩) 4 4, .cells ((List.replicate 4 [Value.int .u8 0]).flatten) false 1) 4 ((x / 256 / 256 : Nat) : Int) 2 h3 = some (.inl ((((x / 256 / 256 / 256 : Nat) : Int), (3, ())), h4)) := by
    have h0 : (2 : Int) < ((4 : Nat) : Int) := by omega
    have w : IntKind.i64.wrap (2 + 1) = 3 := by decide
    simp only [f_octet_Put_L10, h0, decide_true, cond_true, c1, Option.bind_some, wrap_u8, c2, shr8_b, w]
  have s3 : f_octet_Put_L10 (m + 6) (.slice (some ⟨b, 0, some 0⟩) 4 4, .cells ((List.replicate 4 [Value.int .u8 0]).flatten) false 1) 4 ((x / 256 / 256 / 256 : Nat) : Int) 3 h4 = some (.inl ((((x / 256 / 256 / 256 / 256 : Nat) : Int), (4, ())), h5)) := by
    have h0 : (3 : Int) < ((4 : Nat) : Int) := by omega
    have w : IntKind.i64.wrap (3 + 1) = 4 := by decide
    simp only [f_octet_Put_L10, h0, decide_true, cond_true, d1, Option.bind_some, wrap_u8, d2, shr8_b, w]
  have hz : x / 256 / 256 / 256 / 256 = 0 := by omega
  rw [hz] at s3
  have s4 : f_octet_Put_L10 (m + 6) (.slice (some ⟨b, 0, some 0⟩) 4 4, .cells ((List.replicate 4 [Value.int .u8 0]).flatten) false 1) 4 ((0 : Nat) : Int) 4 h5 = some (.inr ((0, ()), h5)) := by
    simp [f_octet_Put_L10]
  have g1 : (1 : Int) ≤ 4 := by decide
  have g2 : (4 : Int) ≤ 8 := by decide
  have hl : lenB (.slice (some ⟨b, 0, some 0⟩) 4 4) = some 4 := rfl
  have ht : isTuple (.slice (some ⟨b, 0, some 0⟩) 4 4) = false := rfl
  simp only [f_octet_Put, f_octet_may, g1, g2, decide_true, cond_true, Option.bind_some, Bool.not_true, cond_false, hb, m1', bnd_eq, hh1, hl, loopT, s0, s1, s2, s3, s4, ht, Bool.not_false]
end
end Go.Proofs.YtjpiakhpkmmggaaDoor

/- Homes: Encode. -/
namespace Go.Proofs.YtjpiakhpkmmggaaDoor

/-- What stands ahead of the sum. -/
def encH (k : Int) (V : List Int) : List Int := [72, 79, 77, 69, 1, k] ++ (List.replicate 22 0 ++ V)
def enc (k : Int) (V : List Int) : List Int := encH k V ++ le (crc (encH k V)) 4

section
variable {n : Nat} {h : Heap} {F G : Ch} {s u : Value} {L V : List Int} {k : Int}

theorem encH_len (hV : V.length = 32) : (encH k V).length = 60 := by simp [encH, hV]
theorem enc_len (hV : V.length = 32) : (enc k V).length = 64 := by simp [enc, encH_len hV, le_len]
theorem encH_byt (h1 : 0 ≤ k) (h2 : k < 64) (hV : Byt V) : Byt (encH k V) := by
  intro z hz
  simp only [encH, List.mem_append, List.mem_cons, List.not_mem_nil, or_false, List.mem_replicate] at hz
  rcases hz with (rfl | rfl | rfl | rfl | rfl | rfl) | ⟨_, rfl⟩ | hz
  all_goals first | omega | exact hV z hz
theorem enc_byt (h1 : 0 ≤ k) (h2 : k < 64) (hV : Byt V) : Byt (enc k V) := by
  intro z hz
  rcases List.mem_append.1 hz with hz | hz
  · exact encH_byt h1 h2 hV z hz
  · exact le_byt z hz
theorem crc_lt (hL : Byt L) : crc L < 4294967296 := Nat.xor_lt_two_pow (n := 32) (by decide) (crcs_lt hL (by decide))

abbrev tabO : Nat × AObj := (1, .cells tab0.cells true 0)
/-- A literal slice of slices. -/
theorem lits {b : Nat} {vs : List Value} : Sow 1 (.slice (some ⟨b, 0, some 0⟩) vs.length vs.length) vs.length vs [(b, .cells vs false 1)] := by
  have := (Slc.mk (es := 1) (b := b) (off := 0) (sp := some 0) (n := vs.length) (c := vs.length) (pre := []) (cs := vs) (rest := []) rfl (by simp) (by simp)).sow
  simpa using this

theorem encode_ok (h1 : 0 ≤ k) (h2 : k < 64) (hV : V.length = 32) (hb : Byt V) (hm : tabO ∈ F) (ho : Own h F) (hn : 2000 ≤ n) :
    ∃ s h' A, f_home_Encode n k (.agg ⟨iz .u8 V⟩) h = some ((s, 0, ()), h') ∧ Slc 1 s 64 (iz .u8 (enc k V)) A ∧ Own h' (A ++ F) := by
  have o1 := ho.new (.cells (iz .u8 V) false 0)
  generalize hb0 : h.next = b0 at o1
  generalize hh0 : h.new (.cells (iz .u8 V) false 0) = h0 at o1
  have o2 := o1.new (.cells (iz .u8 [72, 79, 77, 69]) false 1)
  generalize hb1 : h0.next = b1 at o2
  generalize hh1 : h0.new (.cells (iz .u8 [72, 79, 77, 69]) false 1) = ha at o2
  have mk : markSK ha (.slice (some ⟨b1, 0, some 0⟩) 4 4) = some (.slice (some ⟨b1, 0, some 0⟩) 4 4, ha.put b1 (.cells (iz .u8 [72, 79, 77, 69]) false 1)) := by
    simp only [markSK, o2.head]; rfl
  have o3 := o2.put (.cells (iz .u8 [72, 79, 77, 69]) false 1)
  generalize hhb : ha.put b1 (.cells (iz .u8 [72, 79, 77, 69]) false 1) = hbb at o3 mk
  have o4 := o3.new (.cells (iz .u8 [1, k]) false 1)
  generalize hb2 : hbb.next = b2 at o4
  generalize hhc : hbb.new (.cells (iz .u8 [1, k]) false 1) = hc at o4
  have o5 := o4.new (.cells [.slice (some ⟨b1, 0, some 0⟩) 4 4, .slice (some ⟨b2, 0, some 0⟩) 2 2] false 1)
  generalize hb3 : hc.next = b3 at o5
  generalize hhd : hc.new (.cells [.slice (some ⟨b1, 0, some 0⟩) 4 4, .slice (some ⟨b2, 0, some 0⟩) 2 2] false 1) = hd at o5
  have sl : ∀ (b : Nat) (L : List Int), Sow 1 (.slice (some ⟨b, 0, some 0⟩) L.length L.length) L.length (iz .u8 L) [(b, .cells (iz .u8 L) false 1)] := fun b L => by
    have := lits (b := b) (vs := iz .u8 L)
    simpa [iz] using this
  obtain ⟨s9, he, A9, e9, l9, o6⟩ := join_ok (n := n) (P := [(.slice (some ⟨b1, 0, some 0⟩) 4 4, [72, 79, 77, 69]), (.slice (some ⟨b2, 0, some 0⟩) 2 2, [1, k])]) (u := .slice (some ⟨b3, 0, some 0⟩) 2 2)
    (G := [(b3, .cells [.slice (some ⟨b1, 0, some 0⟩) 4 4, .slice (some ⟨b2, 0, some 0⟩) 2 2] false 1), (b2, .cells (iz .u8 [1, k]) false 1), (b1, .cells (iz .u8 [72, 79, 77, 69]) false 1)]) (h := hd) (F := (b0, .cells (iz .u8 V) false 0) :: F)
    ((lits (b := b3) (vs := [.slice (some ⟨b1, 0, some 0⟩) 4 4, .slice (some ⟨b2, 0, some 0⟩) 2 2])).mono fun x hx => by simp only [List.mem_singleton] at hx; subst hx; exact List.mem_cons_self ..) (by
      intro x hx
      simp only [List.mem_cons, List.not_mem_nil, or_false] at hx
      rcases hx with rfl | rfl
      · exact (sl b1 [72, 79, 77, 69]).mono (by simp)
      · exact (sl b2 [1, k]).mono (by simp)) o5 (by simp) (by simp) hn
  have hf9 : ([((.slice (some ⟨b1, 0, some 0⟩) 4 4 : Value), ([72, 79, 77, 69] : List Int)), (.slice (some ⟨b2, 0, some 0⟩) 2 2, [1, k])] : List (Value × List Int)).flatMap (·.2) = [72, 79, 77, 69, 1, k] := rfl
  rw [hf9] at l9
  have o7 : Own he (A9 ++ ((b0, .cells (iz .u8 V) false 0) :: F)) := o6.to fun x => by simp only [cnt_append, cnt_cons, cnt_nil]; omega
  have m1 := mkSl_of (nx := he.next) (bytes := 1) (es := 1) (zs := [.int .u8 0]) (k := .i64) (k' := .i64) (l := 22) (c := 22) (by decide) (by decide) (by decide)
  have o8 := o7.new (.cells (iz .u8 (List.replicate 22 0)) false 1)
  have hz22 : (List.replicate 22 [Value.int .u8 0]).flatten = iz .u8 (List.replicate 22 0) := rfl
  rw [hz22] at m1
  generalize hb4 : he.next = b4 at o8 m1
  generalize hhf : he.new (.cells (iz .u8 (List.replicate 22 0)) false 1) = hf at o8
  have ar : ∀ H : Heap, sliceArrK H 32 1 none none (.pointer (some ⟨b0, 0, none⟩)) = some (.slice (some ⟨b0, 0, some 0⟩) 32 32, H) := fun H => rfl
  have o9 := o8.new (.cells [s9, .slice (some ⟨b4, 0, some 0⟩) 22 22, .slice (some ⟨b0, 0, some 0⟩) 32 32] false 1)
  generalize hb5 : hf.next = b5 at o9
  generalize hhg : hf.new (.cells [s9, .slice (some ⟨b4, 0, some 0⟩) 22 22, .slice (some ⟨b0, 0, some 0⟩) 32 32] false 1) = hg at o9
  have sv : Sow 1 (.slice (some ⟨b0, 0, some 0⟩) 32 32) V.length (iz .u8 V) [(b0, .cells (iz .u8 V) false 0)] := by
    have := Sow.piece (b := b0) (off := 0) (sp := some 0) (n := 32) (c := 32) (cs := iz .u8 V) (ro := false) (e := 0) (by simp [iz, hV])
    rw [List.drop_zero, List.take_of_length_le (by simp [iz, hV])] at this
    rw [hV]; exact this
  obtain ⟨s16, hi, A16, e16, l16, o10⟩ := join_ok (n := n) (P := [(s9, [72, 79, 77, 69, 1, k]), (.slice (some ⟨b4, 0, some 0⟩) 22 22, List.replicate 22 0), (.slice (some ⟨b0, 0, some 0⟩) 32 32, V)]) (u := .slice (some ⟨b5, 0, some 0⟩) 3 3)
    (G := (b5, .cells [s9, .slice (some ⟨b4, 0, some 0⟩) 22 22, .slice (some ⟨b0, 0, some 0⟩) 32 32] false 1) :: (b4, .cells (iz .u8 (List.replicate 22 0)) false 1) :: (b0, .cells (iz .u8 V) false 0) :: A9) (h := hg) (F := F)
    ((lits (b := b5) (vs := [s9, .slice (some ⟨b4, 0, some 0⟩) 22 22, .slice (some ⟨b0, 0, some 0⟩) 32 32])).mono fun x hx => by simp only [List.mem_singleton] at hx; subst hx; exact List.mem_cons_self ..) (by
      intro x hx
      simp only [List.mem_cons, List.not_mem_nil, or_false] at hx
      rcases hx with rfl | rfl | rfl
      · exact l9.sow.mono fun x hx => by simp [hx]
      · exact (sl b4 (List.replicate 22 0)).mono (by simp)
      · exact sv.mono (by simp)) (o9.to fun x => by simp only [cnt_append, cnt_cons, cnt_nil]; omega) (by simp [hV]) (by simp) hn
  have hf16 : ([(s9, ([72, 79, 77, 69, 1, k] : List Int)), (.slice (some ⟨b4, 0, some 0⟩) 22 22, List.replicate 22 0), (.slice (some ⟨b0, 0, some 0⟩) 32 32, V)] : List (Value × List Int)).flatMap (·.2) = encH k V := by
    simp only [List.flatMap_cons, List.flatMap_nil, List.append_nil, encH]
  rw [hf16, encH_len hV] at l16
  have o11 : Own hi (A16 ++ F) := o10.to fun x => by simp only [cnt_append, cnt_cons, cnt_nil]; omega
  have o12 := o11.new (.cells [s16] false 1)
  generalize hb6 : hi.next = b6 at o12
  generalize hhj : hi.new (.cells [s16] false 1) = hj at o12
  have hbt := encH_byt h1 h2 hb
  have e19 := of_ok (n := n) (o12.get tabO (List.mem_cons_of_mem _ (List.mem_append_right _ hm))) (L := encH k V) (s := s16) (u := .slice (some ⟨b6, 0, some 0⟩) 1 1) (G := (b6, .cells [s16] false 1) :: A16) (h := hj) (F := F) hbt (by rw [encH_len hV]; exact l16.sow.mono fun x hx => by simp [hx]) ((lits (b := b6) (vs := [s16])).mono fun x hx => by simp only [List.mem_singleton] at hx; subst hx; exact List.mem_cons_self ..) (o12.to fun x => by simp only [cnt_append, cnt_cons, cnt_nil]; omega) (by rw [encH_len hV]; omega) hn
  have hw64 : IntKind.u64.wrap ((crc (encH k V) : Nat) : Int) = ((crc (encH k V) : Nat) : Int) := wrap_u64 (by omega) (by have := crc_lt hbt; omega)
  obtain ⟨s20, hk', A20, e20, l20, o13⟩ := oput_ok (n := n) (crc_lt hbt) o12.tail hn
  have o14 := o13.new (.cells [s16, s20] false 1)
  generalize hb7 : hk'.next = b7 at o14
  generalize hhl : hk'.new (.cells [s16, s20] false 1) = hl at o14
  obtain ⟨s23, hm, A23, e23, l23, o15⟩ := join_ok (n := n) (P := [(s16, encH k V), (s20, le (crc (encH k V)) 4)]) (u := .slice (some ⟨b7, 0, some 0⟩) 2 2) (G := (b7, .cells [s16, s20] false 1) :: (A16 ++ A20)) (h := hl) (F := F)
    ((lits (b := b7) (vs := [s16, s20])).mono fun x hx => by simp only [List.mem_singleton] at hx; subst hx; exact List.mem_cons_self ..) (by
      intro x hx
      simp only [List.mem_cons, List.not_mem_nil, or_false] at hx
      rcases hx with rfl | rfl
      · show Sow 1 s16 (encH k V).length _ _
        rw [encH_len hV]; exact l16.sow.mono fun x hx => by simp [hx]
      · show Sow 1 s20 (le _ 4).length _ _
        rw [le_len]; exact l20.sow.mono fun x hx => by simp [hx]) (o14.to fun x => by simp only [cnt_append, cnt_cons, cnt_nil]; omega) (by simp [encH_len hV, le_len]) (by simp) hn
  have hf23 : ([(s16, encH k V), (s20, le (crc (encH k V)) 4)] : List (Value × List Int)).flatMap (·.2) = enc k V := by
    simp only [List.flatMap_cons, List.flatMap_nil, List.append_nil, enc]
  rw [hf23, enc_len hV] at l23
  refine ⟨s23, hm, A23, ?_, l23, o15.to fun x => by simp only [cnt_append, cnt_cons, cnt_nil]; omega⟩
  have c1 : (cellsOf (.agg ⟨iz .u8 V⟩)).all isCell = true := iz_cell
  have c2 : cellsOf (.agg ⟨iz .u8 V⟩) = iz .u8 V := rfl
  have wk : IntKind.u8.wrap k = k := by
    have : k % 256 = k := Int.emod_eq_of_lt (by omega) (by omega)
    simpa [IntKind.wrap, IntKind.signed, IntKind.bits] using this
  have f1 : fillL (List.replicate 4 (.int .u8 0)) [(0, 1, .int .u8 72), (1, 1, .int .u8 79), (2, 1, .int .u8 77), (3, 1, .int .u8 69)] = some (iz .u8 [72, 79, 77, 69]) := rfl
  have f2 : fillL [.int .u8 0, .int .u8 0] [(0, 1, .int .u8 1), (1, 1, .int .u8 k)] = some (iz .u8 [1, k]) := rfl
  have f3 : fillL [.slice none 0 0, .slice none 0 0] [(0, 1, .slice (some ⟨b1, 0, some 0⟩) 4 4), (1, 1, .slice (some ⟨b2, 0, some 0⟩) 2 2)] = some [.slice (some ⟨b1, 0, some 0⟩) 4 4, .slice (some ⟨b2, 0, some 0⟩) 2 2] := rfl
  have f4 : fillL [.slice none 0 0, .slice none 0 0, .slice none 0 0] [(0, 1, s9), (1, 1, .slice (some ⟨b4, 0, some 0⟩) 22 22), (2, 1, .slice (some ⟨b0, 0, some 0⟩) 32 32)] = some [s9, .slice (some ⟨b4, 0, some 0⟩) 22 22, .slice (some ⟨b0, 0, some 0⟩) 32 32] := by
    obtain ⟨a, c, rfl⟩ := l9.form; rfl
  have f5 : fillL [.slice none 0 0] [(0, 1, s16)] = some [s16] := by obtain ⟨a, c, rfl⟩ := l16.form; rfl
  have f6 : fillL [.slice none 0 0, .slice none 0 0] [(0, 1, s16), (1, 1, s20)] = some [s16, s20] := by
    obtain ⟨a, c, rfl⟩ := l16.form
    obtain ⟨a, c, rfl⟩ := l20.form; rfl
  have w22 : IntKind.i64.wrap (28 - ((6 : Nat) : Int)) = ((22 : Nat) : Int) := by decide
  have hl9 : lenB s9 = some 6 := l9.lenB
  simp only [f_home_Encode, c1, iz_cell, cond_true, c2, bnd_eq, hh0, f_home_block, h1, decide_true, h2, Option.bind_some, Bool.not_true, cond_false, f1, hb1, hh1, mk, wk, f2, hhc, hb2, f3, hhd, hb3, e9, hl9, w22, hb4, m1, hhf]
  simp only [ar, nwA_eq, hb0, Option.bind_some, f4, bnd_eq, hhg, hb5, e16, f5, hhj, hb6, e19, hw64, e20, f6, hhl, hb7, e23, l23.notT, Bool.not_false, cond_true]
end
end Go.Proofs.YtjpiakhpkmmggaaDoor

/- Homes: Decode. -/
namespace Go.Proofs.YtjpiakhpkmmggaaDoor

def midV (B : List Int) : List Int := (B.drop 28).take 32
/-- What Decode answers. -/
def decE (k : Int) (B : List Int) : Int := if B.length = 64 then (if enc k (midV B) = B then 0 else 80) else 2
def decV (k : Int) (B : List Int) : List Int := if decE k B = 0 then midV B else List.replicate 32 0

section
variable {n : Nat} {h : Heap} {F G : Ch} {s u : Value} {L V B : List Int} {k : Int}

theorem readCells_sub {r off m i j : Nat} {cs : List Value} (h1 : readCells h r off m = some cs) (hij : i + j ≤ m) : readCells h r (off + i) j = some ((cs.drop i).take j) := by
  unfold readCells at h1 ⊢
  split at h1
  · rename_i xs ro es hg
    cases hb : Nat.ble (off + m) xs.length with
    | false => rw [hb] at h1; cases h1
    | true =>
      rw [hb] at h1
      have hle := Nat.le_of_ble_eq_true hb
      rw [Nat.ble_eq_true_of_le (by omega : off + i + j ≤ xs.length)]
      simp only [cond_true, Option.some.injEq] at h1 ⊢
      subst h1
      rw [List.drop_take, List.drop_drop, List.take_take, Nat.min_eq_left (by omega)]
  · cases h1

theorem Rds.addr {m : Nat} {cs : List Value} (hs : Rds h 1 s m cs) (hm : 0 < m) : ∃ q c, s = .slice (some q) m c ∧ readCells h q.block q.off m = some cs := by
  obtain ⟨a, c, rfl, e⟩ := hs.src
  cases a with
  | none =>
    have e : some ([] : List Value) = some cs := e
    have := hs.len
    cases e
    simp at this; omega
  | some q => exact ⟨q, c, rfl, by rw [Nat.mul_one] at e; exact e⟩

/-- A slice's first so many, as an array. -/
theorem arr_of {m j : Nat} {cs : List Value} (hs : Rds h 1 s m cs) (hj : 1 ≤ j) (hjm : j ≤ m) : ∃ q, arrB h j s = some (some q) ∧ ldA j h (some q) = some (cs.take j) := by
  obtain ⟨q, c, rfl, e⟩ := hs.addr (by omega)
  refine ⟨⟨q.block, q.off, none⟩, ?_, ?_⟩
  · unfold arrB
    rw [arrAtK_of hjm hj]; rfl
  · simp only [ldA, Option.bind_some]
    have := readCells_sub (i := 0) (j := j) e (by omega)
    simpa using this

def Cap (s : Value) (m : Nat) : Prop := ∃ a c, s = .slice a m c ∧ m ≤ c
theorem Slc.cap {m : Nat} {cs : List Value} {A : Ch} (hs : Slc 1 s m cs A) : Cap s m := by
  cases hs with
  | nil => exact ⟨_, _, rfl, Nat.le_refl _⟩
  | mk hp hl hr => exact ⟨_, _, rfl, by omega⟩
theorem Lst.cap {m : Nat} (hs : Lst s m) : Cap s m := by
  rcases hs with ⟨rfl, rfl⟩ | ⟨b, rfl⟩
  · exact ⟨_, _, rfl, Nat.le_refl _⟩
  · exact ⟨_, _, rfl, Nat.le_refl _⟩

theorem mid_ok (hs : Rds h 1 s 64 (iz .u8 B)) (hc : Cap s 64) : ∃ s' q, sliceK h 1 (some (.int .i64 28)) (some (.int .i64 60)) none s = some (s', h) ∧ arrB h 32 s' = some (some q) ∧ ldA 32 h (some q) = some (iz .u8 (midV B)) := by
  obtain ⟨q, c, rfl, e⟩ := hs.addr (by decide)
  obtain ⟨a, c', e', hcc⟩ := hc
  cases e'
  have e1 : sliceK h 1 (some (.int .i64 ((28 : Nat) : Int))) (some (.int .i64 ((60 : Nat) : Int))) none (.slice (some ⟨q.block, q.off, q.spot⟩) 64 c) = some (.slice (some ⟨q.block, q.off + 28 * 1, q.spot⟩) (60 - 28) (c - 28), h) := sliceK_lh (by decide) (by omega)
  refine ⟨_, ⟨q.block, q.off + 28 * 1, none⟩, e1, ?_, ?_⟩
  · unfold arrB
    rw [arrAtK_of (by decide) (by decide)]; rfl
  · simp only [ldA, Option.bind_some]
    have := readCells_sub (i := 28) (j := 32) e (by decide)
    rw [Nat.mul_one, this]
    simp [iz, midV, List.map_take, List.map_drop]

theorem eq_ok {A : List Int} {m : Nat} (ha : A.length = m) (hb : B.length = m) : eqVals h (.agg (List.replicate m false)) (.agg ⟨iz .u8 A⟩) (.agg ⟨iz .u8 B⟩) = some (decide (A = B)) := by
  have := eqCells_iz (k := .u8) ha hb
  exact this

abbrev z32' : List Value := List.replicate 32 (.int .u8 0)
theorem z32_iz : z32' = iz .u8 (List.replicate 32 0) := rfl
theorem midV_len (hB : B.length = 64) : (midV B).length = 32 := by simp [midV, hB]
theorem midV_byt (hB : Byt B) : Byt (midV B) := fun z hz => hB z (List.mem_of_mem_drop (List.mem_of_mem_take hz))
theorem decE_len (h : decE k B = 0) : B.length = 64 := by
  unfold decE at h
  by_cases h1 : B.length = 64
  · exact h1
  · rw [if_neg h1] at h; cases h
theorem decV_len : (decV k B).length = 32 := by
  unfold decV
  by_cases h0 : decE k B = 0
  · rw [if_pos h0]; exact midV_len (decE_len h0)
  · rw [if_neg h0]; simp

theorem decode_ok (h1 : 0 ≤ k) (h2 : k < 64) (hB : Byt B) (hs : Sow 1 s B.length (iz .u8 B) G) (hc : Cap s B.length) (hm : tabO ∈ G ++ F) (ho : Own h (G ++ F)) (hn : 2000 ≤ n) :
    ∃ h', f_home_Decode n s k h = some ((.agg ⟨iz .u8 (decV k B)⟩, decE k B, ()), h') ∧ Own h' (G ++ F) := by
  have o1 := ho.new (.cells z32' false 0)
  generalize hbv : h.next = bv at o1
  generalize hh0 : h.new (.cells z32' false 0) = h0 at o1
  have fz : fillL z32' [] = some z32' := rfl
  have put : ∀ {hh : Heap} {X : Ch} {xs : List Value} (L : List Int), L.length = 32 → xs.length = 32 → Own hh ((bv, .cells xs false 0) :: X) →
      ∃ h', stB 32 (.agg ⟨iz .u8 L⟩) hh (some ⟨bv, 0, none⟩) = some h' ∧ ldA 32 h' (some ⟨bv, 0, none⟩) = some (iz .u8 L) ∧ Own h' X := by
    intro hh X xs L hL hxs o
    have hl : (iz .u8 L).length = 32 := by simp [iz, hL]
    have hw : writeAt xs 0 (iz .u8 L) = iz .u8 L := by rw [writeAt_eq _ _ _ (by omega)]; simp [List.drop_eq_nil_of_le, hl, hxs]
    have o' := o.put (.cells (iz .u8 L) false 0)
    refine ⟨_, by rw [stBA_of o.head hl iz_cell (by omega), hw], ?_, o'.tail⟩
    rw [ldA_of o'.head (by rw [hl]; exact Nat.le_refl _), List.drop_zero, List.take_of_length_le (by omega)]
  by_cases hl : B.length = 64
  · have rs : Rds h0 1 s 64 (iz .u8 B) := by rw [← hl]; exact hs h0 fun x hx => o1.get x (by simp [hx])
    rw [hl] at hc
    obtain ⟨s', q, a1, a2, a3⟩ := mid_ok rs hc
    have hml := midV_len hl
    have hmb := midV_byt hB
    have o2 := o1.new (.cells z32' false 0)
    generalize hbw : h0.next = bw at o2
    generalize hh1 : h0.new (.cells z32' false 0) = ha at o2
    have hlm : (iz .u8 (midV B)).length = 32 := by simp [iz, hml]
    have hw : writeAt z32' 0 (iz .u8 (midV B)) = iz .u8 (midV B) := by rw [writeAt_eq _ _ _ (by rw [hlm]; decide)]; simp [List.drop_eq_nil_of_le, hlm]
    have st : stB 32 (.agg ⟨iz .u8 (midV B)⟩) ha (some ⟨bw, 0, none⟩) = some (ha.put bw (.cells (iz .u8 (midV B)) false 0)) := by rw [stBA_of o2.head hlm iz_cell (by decide), hw]
    have o3 := o2.put (.cells (iz .u8 (midV B)) false 0)
    generalize hhb : ha.put bw (.cells (iz .u8 (midV B)) false 0) = hbb at o3 st
    have ldw : ∀ {hh : Heap}, hh.get bw = some (.cells (iz .u8 (midV B)) false 0) → ldA 32 hh (some ⟨bw, 0, none⟩) = some (iz .u8 (midV B)) := by
      intro hh hg
      rw [ldA_of hg (by rw [hlm]; exact Nat.le_refl _), List.drop_zero, List.take_of_length_le (by omega)]
    obtain ⟨s15, hcc, A15, e15, l15, o4⟩ := encode_ok (n := n) (k := k) (V := midV B) h1 h2 hml hmb (h := hbb) (F := (bw, .cells (iz .u8 (midV B)) false 0) :: (bv, .cells z32' false 0) :: (G ++ F)) (List.mem_cons_of_mem _ (List.mem_cons_of_mem _ hm)) (o3.to fun x => by simp only [cnt_append, cnt_cons, cnt_nil]; omega) hn
    have rs2 : Rds hcc 1 s 64 (iz .u8 B) := by rw [← hl]; exact hs hcc fun x hx => o4.get x (by simp [hx])
    have r15 : Rds hcc 1 s15 64 (iz .u8 (enc k (midV B))) := l15.rds o4
    obtain ⟨q1, b1, b2⟩ := arr_of r15 (j := 64) (by decide) (by decide)
    obtain ⟨q2, c1, c2⟩ := arr_of rs2 (j := 64) (by decide) (by decide)
    rw [List.take_of_length_le (by simp [iz, enc_len hml])] at b2
    rw [List.take_of_length_le (by simp [iz, hl])] at c2
    have eq := eq_ok (h := hcc) (A := enc k (midV B)) (B := B) (m := 64) (enc_len hml) hl
    have hlen : lenB s = some 64 := rs.lenB
    by_cases he : enc k (midV B) = B
    · have hE : decE k B = 0 := by unfold decE; rw [if_pos hl, if_pos he]
      have hV : decV k B = midV B := by unfold decV; rw [if_pos hE]
      obtain ⟨h', d1, d2, o5⟩ := put (hh := hcc) (X := G ++ F) (xs := z32') (midV B) hml rfl (o4.to fun x => by simp only [cnt_append, cnt_cons, cnt_nil]; omega)
      refine ⟨h', ?_, o5⟩
      rw [hE, hV]
      have eq : eqVals hcc (.agg (List.replicate 64 false)) (.agg ⟨iz .u8 B⟩) (.agg ⟨iz .u8 B⟩) = some true := by rw [he] at eq; simpa using eq
      have lw := ldw (hh := hcc) (o4.get (bw, _) (by simp))
      simp only [f_home_Decode, bnd_eq, hh0, f_home_block, h1, decide_true, cond_true, h2, Option.bind_some, Bool.not_true, cond_false, hlen, show ((64 : Nat) : Int) = 64 from rfl, a1, a2, a3, hh1, nwA_eq, hbw, st, ldw o3.head, e15, b1, b2, c1, c2, eq, he, lw, hbv, d1, d2]
    · have hE : decE k B = 80 := by unfold decE; rw [if_pos hl, if_neg he]
      have hV : decV k B = List.replicate 32 0 := by unfold decV; rw [hE]; rfl
      obtain ⟨h', d1, d2, o5⟩ := put (hh := hcc) (X := G ++ F) (xs := z32') (List.replicate 32 0) (by simp) rfl (o4.to fun x => by simp only [cnt_append, cnt_cons, cnt_nil]; omega)
      rw [← z32_iz] at d1 d2
      refine ⟨h', ?_, o5⟩
      rw [hE, hV, ← z32_iz]
      simp only [f_home_Decode, bnd_eq, hh0, f_home_block, h1, decide_true, cond_true, h2, Option.bind_some, Bool.not_true, cond_false, hlen, show ((64 : Nat) : Int) = 64 from rfl, a1, a2, a3, hh1, nwA_eq, hbw, st, ldw o3.head, e15, b1, b2, c1, c2, eq, he, decide_false, Bool.not_false, hbv, fz, d1, d2]
  · have hE : decE k B = 2 := by unfold decE; rw [if_neg hl]
    have hV : decV k B = List.replicate 32 0 := by unfold decV; rw [hE]; rfl
    obtain ⟨h', d1, d2, o5⟩ := put (hh := h0) (X := G ++ F) (xs := z32') (List.replicate 32 0) (by simp) rfl o1
    rw [← z32_iz] at d1 d2
    have rs : Rds h0 1 s B.length (iz .u8 B) := hs h0 fun x hx => o1.get x (by simp [hx])
    refine ⟨h', ?_, o5⟩
    rw [hE, hV, ← z32_iz]
    have hne : ¬ ((B.length : Int) = 64) := by omega
    simp only [f_home_Decode, bnd_eq, hh0, f_home_block, h1, decide_true, cond_true, h2, Option.bind_some, Bool.not_true, cond_false, rs.lenB, hne, decide_false, Bool.not_false, nwA_eq, hbv, fz, d1, d2]
end
end Go.Proofs.YtjpiakhpkmmggaaDoor

/- HomeBack. -/
namespace Go.Proofs.YtjpiakhpkmmggaaDoor

theorem idx64 (y : Int) : ∃ k : Nat, k < 64 ∧ Int.tmod (IntKind.i64.wrap (Int.tmod y 64 + 64)) 64 = (k : Int) := by
  have g1 := Int.tmod_lt_of_pos y (b := 64) (by omega)
  have g2 := Int.lt_tmod_of_pos y (b := 64) (by omega)
  rw [wrap_i64 (by omega) (by omega)]
  have g3 := Int.tmod_lt_of_pos (y.tmod 64 + 64) (b := 64) (by omega)
  have g4 := Int.tmod_nonneg (a := y.tmod 64 + 64) 64 (by omega)
  exact ⟨((y.tmod 64 + 64).tmod 64).toNat, by omega, by omega⟩

section
variable {n : Nat} {h : Heap} {F G : Ch} {s u3 : Value} {L V B : List Int} {k m : Int}

theorem mid_enc (hV : V.length = 32) : midV (enc k V) = V := by
  have e : enc k V = ([72, 79, 77, 69, 1, k] ++ List.replicate 22 0) ++ (V ++ le (crc (encH k V)) 4) := by simp [enc, encH]
  rw [midV, e, List.drop_append_of_le_length (by simp), List.drop_of_length_le (by simp), List.nil_append, List.take_append_of_le_length (by omega), List.take_of_length_le (by omega)]
theorem enc_inj (h : enc m V = enc k V) : m = k := by
  have : (enc m V)[5]? = (enc k V)[5]? := by rw [h]
  simpa [enc, encH] using this
theorem dec_self (hV : V.length = 32) : decE k (enc k V) = 0 ∧ decV k (enc k V) = V := by
  have h1 : decE k (enc k V) = 0 := by unfold decE; rw [if_pos (enc_len hV), mid_enc hV, if_pos rfl]
  exact ⟨h1, by unfold decV; rw [if_pos h1, mid_enc hV]⟩
theorem dec_other (hV : V.length = 32) : decE m (enc k V) = if m = k then 0 else 80 := by
  unfold decE; rw [if_pos (enc_len hV), mid_enc hV]
  by_cases h : m = k
  · subst h; simp
  · rw [if_neg h, if_neg fun e => h (enc_inj e)]

abbrev tabP : Nat × AObj := (0, .cells tab1.cells true 0)
theorem awake_ok (h0 : h.get 1 = some (.cells tab0.cells true 0)) (h1 : h.get 0 = some (.cells tab1.cells true 0)) : f_wicketlaw08_awake n h = some ((true, ()), h) := by
  have h0 : hasTab h tab0 = true := hasTab_of h0
  have h1 : hasTab h tab1 = true := hasTab_of h1
  simp [f_wicketlaw08_awake, yesTB, tabsL, h0, h1]

theorem str_eq2 {a b : ByteArray} (e : a = b) : binsT .bool h .eql (.string a) (.string b) = some true := by
  subst e
  simp [binsT, binsK, strOp, Ty.prj]

/-- An array in a place of its own. -/
theorem arr_tmp {L : List Int} (ho : Own h F) (hL : L.length = 32) : ∃ h', stB 32 (.agg ⟨iz .u8 L⟩) (h.new (.cells z32' false 0)) (some ⟨h.next, 0, none⟩) = some h' ∧ Own h' ((h.next, .cells (iz .u8 L) false 0) :: F) := by
  have o1 := ho.new (.cells z32' false 0)
  have hl : (iz .u8 L).length = 32 := by simp [iz, hL]
  have hw : writeAt z32' 0 (iz .u8 L) = iz .u8 L := by rw [writeAt_eq _ _ _ (by rw [hl]; decide)]; simp [List.drop_eq_nil_of_le, hl]
  exact ⟨_, by rw [stBA_of o1.head hl iz_cell (by decide), hw], o1.put _⟩
theorem arr_ld {b : Nat} {L : List Int} {ro : Bool} (hg : h.get b = some (.cells (iz .u8 L) ro 0)) (hL : L.length = 32) : ldA 32 h (some ⟨b, 0, none⟩) = some (iz .u8 L) := by
  have hl : (iz .u8 L).length = 32 := by simp [iz, hL]
  rw [ldA_of hg (by rw [hl]; exact Nat.le_refl _), List.drop_zero, List.take_of_length_le (by omega)]

end

end Go.Proofs.YtjpiakhpkmmggaaDoor

/- The sum, pushed bit by bit. -/
namespace Go.Proofs.YtjpiakhpkmmggaaDoor
open Go
set_option linter.unusedVariables false
set_option linter.unusedSimpArgs false
/-- One bit. -/
def stp (x : Nat) : Nat := if x % 2 = 1 then (x / 2) ^^^ 3988292384 else x / 2
theorem stp_xor {x y : Nat} : stp (x ^^^ y) = stp x ^^^ stp y := by
  have h1 : (x ^^^ y) % 2 = (x % 2) ^^^ (y % 2) := Nat.xor_mod_two_pow (n := 1)
  have h2 : (x ^^^ y) / 2 = (x / 2) ^^^ (y / 2) := Nat.xor_div_two_pow (n := 1)
  unfold stp
  rw [h1, h2]
  have hx : x % 2 = 0 ∨ x % 2 = 1 := by omega
  have hy : y % 2 = 0 ∨ y % 2 = 1 := by omega
  rcases hx with hx | hx <;> rcases hy with hy | hy <;> simp only [hx, hy]
  · rfl
  · show (x / 2 ^^^ y / 2) ^^^ 3988292384 = x / 2 ^^^ (y / 2 ^^^ 3988292384)
    rw [Nat.xor_assoc]
  · show (x / 2 ^^^ y / 2) ^^^ 3988292384 = (x / 2 ^^^ 3988292384) ^^^ (y / 2)
    rw [Nat.xor_assoc, Nat.xor_assoc, Nat.xor_comm (y / 2)]
  · show x / 2 ^^^ y / 2 = (x / 2 ^^^ 3988292384) ^^^ (y / 2 ^^^ 3988292384)
    rw [Nat.xor_assoc, ← Nat.xor_assoc 3988292384, Nat.xor_comm 3988292384, Nat.xor_assoc (y / 2), Nat.xor_self, Nat.xor_zero]
theorem low4 (x : Nat) : x = (x / 16 * 16) ^^^ (x % 16) := by
  have m : ((x / 16 * 16) ^^^ (x % 16)) % 16 = (x / 16 * 16) % 16 ^^^ (x % 16) % 16 := Nat.xor_mod_two_pow (n := 4)
  have d : ((x / 16 * 16) ^^^ (x % 16)) / 16 = (x / 16 * 16) / 16 ^^^ (x % 16) / 16 := Nat.xor_div_two_pow (n := 4)
  have e1 : x / 16 * 16 % 16 = 0 := by omega
  have e2 : x % 16 % 16 = x % 16 := by omega
  have e3 : x / 16 * 16 / 16 = x / 16 := by omega
  have e4 : x % 16 / 16 = 0 := by omega
  rw [e1, e2, Nat.zero_xor] at m
  rw [e3, e4, Nat.xor_zero] at d
  omega
theorem stp_hi {y : Nat} : stp (stp (stp (stp (y * 16)))) = y := by
  have e : ∀ z : Nat, stp (z * 2) = z := fun z => by
    unfold stp; rw [if_neg (by omega)]; omega
  rw [show y * 16 = y * 8 * 2 by omega, e, show y * 8 = y * 4 * 2 by omega, e, show y * 4 = y * 2 * 2 by omega, e, e]
theorem stp_lo {i : Nat} (hi : i < 16) : stp (stp (stp (stp i))) = tabN.getD i 0 := by
  have : ∀ i : Fin 16, stp (stp (stp (stp i.1))) = tabN.getD i.1 0 := by decide
  exact this ⟨i, hi⟩
theorem stp4 {x : Nat} : stp (stp (stp (stp x))) = hf x := by
  conv => lhs; rw [low4 x]
  rw [stp_xor, stp_xor, stp_xor, stp_xor, stp_hi, stp_lo (Nat.mod_lt _ (by decide)), hf, Nat.xor_comm]
theorem stp_lt {x : Nat} (hx : x < 4294967296) : stp x < 4294967296 := by
  unfold stp; split
  · exact Nat.xor_lt_two_pow (n := 32) (by omega) (by decide)
  · omega
/-- So many bits. -/
def stps (x : Nat) : Nat → Nat
  | 0 => x
  | k + 1 => stp (stps x k)
theorem stps8 {x : Nat} : stps x 8 = hf (hf x) := by
  show stp (stp (stp (stp (stp (stp (stp (stp x))))))) = _
  rw [stp4, stp4]
theorem stps_lt {x : Nat} (hx : x < 4294967296) : ∀ {k : Nat}, stps x k < 4294967296 := by
  intro k
  induction k with
  | zero => exact hx
  | succ k ih => exact stp_lt ih
end Go.Proofs.YtjpiakhpkmmggaaDoor

/- Lists that share no memory. -/
namespace Go.Proofs.YtjpiakhpkmmggaaDoor
open Go
set_option linter.unusedVariables false
set_option linter.unusedSimpArgs false

theorem lds_of {h : Heap} {q : Addr} {c : Value} {ty : Ty} (e : ldAS 1 h (some q) = some [c]) : ldTS ty h (some q) = ty.prj c := by
  simp only [ldAS, Option.bind_some] at e
  simp only [ldTS, Option.bind_some, e]; rfl
theorem Dn.vs {es j : Nat} {mk : Nat → List Value} {xs ds : List Ax} (hd : Dn es mk xs ds j) (hj : j = xs.length) : ds.map Ax.v = xs.map Ax.v := by
  subst hj
  refine List.ext_getElem (by simp [hd.len]) fun i h1 h2 => ?_
  rw [List.getElem_map, List.getElem_map]
  exact (hd.d i (by simpa using h1) (by simpa using h2)).1
def mk01 (i : Nat) : List Value := [.int .u8 (IntKind.u8.wrap (IntKind.i64.wrap ((i : Int) + 1)))]
def gr01 (i : Nat) : List Value := [.int .u8 (IntKind.u8.wrap (IntKind.i64.wrap ((i : Int) + 101)))]
section
variable {n B : Nat} {u : Value} {U F : Ch} {h : Heap} {xs : List Ax}
theorem apart1_ok (hu : Slc 1 u xs.length (xs.map Ax.v) U) (hx : ∀ x ∈ xs, Slc 1 x.v x.m x.cs x.A ∧ x.m ≤ B) (ho : Own h (U ++ (xs.flatMap Ax.A ++ F))) (hB : (B + 80) * 1 ≤ 140737488355328) (hN : xs.length ≤ 100000000000) (hn : B + 100 ≤ n) (hn2 : xs.length + 100 ≤ n) :
    ∃ h', f_wicketlaw01_Apart n u h = some ((true, ()), h') ∧ Own h' (U ++ F) := by
  have o0 : Own (clrH h) (U ++ (xs.flatMap Ax.A ++ F)) := ⟨ho.get, ho.nodup, ho.lt⟩
  have hul := hu.lenB
  obtain ⟨h1, ds, e1, d1, o1, s1⟩ := marks_gen (n := n) (es := 1) (r := ()) (r2 := ()) (fin := fun i a => f_wicketlaw01_Apart_L13 n u (i : Int) a.1.1 a.2) (f := fun a => f_wicketlaw01_Apart_L15 n u a.1.1 a.2) (V := fun i => .int .u8 (IntKind.u8.wrap (IntKind.i64.wrap ((i : Int) + 1)))) (B := B)
    hu hx o0 rfl (fun _ => rfl) (fun _ => rfl)
    (fun i v m k h1 h2 q q' hi hl hk g1 g2 g3 g4 => by
      have hlt : (k : Int) < (m : Int) := by omega
      simp only [f_wicketlaw01_Apart_L13, g1, g2, hl, Option.bind_some, hlt, decide_true, cond_true, g3, g4])
    (fun i v m h1 q hi hl g1 g2 => by
      have hlt : ¬ (m : Int) < (m : Int) := by omega
      simp only [f_wicketlaw01_Apart_L13, g1, g2, hl, Option.bind_some, hlt, decide_false, cond_false])
    (fun i h1 h2 hi e => by
      have hlt : (i : Int) < (xs.length : Int) := by omega
      simp only [f_wicketlaw01_Apart_L15, hul, Option.bind_some, hlt, decide_true, cond_true]
      rw [e]; rfl)
    (fun h1 => by
      have hlt : ¬ (xs.length : Int) < (xs.length : Int) := by omega
      simp only [f_wicketlaw01_Apart_L15, hul, Option.bind_some, hlt, decide_false, cond_false])
    (by omega) (by omega) (by omega) (by omega)
  have hdl : ds.length = xs.length := d1.len
  have hvs := d1.vs rfl
  rw [← hvs, ← hdl] at hu
  rw [← hdl] at hN hn2 hul
  have hds : ∀ (i : Nat) (h1 : i < ds.length), Slc 1 ds[i].v ds[i].m (cw (mk01 i) (gr01 i) ds[i].m 0) ds[i].A ∧ ds[i].m ≤ B := by
    intro i h1
    obtain ⟨a1, a2, a3, a4⟩ := d1.d i h1 (by omega)
    refine ⟨?_, by rw [a2]; exact (hx _ (List.getElem_mem _)).2⟩
    rw [a3] at a4
    rw [cw_zero]; exact a4
  have hd1 : ShD h1 := fun e he => by rw [s1] at he; cases he
  obtain ⟨lg, h2, Lg, gs, e2, l2, g2, o2, d2⟩ := grows_gen (n := n) (es := 1) (M := 80) (B := B) (bytes := 1) (mk := mk01) (gr := gr01) (fin := fun i a => f_wicketlaw01_Apart_L34 n (i : Int) a.1.1 a.1.2.1 a.1.2.2.1 a.2) (f := fun a => f_wicketlaw01_Apart_L40 n u a.1.1 a.1.2.1 a.2)
    hu hds o1 hd1 (by decide) (fun _ => rfl) (fun _ => rfl) (fun c hc => Nat.le_trans (Nat.mul_le_mul_right 1 hc) hB) hN (by decide) (by decide) (by omega) (by omega)
    (fun i k lg x x' lg' h h1 h2 hk g1 c1 c2 g2 => by
      have hlt : (k : Int) < 80 := by omega
      have hl2 : (k : Int) < 16 := by omega
      have f1 : fillL [.int .u8 0] [(0, 1, .int .u8 (IntKind.u8.wrap (IntKind.i64.wrap ((i : Int) + 101))))] = some (gr01 i) := rfl
      have f2 := fill1 (d := .slice none 0 0) c1 c2
      simp only [f_wicketlaw01_Apart_L34, hlt, hl2, decide_true, cond_true, f1, Option.bind_some, bnd_eq, g1, f2, g2])
    (fun i k lg x x' h h1 hk hk2 g1 => by
      have hlt : (k : Int) < 80 := by omega
      have hl2 : ¬ (k : Int) < 16 := by omega
      have f1 : fillL [.int .u8 0] [(0, 1, .int .u8 (IntKind.u8.wrap (IntKind.i64.wrap ((i : Int) + 101))))] = some (gr01 i) := rfl
      simp only [f_wicketlaw01_Apart_L34, hlt, hl2, decide_true, decide_false, cond_true, cond_false, f1, Option.bind_some, bnd_eq, g1])
    (fun i lg x h => rfl)
    (fun i lg v lg1 x1 lg2 h h1 h2 q hi g1 g2 g3 c1 c2 g4 => by
      have hlt : (i : Int) < (ds.length : Int) := by omega
      have f2 := fill1 (d := .slice none 0 0) c1 c2
      simp only [f_wicketlaw01_Apart_L40, hul, Option.bind_some, hlt, decide_true, cond_true, g1, g2]
      rw [g3]
      simp only [Option.bind_some, f2, bnd_eq, g4])
    (fun lg h => by
      have hlt : ¬ (ds.length : Int) < (ds.length : Int) := by omega
      simp only [f_wicketlaw01_Apart_L40, hul, Option.bind_some, hlt, decide_false, cond_false])
  -- looked at
  have oU : Own h2 (U ++ (Lg ++ (gs.flatMap Gp.G ++ F))) := o2.to fun z => by simp only [cnt_append]; omega
  have inner : ∀ (i : Nat) (hi : i < ds.length), f_wicketlaw01_Apart_C76 n u ((lg, ()), h2) (i : Int) h2 = some (.inl ((), h2)) := by
    intro i hi
    have hgi : i < gs.length := by rw [g2.len]; exact hi
    have hy := List.getElem?_eq_getElem hgi
    have hxx := List.getElem?_eq_getElem hi
    have hvi : (ds.map Ax.v)[i]? = some ds[i].v := by rw [List.getElem?_map, hxx]; rfl
    obtain ⟨q, r1, r2⟩ := sl_at hu oU d2 hvi
    have hm := (hds i hi).2
    have hlv := (hds i hi).1.lenB
    have oG : Own h2 (gs[i].G ++ []) := o2.to fun z => by
      have : cnt z gs[i].G ≤ cnt z (gs.flatMap Gp.G) := cnt_sublist (List.sublist_flatten_of_mem (L := gs.map Gp.G) (List.mem_map_of_mem (List.getElem_mem hgi)))
      simp only [cnt_append, cnt_nil]; omega
    have k1 : f_wicketlaw01_Apart_C57 n u (i : Int) h2 = some (.inl ((), h2)) := by
      refine look1 (f := fun a => f_wicketlaw01_Apart_L56 n u (i : Int) a.1.1 a.2) (g2.k i _ _ hy hxx) rfl oG rfl (by simp [mk01, Go.Proofs.YtjpiakhpkmmggaaDoor.sameL, sameV]) (by simp [gr01, Go.Proofs.YtjpiakhpkmmggaaDoor.sameL, sameV]) (fun k q' hk e1 e2 => ?_) ?_ (by omega) (by omega)
      · have hlt : (k : Int) < (ds[i].m : Int) := by omega
        have e3 := lds_of (ty := .int .u8) e2
        rw [prj_int] at e3
        simp only [f_wicketlaw01_Apart_L56, r1, r2, hlv, Option.bind_some, hlt, decide_true, cond_true, e1, e3, Bool.not_true, cond_false]
      · have hlt : ¬ (ds[i].m : Int) < (ds[i].m : Int) := by omega
        simp only [f_wicketlaw01_Apart_L56, r1, r2, hlv, Option.bind_some, hlt, decide_false, cond_false]
    have k2 : ∀ (g : Nat), g < 17 → f_wicketlaw01_Apart_C73 n u ((lg, ()), h2) (i : Int) (g : Int) h2 = some (.inl ((), h2)) := by
      intro g hg
      have hv17 := g2.vs i _ hy
      have hw : gs[i].vs[g]? = some (gs[i].vs[g]'(by omega)) := List.getElem?_eq_getElem (by omega)
      have hat := (flat17_at g2.vs hy hg).trans hw
      generalize gs[i].vs[g]'(by omega) = w at hw hat
      obtain ⟨q3, t1, t2⟩ := sl_at l2 (F := gs.flatMap Gp.G ++ (U ++ F)) (h := h2) o2 d2 hat
      have hkp := g2.g i _ _ hy hxx g w hw
      have hlw := hkp.lenB
      have hcc : cc 80 g ≤ 80 := by unfold cc; split <;> omega
      have w1 : IntKind.i64.wrap (IntKind.i64.wrap (17 * (i : Int)) + (g : Int)) = ((17 * i + g : Nat) : Int) := by
        have w0 : IntKind.i64.wrap (17 * (i : Int)) = 17 * (i : Int) := wrap_i64 (by omega) (by omega)
        rw [w0, wrap_i64 (by omega) (by omega)]; omega
      simp only [f_wicketlaw01_Apart_C73, w1, t1, t2, r1, r2, hlv, Option.bind_some]
      refine look2 (f := fun a => f_wicketlaw01_Apart_L72 n (i : Int) w a.1.1 a.2) hkp oG rfl rfl (by simp [mk01, Go.Proofs.YtjpiakhpkmmggaaDoor.sameL, sameV]) (by simp [gr01, Go.Proofs.YtjpiakhpkmmggaaDoor.sameL, sameV]) (fun k q' hk e1 e2 => ?_) ?_ (by omega) (by omega)
      · have hlt : (k : Int) < ((ds[i].m + cc 80 g : Nat) : Int) := by omega
        have e3 := lds_of (ty := .int .u8) e2
        rw [prj_int] at e3
        simp only [f_wicketlaw01_Apart_L72, hlw, Option.bind_some, hlt, decide_true, cond_true, e1, e3, Bool.not_true, cond_false]
      · have hlt : ¬ ((ds[i].m + cc 80 g : Nat) : Int) < ((ds[i].m + cc 80 g : Nat) : Int) := by omega
        simp only [f_wicketlaw01_Apart_L72, hlw, Option.bind_some, hlt, decide_false, cond_false]
    have k3 : loopT (fun a => f_wicketlaw01_Apart_L75 n u ((lg, ()), h2) (i : Int) a.1.1 a.2) n (((0 : Int), ()), h2) = some (.inl ((), h2)) := by
      obtain ⟨x, e, q⟩ := loopT_up (f := fun a => f_wicketlaw01_Apart_L75 n u ((lg, ()), h2) (i : Int) a.1.1 a.2) (fun k (a : (Int × Unit) × Heap) => a = (((k : Int), ()), h2)) (fun x => x = .inl ((), h2)) (N := 17) (k := n) (j := 0) (a := ((0, ()), h2)) (by omega) (by omega) rfl
        (fun k a hk hi => by
          subst hi
          have hlt : (k : Int) < 17 := by omega
          exact .inl ⟨_, by simp only [f_wicketlaw01_Apart_L75, hlt, decide_true, cond_true, k2 k hk, thenB_inl, wrap_succ (show k < 4611686018427387904 by omega)], rfl⟩)
        (fun a hi => by subst hi; exact ⟨_, rfl, rfl⟩)
      rw [e, q]
    simp only [f_wicketlaw01_Apart_C76, k1, thenB_inl, k3]
  refine ⟨h2, ?_, o2.to fun z => by simp only [cnt_append]; omega⟩
  have e3 : loopT (fun a => f_wicketlaw01_Apart_L78 n u ((lg, ()), h2) a.1.1 a.2) n (((0 : Int), ()), h2) = some ((true, ()), h2) := by
    obtain ⟨x, e, q⟩ := loopT_up (f := fun a => f_wicketlaw01_Apart_L78 n u ((lg, ()), h2) a.1.1 a.2) (fun k (a : (Int × Unit) × Heap) => a = (((k : Int), ()), h2)) (fun x => x = ((true, ()), h2)) (N := ds.length) (k := n) (j := 0) (a := ((0, ()), h2)) (by omega) (by omega) rfl
      (fun k a hk hi => by
        subst hi
        have hlt : (k : Int) < (ds.length : Int) := by omega
        exact .inl ⟨_, by simp only [f_wicketlaw01_Apart_L78, hul, Option.bind_some, hlt, decide_true, cond_true, inner k hk, thenB_inl, wrap_succ (show k < 4611686018427387904 by omega)], rfl⟩)
      (fun a hi => by
        subst hi
        have hlt : ¬ (ds.length : Int) < (ds.length : Int) := by omega
        exact ⟨_, by simp only [f_wicketlaw01_Apart_L78, hul, Option.bind_some, hlt, decide_false, cond_false], rfl⟩)
    rw [e, q]
  have e1 : loopT (fun a => f_wicketlaw01_Apart_L15 n u a.1.1 a.2) n (((0 : Int), ()), clrH h) = some ((), h1) := e1
  simp only [f_wicketlaw01_Apart, bnd_eq, e1, Option.bind_some, e2, e3]
end
end Go.Proofs.YtjpiakhpkmmggaaDoor

/- The document's homes. -/
namespace Go.Proofs.YtjpiakhpkmmggaaDoor
open Go
set_option linter.unusedVariables false
set_option linter.unusedSimpArgs false
theorem Slc.appZ {es n : Nat} {s : Value} {cs zs : List Value} {A F : Ch} {h : Heap} (hs : Slc es s n cs A) (ho : Own h (A ++ F)) (hes : 1 ≤ es) {m : Nat} (hz : zs.length = es) (hm : m ≤ 140737488355328) {bytes : Nat} {kk : IntKind} (hb : (n + m) * bytes ≤ 140737488355328) :
    ∃ s' h' A', appendZK h bytes es zs s (.int kk (m : Int)) = some (s', h') ∧ Slc es s' (n + m) (cs ++ (List.replicate m zs).flatten) A' ∧ Own h' (A' ++ F) := by
  obtain ⟨a, c, s', h', A', rfl, e1, e2, e3⟩ := hs.appL (new := (List.replicate m zs).flatten) (m := m) ho hes (by rw [rep_len, hz]) hb
  refine ⟨s', h', A', ?_, e2, e3⟩
  show (bif Nat.ble m 140737488355328 then appendL h bytes es a n c m ((List.replicate m zs).flatten) else none) = _
  rw [Nat.ble_eq_true_of_le hm, cond_true, e1]
section
variable {n k : Nat} {s u : Value} {L B V : List Int} {h : Heap} {F G : Ch} {z : Int}
theorem le_snoc {j x : Nat} : le x (j + 1) = le x j ++ [((x / 256 ^ j % 256 : Nat) : Int)] := by
  apply List.ext_getElem?
  intro i
  by_cases hi : i < j
  · rw [le_get (by omega), List.getElem?_append_left (by rw [le_len]; exact hi), le_get hi]
  · by_cases hj : i = j
    · subst hj
      rw [le_get (by omega), List.getElem?_append_right (by rw [le_len]; exact Nat.le_refl _), le_len, Nat.sub_self]; rfl
    · rw [List.getElem?_eq_none (by rw [le_len]; omega), List.getElem?_eq_none (by rw [List.length_append, le_len]; simp; omega)]
theorem wrap_u64' {x : Nat} (hx : x < 4294967296) : IntKind.u64.wrap (x : Int) = (x : Int) := by
  have : (x : Int) % 18446744073709551616 = x := Int.emod_eq_of_lt (by omega) (by omega)
  simpa [IntKind.wrap, IntKind.signed, IntKind.bits] using this
theorem rnumber_ok {x : Nat} (hx : x < 4294967296) (ho : Own h F) (hn : 100 ≤ n) : ∃ s h' A, f_wicketref08_number n (x : Int) 4 h = some ((s, ()), h') ∧ Slc 1 s 4 (iz .u8 (le x 4)) A ∧ Own h' (A ++ F) := by
  obtain ⟨⟨⟨s', _⟩, h'⟩, e, A, q1, q2⟩ := loopT_up (f := fun a => f_wicketref08_number_L7 n 4 a.1.1 a.1.2.1 a.1.2.2.1 a.2)
    (fun j (a : (Int × Value × Int × Unit) × Heap) => a.1.1 = ((x / 256 ^ j : Nat) : Int) ∧ a.1.2.2.1 = (j : Int) ∧ ∃ A, Slc 1 a.1.2.1 j (iz .u8 (le x j)) A ∧ Own a.2 (A ++ F))
    (fun r => ∃ A, Slc 1 r.1.1 4 (iz .u8 (le x 4)) A ∧ Own r.2 (A ++ F)) (N := 4) (k := n) (j := 0) (a := (((x : Int), (.slice none 0 0, (0, ()))), h)) (by omega) (by omega)
    ⟨by simp, rfl, [], .nil, ho⟩
    (fun j a hj hi => by
      obtain ⟨⟨v0, v, i0, _⟩, h1⟩ := a
      obtain ⟨e0, e1, A, i1, i2⟩ := hi
      have e0 : v0 = ((x / 256 ^ j : Nat) : Int) := e0
      have e1 : i0 = (j : Int) := e1
      subst e0 e1
      have i1 : Slc 1 v j _ A := i1
      have i2 : Own h1 _ := i2
      have hlt : (j : Int) < 4 := by omega
      obtain ⟨y, hy⟩ : ∃ y, y = x / 256 ^ j := ⟨_, rfl⟩
      have hyx : y ≤ x := by rw [hy]; exact Nat.div_le_self _ _
      have w1 : IntKind.u8.wrap (Int.tmod ((x / 256 ^ j : Nat) : Int) 256) = ((y % 256 : Nat) : Int) := by
        rw [← hy, show Int.tmod (y : Int) 256 = ((y % 256 : Nat) : Int) from rfl, wrap_u8, Nat.mod_mod]
      have w2 : IntKind.u64.wrap (Int.tdiv ((x / 256 ^ j : Nat) : Int) 256) = ((x / 256 ^ (j + 1) : Nat) : Int) := by
        rw [← hy, show Int.tdiv (y : Int) 256 = ((y / 256 : Nat) : Int) from rfl, wrap_u64' (by omega), hy, Nat.div_div_eq_div_mul, Nat.pow_succ]
      obtain ⟨v2, h2, A2, g1, g2, g3⟩ := i1.push (new := [.int .u8 ((y % 256 : Nat) : Int)]) i2 (by decide) rfl (bytes := 1) (by omega)
      have f1 : fillL [.int .u8 0] [(0, 1, .int .u8 ((y % 256 : Nat) : Int))] = some [.int .u8 ((y % 256 : Nat) : Int)] := rfl
      refine .inl ⟨((((x / 256 ^ (j + 1) : Nat) : Int), (v2, (((j + 1 : Nat) : Int), ()))), h2), ?_, rfl, rfl, A2, ?_, g3⟩
      · simp only [f_wicketref08_number_L7, hlt, decide_true, cond_true, w1, f1, Option.bind_some, bnd_eq, g1, w2, wrap_succ (show j < 4611686018427387904 by omega)]
      · rw [le_snoc, ← hy]; simpa [iz] using g2)
    (fun a hi => by
      obtain ⟨⟨v0, v, i0, _⟩, h1⟩ := a
      obtain ⟨e0, e1, A, i1, i2⟩ := hi
      have e1 : i0 = ((4 : Nat) : Int) := e1
      subst e1
      have i1 : Slc 1 v 4 _ A := i1
      exact ⟨((v, ()), h1), by simp only [f_wicketref08_number_L7, show (decide (((4 : Nat) : Int) < 4)) = false from rfl, cond_false, i1.notT, Bool.not_false, cond_true, Option.map_some], A, i1, i2⟩)
  exact ⟨s', h', A, e, q1, q2⟩
theorem rpush_ok {x c : Nat} (hx : x < 4294967296) (hc : c < 256) (hn : 100 ≤ n) : f_wicketref02_Push n (x : Int) (c : Int) h = some ((((psh x c : Nat) : Int), ()), h) := by
  have w1 : IntKind.u32.wrap (c : Int) = (c : Int) := by
    have : (c : Int) % 4294967296 = c := Int.emod_eq_of_lt (by omega) (by omega)
    simpa [IntKind.wrap, IntKind.signed, IntKind.bits] using this
  have hl : x ^^^ c < 4294967296 := Nat.xor_lt_two_pow (n := 32) hx (by omega)
  obtain ⟨r, e, q⟩ := loopT_up (f := fun a => f_wicketref02_Push_L6 n a.1.1 a.1.2.1 a.2)
    (fun j (a : (Int × Int × Unit) × Heap) => a = ((((stps (x ^^^ c) j : Nat) : Int), ((j : Int), ())), h)) (fun r => r = ((((stps (x ^^^ c) 8 : Nat) : Int), ()), h)) (N := 8) (k := n) (j := 0) (a := ((((x ^^^ c : Nat) : Int), (0, ())), h)) (by omega) (by omega) rfl
    (fun j a hj hi => by
      subst hi
      have hlt : (j : Int) < 8 := by omega
      have hyl := stps_lt hl (k := j)
      generalize hy : stps (x ^^^ c) j = y at hyl
      have hs : stps (x ^^^ c) (j + 1) = stp y := by rw [← hy]; rfl
      rw [hs]
      have t1 : Int.tmod (y : Int) 2 = ((y % 2 : Nat) : Int) := rfl
      have t2 : IntKind.u32.wrap (Int.tdiv (y : Int) 2) = ((y / 2 : Nat) : Int) := by
        rw [show Int.tdiv (y : Int) 2 = ((y / 2 : Nat) : Int) from rfl, wrap_u32 (by omega) (by omega)]
      by_cases ho : y % 2 = 1
      · have x1 := xor_b (a := y / 2) (b := 3988292384) (by omega) (by decide)
        have x1 : bitB .xor .u32 ((y / 2 : Nat) : Int) .u32 3988292384 = some (((y / 2) ^^^ 3988292384 : Nat) : Int) := x1
        have es : stp y = (y / 2) ^^^ 3988292384 := by rw [stp, if_pos ho]
        have hc : ((y % 2 : Nat) : Int) = 1 := by omega
        refine .inl ⟨((((stp y : Nat) : Int), (((j + 1 : Nat) : Int), ())), h), ?_, rfl⟩
        simp only [f_wicketref02_Push_L6, hlt, decide_true, cond_true, t1, hc, t2, x1, Option.bind_some, es, wrap_succ (show j < 4611686018427387904 by omega)]
      · have es : stp y = y / 2 := by rw [stp, if_neg ho]
        have hc : ¬ ((y % 2 : Nat) : Int) = 1 := by omega
        refine .inl ⟨((((stp y : Nat) : Int), (((j + 1 : Nat) : Int), ())), h), ?_, rfl⟩
        simp only [f_wicketref02_Push_L6, hlt, decide_true, cond_true, t1, hc, decide_false, cond_false, t2, Option.bind_some, es, wrap_succ (show j < 4611686018427387904 by omega)])
    (fun a hi => by subst hi; exact ⟨_, rfl, rfl⟩)
  rw [stps8] at q
  simp only [f_wicketref02_Push, w1, xor_b hx (show c < 4294967296 by omega), Option.bind_some]
  exact e.trans (by rw [q]; rfl)
theorem rof_ok (hL : Byt L) (hr : Rds h 1 s L.length (iz .u8 L)) (hlen : L.length ≤ 1000) (hn : 2000 ≤ n) : f_wicketref02_Of n s h = some ((((crc L : Nat) : Int), ()), h) := by
  obtain ⟨r, e, q⟩ := loopT_up (f := fun a => f_wicketref02_Of_L7 n s a.1.1 a.1.2.1 a.2)
    (fun j (a : (Int × Int × Unit) × Heap) => a = ((((crcs (L.take j) 4294967295 : Nat) : Int), ((j : Int), ())), h)) (fun r => r = ((((crcs L 4294967295 : Nat) : Int), ()), h)) (N := L.length) (k := n) (j := 0) (a := (((4294967295 : Int), (0, ())), h)) (by omega) (by omega) rfl
    (fun j a hj hi => by
      subst hi
      have hlt : (j : Int) < (L.length : Int) := by omega
      obtain ⟨q, e1, e2⟩ := hr.int hj
      have hb := hL _ (List.getElem_mem hj)
      obtain ⟨c, hc⟩ : ∃ c : Nat, L[j] = (c : Int) := ⟨L[j].toNat, by omega⟩
      have hc2 : c < 256 := by omega
      have hx := crcs_lt (L := L.take j) (x := 4294967295) (fun z hz => hL z (List.mem_of_mem_take hz)) (by decide)
      have e3 := rpush_ok (n := n) (h := h) hx hc2 (by omega)
      have e4 : psh (crcs (L.take j) 4294967295) c = crcs (L.take (j + 1)) 4294967295 := by
        rw [take_snoc hj, crcs_append, hc]; simp [crcs]
      rw [e4] at e3
      rw [hc] at e2
      refine .inl ⟨((((crcs (L.take (j + 1)) 4294967295 : Nat) : Int), (((j + 1 : Nat) : Int), ())), h), ?_, rfl⟩
      simp only [f_wicketref02_Of_L7, hr.lenB, Option.bind_some, hlt, decide_true, cond_true, e1, e2, e3, wrap_succ (show j < 4611686018427387904 by omega)])
    (fun a hi => by
      subst hi
      have hlt : ¬ (L.length : Int) < (L.length : Int) := by omega
      rw [List.take_length]
      exact ⟨_, by simp only [f_wicketref02_Of_L7, hr.lenB, Option.bind_some, hlt, decide_false, cond_false], rfl⟩)
  have hx := crcs_lt (L := L) (x := 4294967295) hL (by decide)
  have x1 := xor_b (b := 4294967295) hx (by decide)
  have x1 : bitB .xor .u32 ((crcs L 4294967295 : Nat) : Int) .u32 4294967295 = some ((crcs L 4294967295 ^^^ 4294967295 : Nat) : Int) := x1
  simp only [f_wicketref02_Of, e, q, Option.bind_some, x1, crc, Nat.xor_comm]
theorem rsummed_ok (hL : Byt L) (hs : Sow 1 s L.length (iz .u8 L) G) (ho : Own h (G ++ F)) (hlen : L.length ≤ 900) (hn : 2000 ≤ n) :
    ∃ s' h' A, f_wicketref08_Summed n s h = some ((s', ()), h') ∧ Slc 1 s' (L.length + 4) (iz .u8 (L ++ le (crc L) 4)) A ∧ Own h' (A ++ (G ++ F)) := by
  have o1 := ho.new (.cells [] false 1)
  have hs0 : Slc 1 (.slice (some ⟨h.next, 0, some 0⟩) 0 0) 0 [] [(h.next, .cells ([] ++ ([] ++ [])) false 1)] := .mk rfl rfl rfl
  generalize hb : h.next = b at hs0 o1
  generalize hh1 : h.new (.cells [] false 1) = h1 at o1
  obtain ⟨s2, h2, A2, e2, a2, o2⟩ := hs.app hs0 (F := F) (h := h1) (o1.to fun x => by simp only [cnt_append, cnt_cons, cnt_nil, List.nil_append, List.append_nil]; omega) (by decide) (bytes := 1) (by omega)
  have a2 : Slc 1 s2 L.length (iz .u8 L) A2 := by simpa using a2
  have e3 := rof_ok (n := n) hL (hs.rds (h := h2) (F := A2 ++ F) (o2.to fun x => by simp only [cnt_append]; omega)) (by omega) hn
  have hcl := crc_lt hL
  obtain ⟨s4, h4, A4, e4, a4, o4⟩ := rnumber_ok (n := n) hcl (h := h2) o2 (by omega)
  obtain ⟨s5, h5, A5, e5, a5, o5⟩ := a4.sow.app a2 (h := h4) (F := G ++ F) (o4.to fun x => by simp only [cnt_append]; omega) (by decide) (bytes := 1) (by omega)
  refine ⟨s5, h5, A5, ?_, by simpa [iz] using a5, o5.to fun x => by simp only [cnt_append]; omega⟩
  simp only [f_wicketref08_Summed, fill0, Option.bind_some, bnd_eq, hb, hh1, e2, e3, wrap_u64' hcl, e4, e5, a5.notT, Bool.not_false, cond_true]
theorem rencode_bad (hz : z < 0 ∨ 64 ≤ z) (ho : Own h F) : ∃ h', f_wicketref08_Encode n z (.agg ⟨iz .u8 V⟩) h = some ((.slice none 0 0, (51, ())), h') ∧ Own h' F := by
  have o1 := ho.new (.cells (iz .u8 V) false 0)
  have hc : (cellsOf (.agg ⟨iz .u8 V⟩)).all isCell = true := iz_cell
  have hco : cellsOf (.agg ⟨iz .u8 V⟩) = iz .u8 V := rfl
  refine ⟨_, ?_, o1.tail⟩
  by_cases h0 : z < 0
  · simp only [f_wicketref08_Encode, hco, iz_cell, cond_true, bnd_eq, h0, decide_true, Option.bind_some]
  · have h1 : 64 ≤ z := by omega
    simp only [f_wicketref08_Encode, hco, iz_cell, cond_true, bnd_eq, h0, decide_false, cond_false, h1, decide_true, Option.bind_some]
theorem rencode_ok (h1 : 0 ≤ z) (h2 : z < 64) (hV : V.length = 32) (hb : Byt V) (ho : Own h F) (hn : 2000 ≤ n) :
    ∃ s h' A, f_wicketref08_Encode n z (.agg ⟨iz .u8 V⟩) h = some ((s, (0, ())), h') ∧ Slc 1 s 64 (iz .u8 (enc z V)) A ∧ Own h' (A ++ F) := by
  have o1 := ho.new (.cells (iz .u8 V) false 0)
  generalize hb0 : h.next = b0 at o1
  generalize hh0 : h.new (.cells (iz .u8 V) false 0) = h0 at o1
  have o2 := o1.new (.cells (iz .u8 [72, 79, 77, 69]) false 1)
  generalize hb1 : h0.next = b1 at o2
  generalize hh1 : h0.new (.cells (iz .u8 [72, 79, 77, 69]) false 1) = ha at o2
  have mk : markSK ha (.slice (some ⟨b1, 0, some 0⟩) 4 4) = some (.slice (some ⟨b1, 0, some 0⟩) 4 4, ha.put b1 (.cells (iz .u8 [72, 79, 77, 69]) false 1)) := by
    simp only [markSK, o2.head]; rfl
  have o3 := o2.put (.cells (iz .u8 [72, 79, 77, 69]) false 1)
  generalize hhb : ha.put b1 (.cells (iz .u8 [72, 79, 77, 69]) false 1) = hbb at o3 mk
  have y1 : Slc 1 (.slice (some ⟨b1, 0, some 0⟩) 4 4) 4 (iz .u8 [72, 79, 77, 69]) [(b1, .cells ([] ++ (iz .u8 [72, 79, 77, 69] ++ [])) false 1)] := .mk rfl rfl rfl
  have wz : IntKind.u8.wrap z = z := by
    have : z % 256 = z := Int.emod_eq_of_lt h1 (by omega)
    simpa [IntKind.wrap, IntKind.signed, IntKind.bits] using this
  have o4 := o3.new (.cells (iz .u8 [1, z]) false 1)
  have y2 : Slc 1 (.slice (some ⟨hbb.next, 0, some 0⟩) 2 2) 2 (iz .u8 [1, z]) [(hbb.next, .cells ([] ++ (iz .u8 [1, z] ++ [])) false 1)] := .mk rfl rfl rfl
  generalize hb2 : hbb.next = b2 at o4 y2
  generalize hhc : hbb.new (.cells (iz .u8 [1, z]) false 1) = hc at o4
  obtain ⟨s5, h5, A5, e5, a5, o5⟩ := y2.sow.app y1 (h := hc) (F := (b0, .cells (iz .u8 V) false 0) :: F) (o4.to fun x => by simp only [cnt_append, cnt_cons, cnt_nil, List.nil_append, List.append_nil]; omega) (by decide) (bytes := 1) (by omega)
  obtain ⟨s6, h6, A6, e6, a6, o6⟩ := a5.appZ (m := 22) (zs := [.int .u8 0]) (kk := .i64) (bytes := 1) (h := h5) (F := (b0, .cells (iz .u8 V) false 0) :: F) (o5.to fun x => by simp only [cnt_append, cnt_cons, cnt_nil, List.nil_append, List.append_nil]; omega) (by decide) rfl (by omega) (by omega)
  have ar : ∀ H : Heap, sliceArrK H 32 1 none none (.pointer (some ⟨b0, 0, none⟩)) = some (.slice (some ⟨b0, 0, some 0⟩) 32 32, H) := fun H => rfl
  have sv : Sow 1 (.slice (some ⟨b0, 0, some 0⟩) 32 32) 32 (iz .u8 V) [(b0, .cells (iz .u8 V) false 0)] := by
    have := Sow.piece (b := b0) (off := 0) (sp := some 0) (n := 32) (c := 32) (cs := iz .u8 V) (ro := false) (e := 0) (by simp [iz, hV])
    rw [List.drop_zero, List.take_of_length_le (by simp [iz, hV])] at this
    exact this
  obtain ⟨s7, h7, A7, e7, a7, o7⟩ := sv.app a6 (h := h6) (F := F) (o6.to fun x => by simp only [cnt_append, cnt_cons, cnt_nil]; omega) (by decide) (bytes := 1) (by omega)
  have hH : iz .u8 [72, 79, 77, 69] ++ iz .u8 [1, z] ++ (List.replicate 22 [Value.int .u8 0]).flatten ++ iz .u8 V = iz .u8 (encH z V) := by
    simp [encH, iz]
  rw [hH] at a7
  have hel := encH_len (k := z) hV
  have a7 : Slc 1 s7 (encH z V).length (iz .u8 (encH z V)) A7 := by rw [hel]; exact a7
  obtain ⟨s8, h8, A8, e8, a8, o8⟩ := rsummed_ok (n := n) (encH_byt h1 h2 hb) a7.sow (h := h7) (F := (b0, .cells (iz .u8 V) false 0) :: F) (o7.to fun x => by simp only [cnt_append, cnt_cons, cnt_nil]; omega) (by omega) hn
  rw [hel] at a8
  refine ⟨s8, h8, A8, ?_, a8, o8.to fun x => by simp only [cnt_append, cnt_cons]; omega⟩
  have hco : cellsOf (.agg ⟨iz .u8 V⟩) = iz .u8 V := rfl
  have c0 : ¬ z < 0 := by omega
  have c1 : ¬ 64 ≤ z := by omega
  have f1 : fillL (List.replicate 4 (.int .u8 0)) [(0, 1, .int .u8 72), (1, 1, .int .u8 79), (2, 1, .int .u8 77), (3, 1, .int .u8 69)] = some (iz .u8 [72, 79, 77, 69]) := rfl
  have f2 : fillL [.int .u8 0, .int .u8 0] [(0, 1, .int .u8 1), (1, 1, .int .u8 z)] = some (iz .u8 [1, z]) := rfl
  have e6 : appendZK h5 1 1 [.int .u8 0] s5 (.int .i64 22) = some (s6, h6) := e6
  simp only [f_wicketref08_Encode, hco, iz_cell, cond_true, bnd_eq, hb0, hh0, c0, c1, decide_false, cond_false, Option.bind_some, f1, hb1, hh1, mk, wz, f2, hb2, hhc, e5, e6, nwA_eq, ar, e7, e8, a8.notT, Bool.not_false]
end
end Go.Proofs.YtjpiakhpkmmggaaDoor

/- Homes read; bytes marked and turned. -/
namespace Go.Proofs.YtjpiakhpkmmggaaDoor
open Go
set_option linter.unusedVariables false
set_option linter.unusedSimpArgs false
theorem str_inj : ∀ {A B : List Int}, Byt A → Byt B → A.map (fun n => UInt8.ofNat n.toNat) = B.map (fun n => UInt8.ofNat n.toNat) → A = B := by
  intro A
  induction A with
  | nil => intro B _ _ h; cases B with
    | nil => rfl
    | cons b B => cases h
  | cons a A ih =>
    intro B hA hB h
    cases B with
    | nil => cases h
    | cons b B =>
      simp only [List.map_cons, List.cons.injEq] at h
      have ha := hA a (List.mem_cons_self ..)
      have hb := hB b (List.mem_cons_self ..)
      have h1 := congrArg UInt8.toNat h.1
      rw [UInt8.toNat_ofNat_of_lt' (by show a.toNat < 256; omega), UInt8.toNat_ofNat_of_lt' (by show b.toNat < 256; omega)] at h1
      rw [ih (fun z hz => hA z (List.mem_cons_of_mem _ hz)) (fun z hz => hB z (List.mem_cons_of_mem _ hz)) h.2, show a = b by omega]
theorem str_neq {h : Heap} {A B : List Int} (hA : Byt A) (hB : Byt B) (hne : A ≠ B) : binsT .bool h .neq (.string (strOfInts A)) (.string (strOfInts B)) = some true := by
  have : (List.map (fun n => UInt8.ofNat n.toNat) A == List.map (fun n => UInt8.ofNat n.toNat) B) = false := by
    rw [beq_eq_false_iff_ne]
    exact fun h => hne (str_inj hA hB h)
  simp [binsT, binsK, strOp, Ty.prj, strOfInts, this]
def encV (z : Int) (V : List Int) : List Int := if 0 ≤ z ∧ z < 64 then enc z V else []
def encE (z : Int) : Int := if 0 ≤ z ∧ z < 64 then 0 else 51
def deV (z : Int) (B : List Int) : List Int := if 0 ≤ z ∧ z < 64 then decV z B else List.replicate 32 0
def deE (z : Int) (B : List Int) : Int := if 0 ≤ z ∧ z < 64 then decE z B else 51
section
variable {n k : Nat} {s u : Value} {L B V X : List Int} {h : Heap} {F G A : Ch} {z : Int}
theorem encV_len (hV : V.length = 32) : (encV z V).length ≤ 64 := by
  unfold encV; split
  · rw [enc_len hV]; exact Nat.le_refl _
  · exact Nat.zero_le _
theorem deV_len : (deV z B).length = 32 := by
  unfold deV; split
  · exact decV_len
  · simp
theorem encode_z (hV : V.length = 32) (hb : Byt V) (hm : tabO ∈ F) (ho : Own h F) (hn : 2000 ≤ n) :
    ∃ s h' A, f_home_Encode n z (.agg ⟨iz .u8 V⟩) h = some ((s, (encE z, ())), h') ∧ Slc 1 s (encV z V).length (iz .u8 (encV z V)) A ∧ Own h' (A ++ F) := by
  by_cases hz : 0 ≤ z ∧ z < 64
  · obtain ⟨s, h', A, e, a, o⟩ := encode_ok (n := n) hz.1 hz.2 hV hb hm ho hn
    rw [encE, encV, if_pos hz, if_pos hz, enc_len hV]
    exact ⟨s, h', A, e, a, o⟩
  · rw [encE, encV, if_neg hz, if_neg hz]
    have o1 := ho.new (.cells (iz .u8 V) false 0)
    have hco : cellsOf (.agg ⟨iz .u8 V⟩) = iz .u8 V := rfl
    refine ⟨.slice none 0 0, _, [], ?_, .nil, o1.tail⟩
    by_cases h0 : 0 ≤ z
    · have h1 : ¬ z < 64 := fun h => hz ⟨h0, h⟩
      simp only [f_home_Encode, hco, iz_cell, cond_true, bnd_eq, f_home_block, h0, decide_true, h1, decide_false, Option.bind_some, Bool.not_false]
    · simp only [f_home_Encode, hco, iz_cell, cond_true, bnd_eq, f_home_block, h0, decide_false, cond_false, Option.bind_some, Bool.not_false]
theorem rencode_z (hV : V.length = 32) (hb : Byt V) (ho : Own h F) (hn : 2000 ≤ n) :
    ∃ s h' A, f_wicketref08_Encode n z (.agg ⟨iz .u8 V⟩) h = some ((s, (encE z, ())), h') ∧ Slc 1 s (encV z V).length (iz .u8 (encV z V)) A ∧ Own h' (A ++ F) := by
  by_cases hz : 0 ≤ z ∧ z < 64
  · obtain ⟨s, h', A, e, a, o⟩ := rencode_ok (n := n) hz.1 hz.2 hV hb ho hn
    rw [encE, encV, if_pos hz, if_pos hz, enc_len hV]
    exact ⟨s, h', A, e, a, o⟩
  · rw [encE, encV, if_neg hz, if_neg hz]
    obtain ⟨h', e, o⟩ := rencode_bad (n := n) (V := V) (z := z) (by omega) ho
    exact ⟨_, h', [], e, .nil, o⟩
theorem z32i : List.replicate 32 (Value.int .u8 0) = iz .u8 (List.replicate 32 0) := rfl
theorem tmp32 {b e : Nat} {w : List Int} {xs : List Value} (ho : Own h ((b, .cells xs false e) :: F)) (hx : xs.length = 32) (hw : w.length = 32) : ∃ h', stB 32 (.agg ⟨iz .u8 w⟩) h (some ⟨b, 0, none⟩) = some h' ∧ Own h' ((b, .cells (iz .u8 w) false e) :: F) ∧ ldA 32 h' (some ⟨b, 0, none⟩) = some (iz .u8 w) := by
  have h1 := stBA_of (sp := none) (o := 0) (sz := 32) (vs := iz .u8 w) ho.head (by simp; omega) iz_cell (by omega)
  have e1 : writeAt xs 0 (iz .u8 w) = iz .u8 w := by
    rw [writeAt_eq _ _ _ (by simp; omega)]
    rw [List.drop_of_length_le (by simp; omega)]; simp
  rw [e1] at h1
  have o1 := ho.put (.cells (iz .u8 w) false e)
  refine ⟨_, h1, o1, ?_⟩
  rw [ldA_of o1.head (by simp; omega), List.drop_zero, List.take_of_length_le (by simp; omega)]
theorem decode_z (hB : Byt B) (hs : Sow 1 s B.length (iz .u8 B) G) (hc : Cap s B.length) (hm : tabO ∈ G ++ F) (ho : Own h (G ++ F)) (hn : 2000 ≤ n) :
    ∃ h', f_home_Decode n s z h = some ((.agg ⟨iz .u8 (deV z B)⟩, (deE z B, ())), h') ∧ Own h' (G ++ F) := by
  by_cases hz : 0 ≤ z ∧ z < 64
  · obtain ⟨h', e, o⟩ := decode_ok (n := n) hz.1 hz.2 hB hs hc hm ho hn
    rw [deV, deE, if_pos hz, if_pos hz]
    exact ⟨h', e, o⟩
  · rw [deV, deE, if_neg hz, if_neg hz]
    have o1 := ho.new (.cells (iz .u8 (List.replicate 32 0)) false 0)
    generalize hb0 : h.next = b0 at o1
    generalize hh0 : h.new (.cells (iz .u8 (List.replicate 32 0)) false 0) = h0 at o1
    obtain ⟨h2, s2, o2, l2⟩ := tmp32 (w := List.replicate 32 0) o1 (by simp) (by simp)
    have f0 : fillL (iz .u8 (List.replicate 32 0)) [] = some (iz .u8 (List.replicate 32 0)) := rfl
    refine ⟨h2, ?_, o2.tail⟩
    by_cases h0' : 0 ≤ z
    · have h1 : ¬ z < 64 := fun h => hz ⟨h0', h⟩
      simp only [f_home_Decode, z32i, bnd_eq, hb0, hh0, f_home_block, h0', decide_true, cond_true, h1, decide_false, Option.bind_some, Bool.not_false, f0, nwA_eq, s2, l2]
    · simp only [f_home_Decode, z32i, bnd_eq, hb0, hh0, f_home_block, h0', decide_false, cond_false, Option.bind_some, Bool.not_false, cond_true, f0, nwA_eq, s2, l2]
/-- The document's Decode. -/
theorem rdecode_z (hB : Byt B) (hs : Sow 1 s B.length (iz .u8 B) G) (ho : Own h (G ++ F)) (hn : 2000 ≤ n) :
    ∃ h', f_wicketref08_Decode n s z h = some ((.agg ⟨iz .u8 (deV z B)⟩, (deE z B, ())), h') ∧ Own h' (G ++ F) := by
  have o1 := ho.new (.cells (iz .u8 (List.replicate 32 0)) false 0)
  generalize hb0 : h.next = b0 at o1
  generalize hh0 : h.new (.cells (iz .u8 (List.replicate 32 0)) false 0) = h0 at o1
  have o2 := o1.new (.cells (iz .u8 (List.replicate 32 0)) false 0)
  generalize hb1 : h0.next = b1 at o2
  generalize hh1 : h0.new (.cells (iz .u8 (List.replicate 32 0)) false 0) = h1 at o2
  have f0 : fillL (iz .u8 (List.replicate 32 0)) [] = some (iz .u8 (List.replicate 32 0)) := rfl
  have lz : ldA 32 h1 (some ⟨b1, 0, none⟩) = some (iz .u8 (List.replicate 32 0)) := by rw [ldA_of o2.head (by simp), List.drop_zero, List.take_of_length_le (by simp)]
  have o2' : Own h1 ((b0, .cells (iz .u8 (List.replicate 32 0)) false 0) :: ((b1, .cells (iz .u8 (List.replicate 32 0)) false 0) :: (G ++ F))) := o2.to fun x => by simp only [cnt_append, cnt_cons]; omega
  obtain ⟨h2, s2, o3, l2⟩ := tmp32 (w := List.replicate 32 0) o2' (by simp) (by simp)
  by_cases hz : 0 ≤ z ∧ z < 64
  · have c0 : ¬ z < 0 := by omega
    have c1 : ¬ 64 ≤ z := by omega
    rw [deV, deE, if_pos hz, if_pos hz]
    have hr := hs.rds (h := h1) (F := (b1, .cells (iz .u8 (List.replicate 32 0)) false 0) :: (b0, .cells (iz .u8 (List.replicate 32 0)) false 0) :: F) (o2.to fun x => by simp only [cnt_append, cnt_cons]; omega)
    by_cases hl : B.length = 64
    · -- the middle is copied
      have hml := midV_len hl
      have c2 : decide ((B.length : Int) = 64) = true := decide_eq_true (by omega)
      obtain ⟨⟨r, h3⟩, e3, q3⟩ := loopT_up (f := fun a => f_wicketref08_Decode_L16 n s h0 a.1.1 a.2)
        (fun j (a : (Int × Unit) × Heap) => a.1 = ((j : Int), ()) ∧ Own a.2 ((b1, .cells (iz .u8 ((midV B).take j ++ List.replicate (32 - j) 0)) false 0) :: ((b0, .cells (iz .u8 (List.replicate 32 0)) false 0) :: (G ++ F))))
        (fun r => Own r.2 ((b1, .cells (iz .u8 (midV B)) false 0) :: ((b0, .cells (iz .u8 (List.replicate 32 0)) false 0) :: (G ++ F)))) (N := 32) (k := n) (j := 0) (a := ((0, ()), h1)) (by omega) (by omega)
        ⟨rfl, by simpa using o2⟩
        (fun j a hj hi => by
          obtain ⟨⟨v0, _⟩, h1⟩ := a
          obtain ⟨e0, i1⟩ := hi
          cases e0
          have i1 : Own h1 _ := i1
          have hlt : (j : Int) < 32 := by omega
          have hr := hs.rds (h := h1) (F := (b1, .cells (iz .u8 ((midV B).take j ++ List.replicate (32 - j) 0)) false 0) :: (b0, .cells (iz .u8 (List.replicate 32 0)) false 0) :: F) (i1.to fun x => by simp only [cnt_append, cnt_cons]; omega)
          obtain ⟨q, e1, e2⟩ := hr.int (i := 28 + j) (by omega)
          have hw : IntKind.i64.wrap (28 + (j : Int)) = ((28 + j : Nat) : Int) := by rw [wrap_i64 (by omega) (by omega)]; omega
          have hix : ixA 32 1 (some ⟨b1, 0, none⟩) (j : Int) = some ⟨b1, 0 + j * 1, none⟩ := by
            show (bif Nat.blt j 32 then some (⟨b1, 0 + j * 1, none⟩ : Addr) else none) = _
            rw [show Nat.blt j 32 = true from Nat.ble_eq_true_of_le hj]; rfl
          rw [Nat.zero_add, Nat.mul_one] at hix
          have s5 := stB1_of (sp := none) (o := j) (v := .int .u8 B[28 + j]) i1.head rfl rfl (by simp; omega)
          have o5 := i1.put (.cells ((iz .u8 ((midV B).take j ++ List.replicate (32 - j) 0)).set j (.int .u8 B[28 + j])) false 0)
          have e6 : (iz .u8 ((midV B).take j ++ List.replicate (32 - j) 0)).set j (.int .u8 B[28 + j]) = iz .u8 ((midV B).take (j + 1) ++ List.replicate (32 - (j + 1)) 0) := by
            rw [iz_set]
            congr 1
            have hjm : j < (midV B).length := by omega
            have hv : B[28 + j]'(by omega) = (midV B)[j] := by simp [midV]
            rw [take_snoc hjm, hv, show 32 - j = (32 - (j + 1)) + 1 by omega, List.replicate_succ]
            rw [List.set_append_right _ _ (by rw [List.length_take]; omega), List.length_take, Nat.min_eq_left (by omega), Nat.sub_self, List.set_cons_zero, List.append_assoc]; rfl
          rw [e6] at s5 o5
          exact .inl ⟨_, by simp only [f_wicketref08_Decode_L16, hlt, decide_true, cond_true, hw, e1, e2, Option.bind_some, nwA_eq, hb1, hix, s5]; rfl, by rw [wrap_succ (show j < 4611686018427387904 by omega)], o5⟩)
        (fun a hi => by
          obtain ⟨⟨v0, _⟩, h1⟩ := a
          obtain ⟨e0, i1⟩ := hi
          cases e0
          have i1 : Own h1 _ := i1
          rw [Nat.sub_self, List.replicate_zero, List.append_nil, List.take_of_length_le (by omega)] at i1
          exact ⟨((), h1), rfl, i1⟩)
      have q3 : Own h3 _ := q3
      have l3 : ldA 32 h3 (some ⟨b1, 0, none⟩) = some (iz .u8 (midV B)) := by rw [ldA_of q3.head (by simp; omega), List.drop_zero, List.take_of_length_le (by simp; omega)]
      obtain ⟨s4, h4, A4, e4, a4, o4⟩ := rencode_ok (n := n) hz.1 hz.2 hml (midV_byt hB) q3 hn
      have o4' : Own h4 ((b0, .cells (iz .u8 (List.replicate 32 0)) false 0) :: (A4 ++ ((b1, .cells (iz .u8 (midV B)) false 0) :: (G ++ F)))) := o4.to fun x => by simp only [cnt_append, cnt_cons]; omega
      have t1 := (a4.rds o4).str
      have t2 := (hs.rds (h := h4) (F := A4 ++ ((b1, .cells (iz .u8 (midV B)) false 0) :: (b0, .cells (iz .u8 (List.replicate 32 0)) false 0) :: F)) (o4.to fun x => by simp only [cnt_append, cnt_cons]; omega)).str
      by_cases he : enc z (midV B) = B
      · have hE : decE z B = 0 := by rw [decE, if_pos hl, if_pos he]
        have hVv : decV z B = midV B := by rw [decV, if_pos hE]
        rw [hE, hVv]
        rw [he] at t1
        have l4 : ldA 32 h4 (some ⟨b1, 0, none⟩) = some (iz .u8 (midV B)) := by rw [ldA_of (o4'.get (b1, .cells (iz .u8 (midV B)) false 0) (by simp)) (by simp; omega), List.drop_zero, List.take_of_length_le (by simp; omega)]
        obtain ⟨h5, s5, o5, l5⟩ := tmp32 (w := midV B) o4' (by simp) hml
        refine ⟨h5, ?_, o5.to fun x => by simp only [cnt_append, cnt_cons]; omega⟩
        simp only [f_wicketref08_Decode, z32i, bnd_eq, hb0, hh0, hb1, hh1, c0, c1, decide_false, cond_false, Option.bind_some, hr.lenB, c2, Bool.not_true, e3, nwA_eq, l3, e4, t1, t2, str_eq rfl, l4, s5, l5]
      · have hE : decE z B = 80 := by rw [decE, if_pos hl, if_neg he]
        have hVv : decV z B = List.replicate 32 0 := by rw [decV, hE, if_neg (by decide)]
        rw [hE, hVv]
        have hne : binsT .bool h4 .neq (.string (strOfInts (enc z (midV B)))) (.string (strOfInts B)) = some true := str_neq (enc_byt hz.1 hz.2 (midV_byt hB)) hB he
        obtain ⟨h5, s5, o5, l5⟩ := tmp32 (w := List.replicate 32 0) o4' (by simp) (by simp)
        refine ⟨h5, ?_, o5.to fun x => by simp only [cnt_append, cnt_cons]; omega⟩
        simp only [f_wicketref08_Decode, z32i, bnd_eq, hb0, hh0, hb1, hh1, c0, c1, decide_false, cond_false, Option.bind_some, hr.lenB, c2, Bool.not_true, e3, nwA_eq, l3, e4, t1, t2, hne, cond_true, f0, s5, l5]
    · have hE : decE z B = 2 := by rw [decE, if_neg hl]
      have hVv : decV z B = List.replicate 32 0 := by rw [decV, hE, if_neg (by decide)]
      rw [hE, hVv]
      have c2 : decide ((B.length : Int) = 64) = false := decide_eq_false (by omega)
      refine ⟨h2, ?_, o3.to fun x => by simp only [cnt_append, cnt_cons]; omega⟩
      simp only [f_wicketref08_Decode, z32i, bnd_eq, hb0, hh0, hb1, hh1, c0, c1, decide_false, cond_false, Option.bind_some, hr.lenB, c2, Bool.not_false, cond_true, nwA_eq, lz, s2, l2]
  · rw [deV, deE, if_neg hz, if_neg hz]
    refine ⟨h2, ?_, o3.to fun x => by simp only [cnt_append, cnt_cons]; omega⟩
    by_cases h0' : z < 0
    · simp only [f_wicketref08_Decode, z32i, bnd_eq, hb0, hh0, hb1, hh1, h0', decide_true, cond_true, Option.bind_some, nwA_eq, lz, s2, l2]
    · have c1 : 64 ≤ z := by omega
      simp only [f_wicketref08_Decode, z32i, bnd_eq, hb0, hh0, hb1, hh1, h0', decide_false, cond_false, c1, decide_true, cond_true, Option.bind_some, nwA_eq, lz, s2, l2]
end
end Go.Proofs.YtjpiakhpkmmggaaDoor

/- HomeBytes, put together. -/
namespace Go.Proofs.YtjpiakhpkmmggaaDoor
open Go
set_option linter.unusedVariables false
set_option linter.unusedSimpArgs false
section
variable {n k m : Nat} {s u u2 : Value} {L B V X : List Int} {cs : List Value} {h : Heap} {F G A : Ch} {z : Int}
def Mk1 (s : Value) (X : List Int) (A : Ch) : Prop := ∃ b off sp c, Slc 1 (.slice (some ⟨b, off, sp⟩) (X.length + 2) c) (X.length + 2) (iz .u8 (X ++ [90, 165])) A ∧ X.length + 2 ≤ c ∧ s = .slice (some ⟨b, off, sp⟩) X.length c
theorem Mk1.slc (hm : Mk1 s X A) : Slc 1 s X.length (iz .u8 X) A := by
  obtain ⟨b, off, sp, c, h1, h2, rfl⟩ := hm
  have := h1.pre' (k := X.length) (by omega)
  have ek : (iz .u8 (X ++ [90, 165])).take X.length = iz .u8 X := by
    rw [iz, List.map_append, List.take_append_of_le_length (by simp), List.take_of_length_le (by simp)]; rfl
  rwa [ek] at this
theorem ownB_ok (hr : Sow 1 u m cs G) (ho : Own h (G ++ F)) (hm : m ≤ 140737488355328) :
    ∃ s h' A', f_wicketlaw01_Own n u h = some ((s, ()), h') ∧ Slc 1 s m cs A' ∧ Own h' (A' ++ (G ++ F)) := by
  have o1 := ho.new (.cells [] false 1)
  have hs : Slc 1 (.slice (some ⟨h.next, 0, some 0⟩) 0 0) 0 [] [(h.next, .cells ([] ++ ([] ++ [])) false 1)] := .mk rfl rfl rfl
  obtain ⟨s', h', A', e1, e2, e3⟩ := hr.app hs (F := F) (h := h.new (.cells [] false 1)) (o1.to fun x => by simp only [cnt_append, cnt_cons, cnt_nil, List.nil_append, List.append_nil]; omega) (by decide) (bytes := 1) (by omega)
  refine ⟨s', h', A', ?_, by simpa using e2, e3⟩
  simp only [f_wicketlaw01_Own, fill0, Option.bind_some, bnd_eq, e1, e2.notT, Bool.not_false, cond_true]
theorem roomyB_ok (hr : Sow 1 u X.length (iz .u8 X) G) (ho : Own h (G ++ F)) (hm : X.length + 2 ≤ 140737488355328) :
    ∃ s h' A', f_wicketlaw01_Roomy n u h = some ((s, ()), h') ∧ Mk1 s X A' ∧ Own h' (A' ++ (G ++ F)) := by
  obtain ⟨s1, h1, A1, e1, e2, o1⟩ := ownB_ok (n := n) hr ho (by omega)
  have o2 := o1.new (.cells [.int .u8 90, .int .u8 165] false 1)
  have hy : Slc 1 (.slice (some ⟨h1.next, 0, some 0⟩) 2 2) 2 [.int .u8 90, .int .u8 165] [(h1.next, .cells ([] ++ ([.int .u8 90, .int .u8 165] ++ [])) false 1)] := .mk rfl rfl rfl
  obtain ⟨s3, h3, A3, e3, e4, o3⟩ := hy.sow.app e2 (F := G ++ F) (h := h1.new (.cells [.int .u8 90, .int .u8 165] false 1)) (o2.to fun x => by simp only [cnt_append, cnt_cons, cnt_nil, List.nil_append, List.append_nil]; omega) (by decide) (bytes := 1) (by omega)
  have e4 : Slc 1 s3 (X.length + 2) (iz .u8 (X ++ [90, 165])) A3 := by simpa [iz] using e4
  have f1 : fillL [.int .u8 0, .int .u8 0] [(0, 1, .int .u8 90), (1, 1, .int .u8 165)] = some [.int .u8 90, .int .u8 165] := rfl
  have hl := (hr.rds ho).lenB
  obtain ⟨a, c, rfl⟩ := e4.form
  cases a with
  | none => cases e4
  | some q =>
    obtain ⟨b, off, sp⟩ := q
    have hc : X.length + 2 ≤ c := by
      have hl := e4.len
      generalize iz .u8 (X ++ [90, 165]) = zs at e4 hl
      cases e4 with
      | mk hp hl' hr => omega
    have s5 : sliceK h3 1 none (some (.int .i64 (X.length : Int))) none (.slice (some ⟨b, off, sp⟩) (X.length + 2) c) = some (.slice (some ⟨b, off, sp⟩) X.length c, h3) := sliceK_h (by omega)
    refine ⟨.slice (some ⟨b, off, sp⟩) X.length c, h3, A3, ?_, ⟨b, off, sp, c, e4, hc, rfl⟩, o3.to fun x => by simp only [cnt_append, cnt_cons]; omega⟩
    simp only [f_wicketlaw01_Roomy, e1, Option.bind_some, f1, bnd_eq, e3, hl, s5, isTuple, Bool.not_false, cond_true]
theorem heldB_ok (hk : Mk1 s X A) (hr : Sow 1 u X.length (iz .u8 X) G) (ho : Own h (A ++ (G ++ F))) (hm : X.length + 2 ≤ 140737488355328) : f_wicketlaw01_Held n s u h = some ((true, ()), h) := by
  have h2 := hk.slc
  obtain ⟨b, off, sp, c, h1, hc, rfl⟩ := hk
  have rr := hr.rds (h := h) (F := A ++ F) (ho.to fun x => by simp only [cnt_append]; omega)
  have r1 := h1.rds ho
  have e1 : sliceK h 1 none (some (.int .i64 (IntKind.i64.wrap ((X.length : Int) + 2)))) none (.slice (some ⟨b, off, sp⟩) X.length c) = some (.slice (some ⟨b, off, sp⟩) (X.length + 2) c, h) := by
    have : IntKind.i64.wrap ((X.length : Int) + 2) = ((X.length + 2 : Nat) : Int) := by rw [wrap_i64 (by omega) (by omega)]; omega
    rw [this]; exact sliceK_h hc
  have e2 : sliceK h 1 none (some (.int .i64 (X.length : Int))) none (.slice (some ⟨b, off, sp⟩) (X.length + 2) c) = some (.slice (some ⟨b, off, sp⟩) X.length c, h) := sliceK_h (by omega)
  have t1 := (h2.rds ho).str
  have t2 := rr.str
  have hl2 : (X ++ [90, 165] : List Int).length = X.length + 2 := by simp
  obtain ⟨q4, e4, e5⟩ := r1.intn hl2 (i := X.length) (by omega)
  obtain ⟨q6, e6, e7⟩ := r1.intn hl2 (i := X.length + 1) (by omega)
  have x4 : (X ++ [90, 165])[X.length]'(by omega) = 90 := by simp
  have x6 : (X ++ [90, 165])[X.length + 1]'(by omega) = 165 := by simp
  rw [x4] at e5
  rw [x6] at e7
  simp only [f_wicketlaw01_Held, rr.lenB, Option.bind_some, e1, e2, t1, t2, str_eql rfl, cond_true, e4, e5, decide_true, wrap_succ (show X.length < 4611686018427387904 by omega), e6, e7]
def tb (z : Int) : Int := ((z.toNat ^^^ 1 : Nat) : Int)
theorem tb_byt (hB : Byt B) : Byt (B.map tb) := by
  intro z hz
  obtain ⟨y, hy, rfl⟩ := List.mem_map.1 hz
  have := hB y hy
  have h1 : y.toNat ^^^ 1 < 2 ^ 8 := Nat.xor_lt_two_pow (n := 8) (by omega) (by omega)
  unfold tb; omega
theorem xor8 {z : Int} (h0 : 0 ≤ z) (h1 : z < 256) : bitB .xor .u8 z .u8 1 = some (tb z) := by
  obtain ⟨a, rfl⟩ : ∃ a : Nat, z = a := ⟨z.toNat, by omega⟩
  have hx : a ^^^ 1 < 2 ^ 8 := Nat.xor_lt_two_pow (n := 8) (by omega) (by omega)
  have e1 : ((a : Int) % 2 ^ 8).toNat = a := by omega
  have e : bitB .xor .u8 (a : Int) .u8 1 = some (IntKind.u8.wrap (((((a : Int) % 2 ^ 8).toNat ^^^ 1 : Nat)) : Int)) := rfl
  rw [e, e1, wrap_u8, Nat.mod_eq_of_lt hx]; rfl
theorem turn_ok (hv : Slc 1 s X.length (iz .u8 X) A) (hB : Byt X) (ho : Own h (A ++ F)) (hl : X.length < 4611686018427387904) (hn : X.length + 1 ≤ n) :
    ∃ h' A', f_wicketlaw01_Turn n s h = some ((), h') ∧ Slc 1 s X.length (iz .u8 (X.map tb)) A' ∧ Own h' (A' ++ F) := by
  obtain ⟨⟨x, h'⟩, e, A', q1, q2⟩ := loopT_up (f := fun a => f_wicketlaw01_Turn_L8 n s a.1.1 a.2)
    (fun k (a : (Int × Unit) × Heap) => a.1 = ((k : Int), ()) ∧ ∃ A', Slc 1 s X.length (iz .u8 ((X.map tb).take k ++ X.drop k)) A' ∧ Own a.2 (A' ++ F))
    (fun r => ∃ A', Slc 1 s X.length (iz .u8 (X.map tb)) A' ∧ Own r.2 (A' ++ F)) (N := X.length) (k := n) (j := 0) (a := ((0, ()), h)) (by omega) (by omega)
    ⟨rfl, A, by simpa using hv, ho⟩
    (fun k a hk hi => by
      obtain ⟨⟨v0, _⟩, h1⟩ := a
      obtain ⟨e0, A1, hs1, o1⟩ := hi
      cases e0
      have o1 : Own h1 _ := o1
      have hlt : (k : Int) < (X.length : Int) := by omega
      have hxl : ((X.map tb).take k ++ X.drop k).length = X.length := by simp; omega
      obtain ⟨q, e1, e2⟩ := (hs1.rds o1).intn hxl hk
      have hx : ((X.map tb).take k ++ X.drop k)[k]'(by omega) = X[k] := by
        rw [List.getElem_append_right (by simp; omega)]
        simp only [List.length_take, List.length_map, Nat.min_eq_left (Nat.le_of_lt hk), Nat.sub_self, List.getElem_drop, Nat.add_zero]
      rw [hx] at e2
      have hb := hB _ (List.getElem_mem hk)
      obtain ⟨q', h2, A2, g1, g2, g3, o2⟩ := slc_set1 hs1 o1 hk (v := .int .u8 (tb X[k])) rfl rfl
      obtain rfl : q = q' := by rw [e1] at g1; exact Option.some.inj g1
      rw [iz_set] at g3
      have ec : ((X.map tb).take k ++ X.drop k).set k (tb X[k]) = (X.map tb).take (k + 1) ++ X.drop (k + 1) := by
        have hkm : k < (X.map tb).length := by rw [List.length_map]; exact hk
        rw [List.set_append_right _ _ (by simp; omega), List.length_take, Nat.min_eq_left (by omega), Nat.sub_self, List.drop_eq_getElem_cons hk, List.set_cons_zero, take_snoc hkm, List.getElem_map, List.append_assoc]; rfl
      rw [ec] at g3
      refine .inl ⟨((((k + 1 : Nat) : Int), ()), h2), ?_, rfl, A2, g3, o2⟩
      simp only [f_wicketlaw01_Turn_L8, hv.lenB, Option.bind_some, hlt, decide_true, cond_true, e1, e2, xor8 hb.1 hb.2, g2, wrap_succ (show k < 4611686018427387904 by omega)])
    (fun a hi => by
      obtain ⟨⟨v0, _⟩, h1⟩ := a
      obtain ⟨e0, A1, hs1, o1⟩ := hi
      cases e0
      have hlt : ¬ (X.length : Int) < (X.length : Int) := by omega
      rw [List.drop_length, List.append_nil, List.take_of_length_le (by simp)] at hs1
      exact ⟨((), h1), by simp only [f_wicketlaw01_Turn_L8, hv.lenB, Option.bind_some, hlt, decide_false, cond_false], A1, hs1, o1⟩)
  exact ⟨h', A', e, q1, q2⟩

theorem homeBytes_ok (hV : V.length = 32) (hb : Byt V) (hB : Byt B) (hu : Sow 1 u2 B.length (iz .u8 B) G) (hm0 : tabO ∈ G) (hm1 : tabP ∈ G) (ho : Own h G) (hl : B.length + 2 ≤ 140737488355328) (hn : 5000 ≤ n) (hBn : B.length + 100 ≤ n) :
    ∃ h', f_wicketlaw08_HomeBytes n z (.agg ⟨iz .u8 V⟩) u2 h = some ((true, ()), h') := by
  have o0 := ho.new (.cells (iz .u8 V) false 0)
  generalize hb0 : h.next = b0 at o0
  generalize hh0 : h.new (.cells (iz .u8 V) false 0) = h0 at o0
  have hin0 : ∀ {D E : Ch}, tabO ∈ D ++ ((b0, .cells (iz .u8 V) false 0) :: (G ++ E)) := fun {D E} => List.mem_append_right _ (List.mem_cons_of_mem _ (List.mem_append_left _ hm0))
  have aw := awake_ok (n := n) (o0.get tabO (List.mem_cons_of_mem _ hm0)) (o0.get tabP (List.mem_cons_of_mem _ hm1))
  have ldV := arr_ld o0.head hV
  -- the document's answers
  obtain ⟨s3, h3, A3, e3, a3, o3⟩ := rencode_z (n := n) (z := z) hV hb o0 (by omega)
  obtain ⟨h4, e4, o4⟩ := rdecode_z (n := n) (z := z) hB hu (h := h3) (F := A3 ++ [(b0, .cells (iz .u8 V) false 0)]) (o3.to fun x => by simp only [cnt_append, cnt_cons, cnt_nil]; omega) (by omega)
  obtain ⟨W, hW⟩ : ∃ W, W = deV z B := ⟨_, rfl⟩
  have hWl : W.length = 32 := by rw [hW]; exact deV_len
  rw [← hW] at e4
  obtain ⟨h6, e6, o6⟩ := arr_tmp o4 hWl
  generalize hb4 : h4.next = b4 at e6 o6
  generalize hh5 : h4.new (.cells z32' false 0) = h5 at e6
  have o6' : Own h6 ((b0, .cells (iz .u8 V) false 0) :: ((b4, .cells (iz .u8 W) false 0) :: (G ++ A3))) := o6.to fun x => by simp only [cnt_append, cnt_cons, cnt_nil]; omega
  have ldV6 := arr_ld o6'.head hV
  obtain ⟨s8, h8, A8, e8, a8, o8⟩ := encode_z (n := n) (z := z) hV hb (List.mem_cons_of_mem _ (List.mem_cons_of_mem _ (List.mem_append_left _ hm0))) o6' (by omega)
  obtain ⟨s9, h9, A9, e9, a9, o9⟩ := roomyB_ok (n := n) hu (h := h8) (F := A8 ++ ((b0, .cells (iz .u8 V) false 0) :: (b4, .cells (iz .u8 W) false 0) :: A3)) (o8.to fun x => by simp only [cnt_append, cnt_cons]; omega) hl
  have a9' := a9.slc
  obtain ⟨h10, e10, o10⟩ := decode_z (n := n) (z := z) hB a9'.sow a9'.cap (List.mem_append_right _ (List.mem_append_left _ hm0)) o9 (by omega)
  rw [← hW] at e10
  obtain ⟨h12, e12, o12⟩ := arr_tmp o10 hWl
  generalize hb10 : h10.next = b10 at e12 o12
  generalize hh11 : h10.new (.cells z32' false 0) = h11 at e12
  -- one heap for what follows
  have o12 : Own h12 ((b10, .cells (iz .u8 W) false 0) :: (A9 ++ (G ++ (A8 ++ ((b0, .cells (iz .u8 V) false 0) :: (b4, .cells (iz .u8 W) false 0) :: A3))))) := o12
  have t8 := (a8.rds (h := h12) (F := (b10, .cells (iz .u8 W) false 0) :: (A9 ++ (G ++ ((b0, .cells (iz .u8 V) false 0) :: (b4, .cells (iz .u8 W) false 0) :: A3)))) (o12.to fun x => by simp only [cnt_append, cnt_cons]; omega)).str
  have t3 := (a3.rds (h := h12) (F := (b10, .cells (iz .u8 W) false 0) :: (A9 ++ (G ++ (A8 ++ ((b0, .cells (iz .u8 V) false 0) :: [(b4, .cells (iz .u8 W) false 0)]))))) (o12.to fun x => by simp only [cnt_append, cnt_cons, cnt_nil]; omega)).str
  have ld10 := arr_ld o12.head hWl
  have ld4 := arr_ld (o12.get (b4, .cells (iz .u8 W) false 0) (by simp)) hWl
  have eqW : ∀ hh : Heap, eqVals hh (.agg (List.replicate 32 false)) (.agg ⟨iz .u8 W⟩) (.agg ⟨iz .u8 W⟩) = some true := fun hh => by
    have := eq_ok (h := hh) hWl hWl
    rwa [decide_eq_true rfl] at this
  have ldV12 := arr_ld (o12.get (b0, .cells (iz .u8 V) false 0) (by simp)) hV
  obtain ⟨s21, h21, A21, e21, a21, o21⟩ := encode_z (n := n) (z := z) hV hb (List.mem_cons_of_mem _ (List.mem_append_right _ (List.mem_append_left _ hm0))) o12 (by omega)
  have t21 := (a21.rds o21).str
  have t3b := (a3.rds (h := h21) (F := A21 ++ ((b10, .cells (iz .u8 W) false 0) :: (A9 ++ (G ++ (A8 ++ ((b0, .cells (iz .u8 V) false 0) :: [(b4, .cells (iz .u8 W) false 0)])))))) (o21.to fun x => by simp only [cnt_append, cnt_cons, cnt_nil]; omega)).str
  -- another question between
  have f25 : fillL (List.replicate 32 (.int .u8 0)) [(0, 1, .int .u8 9)] = some (iz .u8 (9 :: List.replicate 31 0)) := rfl
  have hb9 : Byt (9 :: List.replicate 31 0) := by
    intro z hz
    rcases List.mem_cons.1 hz with rfl | hz
    · decide
    · rw [List.eq_of_mem_replicate hz]; decide
  obtain ⟨s26, h26, A26, e26, a26, o26⟩ := encode_ok (n := n) (k := 5) (V := 9 :: List.replicate 31 0) (by decide) (by decide) (by simp) hb9 (List.mem_append_right _ (List.mem_cons_of_mem _ (List.mem_append_right _ (List.mem_append_left _ hm0)))) o21 (by omega)
  obtain ⟨h27, e27, o27⟩ := decode_z (n := n) (z := z) hB a9'.sow a9'.cap (h := h26) (F := G ++ (A26 ++ (A21 ++ ((b10, .cells (iz .u8 W) false 0) :: (A8 ++ ((b0, .cells (iz .u8 V) false 0) :: (b4, .cells (iz .u8 W) false 0) :: A3)))))) (List.mem_append_right _ (List.mem_append_left _ hm0)) (o26.to fun x => by simp only [cnt_append, cnt_cons]; omega) (by omega)
  rw [← hW] at e27
  have o27' : Own h27 ((b10, .cells (iz .u8 W) false 0) :: (A9 ++ (G ++ (A26 ++ (A21 ++ (A8 ++ ((b0, .cells (iz .u8 V) false 0) :: (b4, .cells (iz .u8 W) false 0) :: A3))))))) := o27.to fun x => by simp only [cnt_append, cnt_cons]; omega
  obtain ⟨h28, s28, o28, l28⟩ := tmp32 (w := W) o27' (by simp; omega) hWl
  have ld4b := arr_ld (o28.get (b4, .cells (iz .u8 W) false 0) (by simp)) hWl
  have t8c := (a8.rds (h := h28) (F := (b10, .cells (iz .u8 W) false 0) :: (A9 ++ (G ++ (A26 ++ (A21 ++ ((b0, .cells (iz .u8 V) false 0) :: (b4, .cells (iz .u8 W) false 0) :: A3)))))) (o28.to fun x => by simp only [cnt_append, cnt_cons]; omega)).str
  have t3c := (a3.rds (h := h28) (F := (b10, .cells (iz .u8 W) false 0) :: (A9 ++ (G ++ (A26 ++ (A21 ++ (A8 ++ ((b0, .cells (iz .u8 V) false 0) :: [(b4, .cells (iz .u8 W) false 0)]))))))) (o28.to fun x => by simp only [cnt_append, cnt_cons, cnt_nil]; omega)).str
  have t21c := (a21.rds (h := h28) (F := (b10, .cells (iz .u8 W) false 0) :: (A9 ++ (G ++ (A26 ++ (A8 ++ ((b0, .cells (iz .u8 V) false 0) :: (b4, .cells (iz .u8 W) false 0) :: A3)))))) (o28.to fun x => by simp only [cnt_append, cnt_cons]; omega)).str
  have e38 := heldB_ok (n := n) a9 hu (h := h28) (F := (b10, .cells (iz .u8 W) false 0) :: (A26 ++ (A21 ++ (A8 ++ ((b0, .cells (iz .u8 V) false 0) :: (b4, .cells (iz .u8 W) false 0) :: A3))))) (o28.to fun x => by simp only [cnt_append, cnt_cons]; omega) hl
  -- turned
  obtain ⟨h40, A40, e40, a40, o40⟩ := turn_ok (n := n) a9' hB (h := h28) (F := (b10, .cells (iz .u8 W) false 0) :: (G ++ (A26 ++ (A21 ++ (A8 ++ ((b0, .cells (iz .u8 V) false 0) :: (b4, .cells (iz .u8 W) false 0) :: A3)))))) (o28.to fun x => by simp only [cnt_append, cnt_cons]; omega) (by omega) (by omega)
  obtain ⟨s41, h41, A41, e41, a41, o41⟩ := ownB_ok (n := n) a40.sow (h := h40) o40 (by omega)
  have hT := tb_byt hB
  have hTl : (B.map tb).length = B.length := List.length_map ..
  rw [← hTl] at a40 a41
  generalize B.map tb = T at a40 a41 hT hTl
  obtain ⟨h42, e42, o42⟩ := rdecode_z (n := n) (z := z) hT a41.sow o41 (by omega)
  obtain ⟨W2, hW2⟩ : ∃ W2, W2 = deV z T := ⟨_, rfl⟩
  have hW2l : W2.length = 32 := by rw [hW2]; exact deV_len
  rw [← hW2] at e42
  have o42' : Own h42 ((b4, .cells (iz .u8 W) false 0) :: (A41 ++ (A40 ++ ((b10, .cells (iz .u8 W) false 0) :: (G ++ (A26 ++ (A21 ++ (A8 ++ ((b0, .cells (iz .u8 V) false 0) :: A3)))))))))  := o42.to fun x => by simp only [cnt_append, cnt_cons]; omega
  obtain ⟨h43, s43, o43, l43⟩ := tmp32 (w := W2) o42' (by simp; omega) hW2l
  obtain ⟨h44, e44, o44⟩ := decode_z (n := n) (z := z) hT a40.sow a40.cap (h := h43) (F := G ++ ((b4, .cells (iz .u8 W2) false 0) :: (A41 ++ ((b10, .cells (iz .u8 W) false 0) :: (A26 ++ (A21 ++ (A8 ++ ((b0, .cells (iz .u8 V) false 0) :: A3)))))))) (List.mem_append_right _ (List.mem_append_left _ hm0)) (o43.to fun x => by simp only [cnt_append, cnt_cons]; omega) (by omega)
  rw [← hW2] at e44
  have o44' : Own h44 ((b10, .cells (iz .u8 W) false 0) :: ((b4, .cells (iz .u8 W2) false 0) :: (G ++ (A26 ++ (A21 ++ A8))))) := o44.to fun x => by simp only [cnt_append, cnt_cons]; omega
  obtain ⟨h45, s45, o45, l45⟩ := tmp32 (w := W2) o44' (by simp; omega) hW2l
  have ld4d := arr_ld (o45.get (b4, .cells (iz .u8 W2) false 0) (by simp)) hW2l
  have eqW2 : eqVals h45 (.agg (List.replicate 32 false)) (.agg ⟨iz .u8 W2⟩) (.agg ⟨iz .u8 W2⟩) = some true := by
    have := eq_ok (h := h45) hW2l hW2l
    rwa [decide_eq_true rfl] at this
  -- lists apart
  have o50 := o45.new (.cells [s8, s21, s26] false 1)
  have y50 : Slc 1 (.slice (some ⟨h45.next, 0, some 0⟩) 3 3) 3 [s8, s21, s26] [(h45.next, .cells ([] ++ ([s8, s21, s26] ++ [])) false 1)] := .mk rfl rfl rfl
  generalize hb50 : h45.next = b50 at o50 y50
  generalize hh50 : h45.new (.cells [s8, s21, s26] false 1) = h50 at o50
  have hel := encV_len (z := z) hV
  obtain ⟨h51, e51, o51⟩ := apart1_ok (n := n) (B := 64) (u := .slice (some ⟨b50, 0, some 0⟩) 3 3) (xs := [⟨s8, (encV z V).length, iz .u8 (encV z V), A8⟩, ⟨s21, (encV z V).length, iz .u8 (encV z V), A21⟩, ⟨s26, 64, iz .u8 (enc 5 (9 :: List.replicate 31 0)), A26⟩]) (U := [(b50, .cells ([] ++ ([s8, s21, s26] ++ [])) false 1)]) (h := h50) (F := G)
    y50 (fun x hx => by
      simp only [List.mem_cons, List.not_mem_nil, or_false] at hx
      rcases hx with rfl | rfl | rfl
      · exact ⟨a8, hel⟩
      · exact ⟨a21, hel⟩
      · exact ⟨a26, Nat.le_refl _⟩) (o50.to fun x => by simp only [List.flatMap_cons, List.flatMap_nil, cnt_append, cnt_cons, cnt_nil, List.nil_append, List.append_nil]; omega) (by decide) (by simp) (by omega) (by simp; omega)
  refine ⟨h51, ?_⟩
  have hco : cellsOf (.agg ⟨iz .u8 V⟩) = iz .u8 V := rfl
  have f49 : fillL [.slice none 0 0, .slice none 0 0, .slice none 0 0] [(0, 1, s8), (1, 1, s21), (2, 1, s26)] = some [s8, s21, s26] := by
    obtain ⟨x, y, rfl⟩ := a8.form; obtain ⟨x, y, rfl⟩ := a21.form; obtain ⟨x, y, rfl⟩ := a26.form; rfl
  simp only [f_wicketlaw08_HomeBytes, hco, iz_cell, cond_true, bnd_eq, hb0, hh0, aw, Option.bind_some, Bool.not_true, cond_false, nwA_eq, ldV, e3, e4, hb4, hh5, e6, ldV6, e8, e9, e10, hb10, hh11, e12, t8, t3, str_eq rfl, decide_true, ld10, ld4, eqW, ldV12, e21, t21, t3b, f25, e26, e27, s28, l28, ld4b, t8c, t3c, t21c, e38, e40, e41, e42, s43, e44, s45, l45, ld4d, eqW2, f49, hb50, hh50, e51]
end
end Go.Proofs.YtjpiakhpkmmggaaDoor

