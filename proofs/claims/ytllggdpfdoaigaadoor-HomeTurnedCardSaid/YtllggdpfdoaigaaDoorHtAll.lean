import Derived.Test.YtllggdpfdoaigaaDoorLHomeTurned
import Derived.Test.YtllggdpfdoaigaaDoorS4
import Derived.Test.YtllggdpfdoaigaaDoorAgAll
/- Homes: bytes, the sum. -/
namespace Go.Proofs.YtllggdpfdoaigaaDoor
open Go
set_option linter.unusedVariables false
set_option linter.unusedSimpArgs false

def tabN : List Nat := [0, 498536548, 997073096, 651767980, 1994146192, 1802195444, 1303535960, 1342533948, 3988292384, 4027552580, 3604390888, 3412177804, 2607071920, 2262029012, 2685067896, 3183342108]
/-- Half a push. -/
def hf (x : Nat) : Nat := tabN.getD (x % 16) 0 ^^^ (x / 16)
/-- A push. -/
def psh (x c : Nat) : Nat := hf (hf (x ^^^ c))
def crcs (L : List Int) (x : Nat) : Nat := L.foldl (fun x z => psh x z.toNat) x
def crc (L : List Int) : Nat := 4294967295 ^^^ crcs L 4294967295
def Byt (L : List Int) : Prop := ∀ z ∈ L, 0 ≤ z ∧ z < 256

theorem wrap_u32 {x : Int} (h1 : 0 ≤ x) (h2 : x < 4294967296) : IntKind.u32.wrap x = x := by
  have : x % 4294967296 = x := Int.emod_eq_of_lt h1 h2
  simpa [IntKind.wrap, IntKind.signed, IntKind.bits] using this
theorem xor_b {a b : Nat} (ha : a < 4294967296) (hb : b < 4294967296) : bitB .xor .u32 (a : Int) .u32 (b : Int) = some ((a ^^^ b : Nat) : Int) := by
  have h1 : a ^^^ b < 2 ^ 32 := Nat.xor_lt_two_pow (n := 32) ha hb
  have e1 : ((a : Int) % 2 ^ 32).toNat = a := by omega
  have e2 : ((b : Int) % 2 ^ 32).toNat = b := by omega
  have e : bitB .xor .u32 (a : Int) .u32 (b : Int) = some (IntKind.u32.wrap (((((a : Int) % 2 ^ 32).toNat ^^^ ((b : Int) % 2 ^ 32).toNat : Nat)) : Int)) := rfl
  rw [e, e1, e2, wrap_u32 (by omega) (by omega)]
theorem and_b {a : Nat} (ha : a < 4294967296) : bitB .and .u32 (a : Int) .u32 15 = some ((a % 16 : Nat) : Int) := by
  have e1 : ((a : Int) % 2 ^ 32).toNat = a := by omega
  have e2 : a &&& 15 = a % 16 := Nat.and_two_pow_sub_one_eq_mod a 4
  have e : bitB .and .u32 (a : Int) .u32 15 = some (IntKind.u32.wrap (((((a : Int) % 2 ^ 32).toNat &&& ((15 : Int) % 2 ^ 32).toNat : Nat)) : Int)) := rfl
  have e3 : ((15 : Int) % 2 ^ 32).toNat = 15 := by decide
  rw [e, e1, e3, e2, wrap_u32 (by omega) (by omega)]
theorem shr_b {a : Nat} : bitB .shr .u32 (a : Int) .u64 4 = some ((a / 16 : Nat) : Int) := by
  have e : bitB .shr .u32 (a : Int) .u64 4 = some ((a : Int).fdiv (2 ^ (min 4 32))) := rfl
  rw [e, Int.fdiv_eq_ediv_of_nonneg _ (by decide)]
  rfl
theorem not_b {a : Nat} (ha : a < 4294967296) : unB .xor .u32 (a : Int) = some ((4294967295 ^^^ a : Nat) : Int) := by
  have e : unB .xor .u32 (a : Int) = bitB .xor .u32 ((4294967295 : Nat) : Int) .u32 (a : Int) := rfl
  rw [e, xor_b (by decide) ha]

theorem tab_lt : ∀ i : Nat, tabN.getD i 0 < 4294967296 := by
  intro i
  by_cases hi : i < 16
  · have : ∀ j : Fin 16, tabN.getD j.1 0 < 4294967296 := by decide
    exact this ⟨i, hi⟩
  · rw [List.getD_eq_getElem?_getD, List.getElem?_eq_none (by simp [tabN]; omega)]; decide
theorem hf_lt {x : Nat} (hx : x < 4294967296) : hf x < 4294967296 := by
  have h2 : x / 16 < 2 ^ 32 := by omega
  exact Nat.xor_lt_two_pow (n := 32) (tab_lt _) h2
theorem psh_lt {x c : Nat} (hx : x < 4294967296) (hc : c < 256) : psh x c < 4294967296 := hf_lt (hf_lt (Nat.xor_lt_two_pow (n := 32) hx (by omega)))
theorem crcs_lt : ∀ {L : List Int} {x : Nat}, Byt L → x < 4294967296 → crcs L x < 4294967296 := by
  intro L
  induction L with
  | nil => intro x _ hx; exact hx
  | cons z L ih =>
    intro x hL hx
    have hz := hL z (List.mem_cons_self ..)
    exact ih (fun y hy => hL y (List.mem_cons_of_mem _ hy)) (psh_lt hx (by omega))
theorem crcs_append {A B : List Int} {x : Nat} : crcs (A ++ B) x = crcs B (crcs A x) := by simp [crcs]

section
variable {n : Nat} {h : Heap} {F G : Ch} {s u : Value} {L : List Int}

theorem tab_ld (hg : h.get 0 = some (.cells tab0.cells true 0)) {i : Nat} (hi : i < 16) : ixA 16 1 (some ⟨0, 0, none⟩) (i : Int) = some ⟨0, i, none⟩ ∧ ldT (.int .u32) h (some ⟨0, i, none⟩) = some ((tabN.getD i 0 : Nat) : Int) := by
  constructor
  · show (bif Nat.blt i 16 then _ else none) = _
    rw [show Nat.blt i 16 = true from Nat.ble_eq_true_of_le hi]; simp
  · rw [ldT_of hg]
    have : ∀ j : Fin 16, ((tab0.cells)[j.1]?).bind (Ty.int .u32).prj = some ((tabN.getD j.1 0 : Nat) : Int) := by decide
    exact this ⟨i, hi⟩

theorem push_ok (hg : h.get 0 = some (.cells tab0.cells true 0)) {x c : Nat} (hx : x < 4294967296) (hc : c < 256) : f_sum_push n (x : Int) (c : Int) h = some ((((psh x c : Nat) : Int), ()), h) := by
  have w1 : IntKind.u32.wrap (c : Int) = (c : Int) := by
    have : (c : Int) % 4294967296 = c := Int.emod_eq_of_lt (by omega) (by omega)
    simpa [IntKind.wrap, IntKind.signed, IntKind.bits] using this
  have l1 : x ^^^ c < 4294967296 := Nat.xor_lt_two_pow (n := 32) hx (by omega)
  obtain ⟨a1, a2⟩ := tab_ld hg (i := (x ^^^ c) % 16) (Nat.mod_lt _ (by decide))
  have l2 := hf_lt l1
  obtain ⟨b1, b2⟩ := tab_ld hg (i := hf (x ^^^ c) % 16) (Nat.mod_lt _ (by decide))
  have x1 := xor_b (tab_lt ((x ^^^ c) % 16)) (show (x ^^^ c) / 16 < 4294967296 by omega)
  have x2 := xor_b (tab_lt (hf (x ^^^ c) % 16)) (show hf (x ^^^ c) / 16 < 4294967296 by omega)
  have e1 : tabN.getD ((x ^^^ c) % 16) 0 ^^^ (x ^^^ c) / 16 = hf (x ^^^ c) := rfl
  have e2 : tabN.getD (hf (x ^^^ c) % 16) 0 ^^^ hf (x ^^^ c) / 16 = psh x c := rfl
  rw [e1] at x1
  rw [e2] at x2
  simp only [f_sum_push, w1, xor_b hx (show c < 4294967296 by omega), Option.bind_some, and_b l1, a1, a2, shr_b, x1, and_b l2, b1, b2, x2]

theorem of_ok {F : Ch} (hg : h.get 0 = some (.cells tab0.cells true 0)) (hL : Byt L) (hs : Sow 1 s L.length (iz .u8 L) G) (hu : Sow 1 u 1 [s] G) (ho : Own h (G ++ F)) (hlen : L.length ≤ 1000) (hn : 2000 ≤ n) :
    f_sum_Of n u h = some ((((crc L : Nat) : Int), ()), h) := by
  have rs : Rds h 1 s L.length (iz .u8 L) := hs.rds ho
  have ru : Rds h 1 u 1 [s] := hu.rds ho
  obtain ⟨a, a1, a2⟩ := ru.ix 0 (by decide)
  have a1 : ixB 1 u 0 = some a := a1
  have lda : ldT .any h (some a) = some s := by rw [a2.ldT0 (v := s) (by simp)]; rfl
  have hbt : ∀ j, Byt (L.take j) := fun j z hz => hL z (List.mem_of_mem_take hz)
  obtain ⟨r, e1, rfl⟩ := loopT_up (f := fun a : (Int × Int × Unit) × Heap => f_sum_Of_L13 n s L.length a.1.1 a.1.2.1 a.2)
    (I := fun j a => a = ((((crcs (L.take j) 4294967295 : Nat) : Int), (j : Int), ()), h)) (Q := fun r => r = ((((crcs L 4294967295 : Nat) : Int), ()), h)) (N := L.length) (k := n) (j := 0) (a := ((4294967295, 0, ()), h)) (by omega) (Nat.zero_le _) rfl (by
      rintro j a hj rfl
      obtain ⟨q, b1, b2⟩ := rs.int (L := L) hj
      have hz := hL _ (List.getElem_mem hj)
      obtain ⟨c, hc⟩ : ∃ c : Nat, L[j] = (c : Int) := ⟨L[j].toNat, by omega⟩
      rw [hc] at b2
      have e := push_ok (n := n) hg (x := crcs (L.take j) 4294967295) (c := c) (crcs_lt (hbt j) (by decide)) (by omega)
      have hcs : crcs (L.take (j + 1)) 4294967295 = psh (crcs (L.take j) 4294967295) c := by rw [take_snoc hj, crcs_append, hc]; rfl
      have hlt : (j : Int) < (L.length : Int) := by omega
      refine .inl ⟨_, ?_, rfl⟩
      simp only [f_sum_Of_L13, hlt, decide_true, cond_true, b1, b2, Option.bind_some, e, wrap_succ (j := j) (by omega), hcs]) (by
      rintro a rfl
      exact ⟨_, by simp [f_sum_Of_L13], rfl⟩)
  have e1' : loopT (fun a : (Int × Int × Unit) × Heap => f_sum_Of_L13 n s L.length a.1.1 a.1.2.1 a.2) n ((4294967295, 0, ()), h) = some ((((crcs L 4294967295 : Nat) : Int), ()), h) := e1
  obtain ⟨m, rfl⟩ : ∃ m, n = m + 2 := ⟨n - 2, by omega⟩
  have hw : IntKind.i64.wrap (0 + 1) = 1 := by decide
  have st1 : f_sum_Of_L15 (m + 2) u 1 4294967295 0 h = some (.inl ((((crcs L 4294967295 : Nat) : Int), (1, ())), h)) := by
    have : (0 : Int) < ((1 : Nat) : Int) := by omega
    simp only [f_sum_Of_L15, this, decide_true, cond_true, a1, lda, Option.bind_some, rs.lenB, e1', hw]
  have st2 : f_sum_Of_L15 (m + 2) u 1 ((crcs L 4294967295 : Nat) : Int) 1 h = some (.inr ((((crcs L 4294967295 : Nat) : Int), ()), h)) := by
    simp [f_sum_Of_L15]
  have hx := not_b (crcs_lt (x := 4294967295) hL (by decide))
  simp only [f_sum_Of, ru.lenB, Option.bind_some, loopT, st1, st2, hx]
  rfl
end
end Go.Proofs.YtllggdpfdoaigaaDoor

/- Homes: parts side by side, numbers as bytes. -/
namespace Go.Proofs.YtllggdpfdoaigaaDoor
open Go
set_option linter.unusedVariables false
set_option linter.unusedSimpArgs false

section
variable {n : Nat} {h : Heap} {F G : Ch} {s u : Value} {L : List Int}

theorem join_ok {P : List (Value × List Int)} (hu : Sow 1 u P.length (P.map (·.1)) G) (hp : ∀ x ∈ P, Sow 1 x.1 x.2.length (iz .u8 x.2) G) (ho : Own h (G ++ F)) (hlen : (P.flatMap (·.2)).length ≤ 1000) (hP : P.length ≤ 10) (hn : 2000 ≤ n) :
    ∃ s h' A, f_octet_Join n u h = some ((s, ()), h') ∧ Slc 1 s (P.flatMap (·.2)).length (iz .u8 (P.flatMap (·.2))) A ∧ Own h' (A ++ (G ++ F)) := by
  have ru : Rds h 1 u P.length (P.map (·.1)) := hu.rds ho
  obtain ⟨⟨⟨s, _⟩, h'⟩, e1, A, g1, g2⟩ := loopT_up (f := fun a : (Value × Int × Unit) × Heap => f_octet_Join_L7 n u P.length a.1.1 a.1.2.1 a.2)
    (I := fun j a => a.1.2.1 = (j : Int) ∧ ∃ A, Slc 1 a.1.1 ((P.take j).flatMap (·.2)).length (iz .u8 ((P.take j).flatMap (·.2))) A ∧ Own a.2 (A ++ (G ++ F)))
    (Q := fun r => ∃ A, Slc 1 r.1.1 (P.flatMap (·.2)).length (iz .u8 (P.flatMap (·.2))) A ∧ Own r.2 (A ++ (G ++ F))) (N := P.length) (k := n) (j := 0) (a := ((.slice none 0 0, 0, ()), h)) (by omega) (Nat.zero_le _) ⟨rfl, [], .nil, ho⟩ (by
      rintro j ⟨⟨v, z, _⟩, hh⟩ hj ⟨rfl, A, l1, ow⟩
      have ow : Own hh (A ++ (G ++ F)) := ow
      have ru : Rds hh 1 u P.length (P.map (·.1)) := hu hh fun x hx => ow.get x (by simp [hx])
      obtain ⟨a, a1, a2⟩ := ru.ix j hj
      have lda : ldT .any hh (some a) = some P[j].1 := by
        rw [a2.ldT0 (v := P[j].1) (by rw [Nat.mul_one, List.getElem?_take, if_pos (by omega), List.getElem?_drop, Nat.add_zero, List.getElem?_map, List.getElem?_eq_getElem hj]; rfl)]; rfl
      have hfl : (P.take (j + 1)).flatMap (·.2) = (P.take j).flatMap (·.2) ++ P[j].2 := by rw [take_snoc hj, List.flatMap_append]; simp
      have hle : ((P.take (j + 1)).flatMap (·.2)).length ≤ (P.flatMap (·.2)).length := by
        conv => rhs; rw [← List.take_append_drop (j + 1) P, List.flatMap_append, List.length_append]
        omega
      rw [hfl, List.length_append] at hle
      obtain ⟨s', h2, A2, e2, l2, o2⟩ := (hp _ (List.getElem_mem hj)).app l1 ow (by decide) (bytes := 1) (by omega)
      have hlt : (j : Int) < (P.length : Int) := by omega
      refine .inl ⟨((s', ((j + 1 : Nat) : Int), ()), h2), ?_, rfl, A2, ?_, o2⟩
      · simp only [f_octet_Join_L7, hlt, decide_true, cond_true, a1, lda, Option.bind_some, e2, wrap_succ (j := j) (by omega)]
      · rw [hfl, List.length_append, iz_append]; exact l2) (by
      rintro ⟨⟨v, z, _⟩, hh⟩ ⟨rfl, A, l1, ow⟩
      rw [List.take_length] at l1
      refine ⟨((v, ()), hh), ?_, A, l1, ow⟩
      have : isTuple v = false := l1.notT
      simp [f_octet_Join_L7, this])
  exact ⟨s, h', A, by simp only [f_octet_Join, ru.lenB, Option.bind_some]; exact e1, g1, g2⟩

/-- A number as so many bytes. -/
def le : Nat → Nat → List Int
  | _, 0 => []
  | x, j + 1 => ((x % 256 : Nat) : Int) :: le (x / 256) j
theorem le_len : ∀ {j x : Nat}, (le x j).length = j := by
  intro j
  induction j with
  | zero => intro x; rfl
  | succ j ih => intro x; simp [le, ih]
theorem le_byt : ∀ {j x : Nat}, Byt (le x j) := by
  intro j
  induction j with
  | zero => intro x z hz; cases hz
  | succ j ih =>
    intro x z hz
    rcases List.mem_cons.1 hz with rfl | hz
    · omega
    · exact ih z hz
theorem le_get : ∀ {j x i : Nat}, i < j → (le x j)[i]? = some ((x / 256 ^ i % 256 : Nat) : Int) := by
  intro j
  induction j with
  | zero => intro x i hi; omega
  | succ j ih =>
    intro x i hi
    cases i with
    | zero => simp [le]
    | succ i =>
      simp only [le, List.getElem?_cons_succ]
      rw [ih (by omega), Nat.div_div_eq_div_mul, Nat.pow_succ, Nat.mul_comm]

theorem shr8_b {a : Nat} : bitB .shr .u64 (a : Int) .u64 8 = some ((a / 256 : Nat) : Int) := by
  have e : bitB .shr .u64 (a : Int) .u64 8 = some ((a : Int).fdiv (2 ^ (min 8 64))) := rfl
  rw [e, Int.fdiv_eq_ediv_of_nonneg _ (by decide)]
  rfl
theorem wrap_u8 {x : Nat} : IntKind.u8.wrap (x : Int) = ((x % 256 : Nat) : Int) := by
  have : IntKind.u8.wrap (x : Int) = (x : Int) % 256 := by simp [IntKind.wrap, IntKind.signed, IntKind.bits]
  rw [this]; omega

theorem oput_ok {x : Nat} (hx : x < 4294967296) (ho : Own h F) (hn : 2000 ≤ n) : ∃ s h' A, f_octet_Put n (x : Int) 4 h = some ((s, 0, ()), h') ∧ Slc 1 s 4 (iz .u8 (le x 4)) A ∧ Own h' (A ++ F) := by
  have m1 := mkSl_of (nx := h.next) (bytes := 1) (es := 1) (zs := [.int .u8 0]) (k := .i64) (k' := .i64) (l := 4) (c := 4) (by decide) (by decide) (by decide)
  have o1 := ho.new (.cells ((List.replicate 4 [Value.int .u8 0]).flatten) false 1)
  generalize hb : h.next = b at m1 o1
  generalize hh1 : h.new (.cells ((List.replicate 4 [Value.int .u8 0]).flatten) false 1) = h1 at o1
  have l0 : Slc 1 (.slice (some ⟨b, 0, some 0⟩) 4 4) 4 (iz .u8 [0, 0, 0, 0]) [(b, .cells ([] ++ (iz .u8 [0, 0, 0, 0] ++ [])) false 1)] := .mk rfl rfl rfl
  have o1 : Own h1 ([(b, .cells ([] ++ (iz .u8 [0, 0, 0, 0] ++ [])) false 1)] ++ F) := o1
  obtain ⟨q0, h2, A2, a1, a2, a3, o2⟩ := slc_set1 l0 o1 (i := 0) (by decide) (v := .int .u8 ((x % 256 : Nat) : Int)) rfl rfl
  obtain ⟨q1, h3, A3, b1, b2, b3, o3⟩ := slc_set1 a3 o2 (i := 1) (by decide) (v := .int .u8 ((x / 256 % 256 : Nat) : Int)) rfl rfl
  obtain ⟨q2, h4, A4, c1, c2, c3, o4⟩ := slc_set1 b3 o3 (i := 2) (by decide) (v := .int .u8 ((x / 256 / 256 % 256 : Nat) : Int)) rfl rfl
  obtain ⟨q3, h5, A5, d1, d2, d3, o5⟩ := slc_set1 c3 o4 (i := 3) (by decide) (v := .int .u8 ((x / 256 / 256 / 256 % 256 : Nat) : Int)) rfl rfl
  refine ⟨_, h5, A5, ?_, d3, o5⟩
  obtain ⟨m, rfl⟩ : ∃ m, n = m + 6 := ⟨n - 6, by omega⟩
  have m1' : mkSl b 1 1 [.int .u8 0] (.int .i64 4) (.int .i64 4) = some (.slice (some ⟨b, 0, some 0⟩) 4 4, .cells ((List.replicate 4 [Value.int .u8 0]).flatten) false 1) := m1
  have a1 : ixB 1 (.slice (some ⟨b, 0, some 0⟩) 4 4) 0 = some q0 := a1
  have b1 : ixB 1 (.slice (some ⟨b, 0, some 0⟩) 4 4) 1 = some q1 := b1
  have c1 : ixB 1 (.slice (some ⟨b, 0, some 0⟩) 4 4) 2 = some q2 := c1
  have d1 : ixB 1 (.slice (some ⟨b, 0, some 0⟩) 4 4) 3 = some q3 := d1
  have s0 : f_octet_Put_L10 (m + 6) (.slice (some ⟨b, 0, some 0⟩) 4 4, .cells ((List.replicate 4 [Value.int .u8 0]).flatten) false 1) 4 (x : Int) 0 h1 = some (.inl ((((x / 256 : Nat) : Int), (1, ())), h2)) := by
    have h0 : (0 : Int) < ((4 : Nat) : Int) := by omega
    have w : IntKind.i64.wrap (0 + 1) = 1 := by decide
    simp only [f_octet_Put_L10, h0, decide_true, cond_true, a1, Option.bind_some, wrap_u8, a2, shr8_b, w]
  have s1 : f_octet_Put_L10 (m + 6) (.slice (some ⟨b, 0, some 0⟩) 4 4, .cells ((List.replicate 4 [Value.int .u8 0]).flatten) false 1) 4 ((x / 256 : Nat) : Int) 1 h2 = some (.inl ((((x / 256 / 256 : Nat) : Int), (2, ())), h3)) := by
    have h0 : (1 : Int) < ((4 : Nat) : Int) := by omega
    have w : IntKind.i64.wrap (1 + 1) = 2 := by decide
    simp only [f_octet_Put_L10, h0, decide_true, cond_true, b1, Option.bind_some, wrap_u8, b2, shr8_b, w]
  have s2 : f_octet_Put_L10 (m + 6) (.slice (some ⟨b, 0, some 0⟩) 4 4, .cells ((List.replicate 4 [Value.int .u8 0]).flatten) false 1) 4 ((x / 256 / 256 : Nat) : Int) 2 h3 = some (.inl ((((x / 256 / 256 / 256 : Nat) : Int), (3, ())), h4)) := by
    have h0 : (2 : Int) < ((4 : Nat) : Int) := by omega
    have w : IntKind.i64.wrap (2 + 1) = 3 := by decide
    simp only [f_octet_Put_L10, h0, decide_true, cond_true, c1, Option.bind_some, wrap_u8, c2, shr8_b, w]
  have s3 : f_octet_Put_L10 (m + 6) (.slice (some ⟨b, 0, some 0⟩) 4 4, .cells ((List.replicate 4 [Value.int .u8 0]).flatten) false 1) 4 ((x / 256 / 256 / 256 : Nat) : Int) 3 h4 = some (.inl ((((x / 256 / 256 / 256 / 256 : Nat) : Int), (4, ())), h5)) := by
    have h0 : (3 : Int) < ((4 : Nat) : Int) := by omega
    have w : IntKind.i64.wrap (3 + 1) = 4 := by decide
    simp only [f_octet_Put_L10, h0, decide_true, cond_true, d1, Option.bind_some, wrap_u8, d2, shr8_b, w]
  have hz : x / 256 / 256 / 256 / 256 = 0 := by omega
  rw [hz] at s3
  have s4 : f_octet_Put_L10 (m + 6) (.slice (some ⟨b, 0, some 0⟩) 4 4, .cells ((List.replicate 4 [Value.int .u8 0]).flatten) false 1) 4 ((0 : Nat) : Int) 4 h5 = some (.inr ((0, ()), h5)) := by
    simp [f_octet_Put_L10]
  have g1 : (1 : Int) ≤ 4 := by decide
  have g2 : (4 : Int) ≤ 8 := by decide
  have hl : lenB (.slice (some ⟨b, 0, some 0⟩) 4 4) = some 4 := rfl
  have ht : isTuple (.slice (some ⟨b, 0, some 0⟩) 4 4) = false := rfl
  simp only [f_octet_Put, f_octet_may, g1, g2, decide_true, cond_true, Option.bind_some, Bool.not_true, cond_false, hb, m1', bnd_eq, hh1, hl, loopT, s0, s1, s2, s3, s4, ht, Bool.not_false]
end
end Go.Proofs.YtllggdpfdoaigaaDoor

/- Homes: Encode. -/
namespace Go.Proofs.YtllggdpfdoaigaaDoor
open Go
set_option linter.unusedVariables false
set_option linter.unusedSimpArgs false

/-- What stands ahead of the sum. -/
def encH (k : Int) (V : List Int) : List Int := [72, 79, 77, 69, 1, k] ++ (List.replicate 22 0 ++ V)
def enc (k : Int) (V : List Int) : List Int := encH k V ++ le (crc (encH k V)) 4

section
variable {n : Nat} {h : Heap} {F G : Ch} {s u : Value} {L V : List Int} {k : Int}

theorem encH_len (hV : V.length = 32) : (encH k V).length = 60 := by simp [encH, hV]
theorem enc_len (hV : V.length = 32) : (enc k V).length = 64 := by simp [enc, encH_len hV, le_len]
theorem encH_byt (h1 : 0 ≤ k) (h2 : k < 64) (hV : Byt V) : Byt (encH k V) := by
  intro z hz
  simp only [encH, List.mem_append, List.mem_cons, List.not_mem_nil, or_false, List.mem_replicate] at hz
  rcases hz with (rfl | rfl | rfl | rfl | rfl | rfl) | ⟨_, rfl⟩ | hz
  all_goals first | omega | exact hV z hz
theorem enc_byt (h1 : 0 ≤ k) (h2 : k < 64) (hV : Byt V) : Byt (enc k V) := by
  intro z hz
  rcases List.mem_append.1 hz with hz | hz
  · exact encH_byt h1 h2 hV z hz
  · exact le_byt z hz
theorem crc_lt (hL : Byt L) : crc L < 4294967296 := Nat.xor_lt_two_pow (n := 32) (by decide) (crcs_lt hL (by decide))

abbrev tabO : Nat × AObj := (0, .cells tab0.cells true 0)
/-- A literal slice of slices. -/
theorem lits {b : Nat} {vs : List Value} : Sow 1 (.slice (some ⟨b, 0, some 0⟩) vs.length vs.length) vs.length vs [(b, .cells vs false 1)] := by
  have := (Slc.mk (es := 1) (b := b) (off := 0) (sp := some 0) (n := vs.length) (c := vs.length) (pre := []) (cs := vs) (rest := []) rfl (by simp) (by simp)).sow
  simpa using this

theorem encode_ok (h1 : 0 ≤ k) (h2 : k < 64) (hV : V.length = 32) (hb : Byt V) (hm : tabO ∈ F) (ho : Own h F) (hn : 2000 ≤ n) :
    ∃ s h' A, f_home_Encode n k (.agg ⟨iz .u8 V⟩) h = some ((s, 0, ()), h') ∧ Slc 1 s 64 (iz .u8 (enc k V)) A ∧ Own h' (A ++ F) := by
  have o1 := ho.new (.cells (iz .u8 V) false 0)
  generalize hb0 : h.next = b0 at o1
  generalize hh0 : h.new (.cells (iz .u8 V) false 0) = h0 at o1
  have o2 := o1.new (.cells (iz .u8 [72, 79, 77, 69]) false 1)
  generalize hb1 : h0.next = b1 at o2
  generalize hh1 : h0.new (.cells (iz .u8 [72, 79, 77, 69]) false 1) = ha at o2
  have mk : markSK ha (.slice (some ⟨b1, 0, some 0⟩) 4 4) = some (.slice (some ⟨b1, 0, some 0⟩) 4 4, ha.put b1 (.cells (iz .u8 [72, 79, 77, 69]) false 1)) := by
    simp only [markSK, o2.head]; rfl
  have o3 := o2.put (.cells (iz .u8 [72, 79, 77, 69]) false 1)
  generalize hhb : ha.put b1 (.cells (iz .u8 [72, 79, 77, 69]) false 1) = hbb at o3 mk
  have o4 := o3.new (.cells (iz .u8 [1, k]) false 1)
  generalize hb2 : hbb.next = b2 at o4
  generalize hhc : hbb.new (.cells (iz .u8 [1, k]) false 1) = hc at o4
  have o5 := o4.new (.cells [.slice (some ⟨b1, 0, some 0⟩) 4 4, .slice (some ⟨b2, 0, some 0⟩) 2 2] false 1)
  generalize hb3 : hc.next = b3 at o5
  generalize hhd : hc.new (.cells [.slice (some ⟨b1, 0, some 0⟩) 4 4, .slice (some ⟨b2, 0, some 0⟩) 2 2] false 1) = hd at o5
  have sl : ∀ (b : Nat) (L : List Int), Sow 1 (.slice (some ⟨b, 0, some 0⟩) L.length L.length) L.length (iz .u8 L) [(b, .cells (iz .u8 L) false 1)] := fun b L => by
    have := lits (b := b) (vs := iz .u8 L)
    simpa [iz] using this
  obtain ⟨s9, he, A9, e9, l9, o6⟩ := join_ok (n := n) (P := [(.slice (some ⟨b1, 0, some 0⟩) 4 4, [72, 79, 77, 69]), (.slice (some ⟨b2, 0, some 0⟩) 2 2, [1, k])]) (u := .slice (some ⟨b3, 0, some 0⟩) 2 2)
    (G := [(b3, .cells [.slice (some ⟨b1, 0, some 0⟩) 4 4, .slice (some ⟨b2, 0, some 0⟩) 2 2] false 1), (b2, .cells (iz .u8 [1, k]) false 1), (b1, .cells (iz .u8 [72, 79, 77, 69]) false 1)]) (h := hd) (F := (b0, .cells (iz .u8 V) false 0) :: F)
    ((lits (b := b3) (vs := [.slice (some ⟨b1, 0, some 0⟩) 4 4, .slice (some ⟨b2, 0, some 0⟩) 2 2])).mono fun x hx => by simp only [List.mem_singleton] at hx; subst hx; exact List.mem_cons_self ..) (by
      intro x hx
      simp only [List.mem_cons, List.not_mem_nil, or_false] at hx
      rcases hx with rfl | rfl
      · exact (sl b1 [72, 79, 77, 69]).mono (by simp)
      · exact (sl b2 [1, k]).mono (by simp)) o5 (by simp) (by simp) hn
  have hf9 : ([((.slice (some ⟨b1, 0, some 0⟩) 4 4 : Value), ([72, 79, 77, 69] : List Int)), (.slice (some ⟨b2, 0, some 0⟩) 2 2, [1, k])] : List (Value × List Int)).flatMap (·.2) = [72, 79, 77, 69, 1, k] := rfl
  rw [hf9] at l9
  have o7 : Own he (A9 ++ ((b0, .cells (iz .u8 V) false 0) :: F)) := o6.to fun x => by simp only [cnt_append, cnt_cons, cnt_nil]; omega
  have m1 := mkSl_of (nx := he.next) (bytes := 1) (es := 1) (zs := [.int .u8 0]) (k := .i64) (k' := .i64) (l := 22) (c := 22) (by decide) (by decide) (by decide)
  have o8 := o7.new (.cells (iz .u8 (List.replicate 22 0)) false 1)
  have hz22 : (List.replicate 22 [Value.int .u8 0]).flatten = iz .u8 (List.replicate 22 0) := rfl
  rw [hz22] at m1
  generalize hb4 : he.next = b4 at o8 m1
  generalize hhf : he.new (.cells (iz .u8 (List.replicate 22 0)) false 1) = hf at o8
  have ar : ∀ H : Heap, sliceArrK H 32 1 none none (.pointer (some ⟨b0, 0, none⟩)) = some (.slice (some ⟨b0, 0, some 0⟩) 32 32, H) := fun H => rfl
  have o9 := o8.new (.cells [s9, .slice (some ⟨b4, 0, some 0⟩) 22 22, .slice (some ⟨b0, 0, some 0⟩) 32 32] false 1)
  generalize hb5 : hf.next = b5 at o9
  generalize hhg : hf.new (.cells [s9, .slice (some ⟨b4, 0, some 0⟩) 22 22, .slice (some ⟨b0, 0, some 0⟩) 32 32] false 1) = hg at o9
  have sv : Sow 1 (.slice (some ⟨b0, 0, some 0⟩) 32 32) V.length (iz .u8 V) [(b0, .cells (iz .u8 V) false 0)] := by
    have := Sow.piece (b := b0) (off := 0) (sp := some 0) (n := 32) (c := 32) (cs := iz .u8 V) (ro := false) (e := 0) (by simp [iz, hV])
    rw [List.drop_zero, List.take_of_length_le (by simp [iz, hV])] at this
    rw [hV]; exact this
  obtain ⟨s16, hi, A16, e16, l16, o10⟩ := join_ok (n := n) (P := [(s9, [72, 79, 77, 69, 1, k]), (.slice (some ⟨b4, 0, some 0⟩) 22 22, List.replicate 22 0), (.slice (some ⟨b0, 0, some 0⟩) 32 32, V)]) (u := .slice (some ⟨b5, 0, some 0⟩) 3 3)
    (G := (b5, .cells [s9, .slice (some ⟨b4, 0, some 0⟩) 22 22, .slice (some ⟨b0, 0, some 0⟩) 32 32] false 1) :: (b4, .cells (iz .u8 (List.replicate 22 0)) false 1) :: (b0, .cells (iz .u8 V) false 0) :: A9) (h := hg) (F := F)
    ((lits (b := b5) (vs := [s9, .slice (some ⟨b4, 0, some 0⟩) 22 22, .slice (some ⟨b0, 0, some 0⟩) 32 32])).mono fun x hx => by simp only [List.mem_singleton] at hx; subst hx; exact List.mem_cons_self ..) (by
      intro x hx
      simp only [List.mem_cons, List.not_mem_nil, or_false] at hx
      rcases hx with rfl | rfl | rfl
      · exact l9.sow.mono fun x hx => by simp [hx]
      · exact (sl b4 (List.replicate 22 0)).mono (by simp)
      · exact sv.mono (by simp)) (o9.to fun x => by simp only [cnt_append, cnt_cons, cnt_nil]; omega) (by simp [hV]) (by simp) hn
  have hf16 : ([(s9, ([72, 79, 77, 69, 1, k] : List Int)), (.slice (some ⟨b4, 0, some 0⟩) 22 22, List.replicate 22 0), (.slice (some ⟨b0, 0, some 0⟩) 32 32, V)] : List (Value × List Int)).flatMap (·.2) = encH k V := by
    simp only [List.flatMap_cons, List.flatMap_nil, List.append_nil, encH]
  rw [hf16, encH_len hV] at l16
  have o11 : Own hi (A16 ++ F) := o10.to fun x => by simp only [cnt_append, cnt_cons, cnt_nil]; omega
  have o12 := o11.new (.cells [s16] false 1)
  generalize hb6 : hi.next = b6 at o12
  generalize hhj : hi.new (.cells [s16] false 1) = hj at o12
  have hbt := encH_byt h1 h2 hb
  have e19 := of_ok (n := n) (o12.get tabO (List.mem_cons_of_mem _ (List.mem_append_right _ hm))) (L := encH k V) (s := s16) (u := .slice (some ⟨b6, 0, some 0⟩) 1 1) (G := (b6, .cells [s16] false 1) :: A16) (h := hj) (F := F) hbt (by rw [encH_len hV]; exact l16.sow.mono fun x hx => by simp [hx]) ((lits (b := b6) (vs := [s16])).mono fun x hx => by simp only [List.mem_singleton] at hx; subst hx; exact List.mem_cons_self ..) (o12.to fun x => by simp only [cnt_append, cnt_cons, cnt_nil]; omega) (by rw [encH_len hV]; omega) hn
  have hw64 : IntKind.u64.wrap ((crc (encH k V) : Nat) : Int) = ((crc (encH k V) : Nat) : Int) := wrap_u64 (by omega) (by have := crc_lt hbt; omega)
  obtain ⟨s20, hk', A20, e20, l20, o13⟩ := oput_ok (n := n) (crc_lt hbt) o12.tail hn
  have o14 := o13.new (.cells [s16, s20] false 1)
  generalize hb7 : hk'.next = b7 at o14
  generalize hhl : hk'.new (.cells [s16, s20] false 1) = hl at o14
  obtain ⟨s23, hm, A23, e23, l23, o15⟩ := join_ok (n := n) (P := [(s16, encH k V), (s20, le (crc (encH k V)) 4)]) (u := .slice (some ⟨b7, 0, some 0⟩) 2 2) (G := (b7, .cells [s16, s20] false 1) :: (A16 ++ A20)) (h := hl) (F := F)
    ((lits (b := b7) (vs := [s16, s20])).mono fun x hx => by simp only [List.mem_singleton] at hx; subst hx; exact List.mem_cons_self ..) (by
      intro x hx
      simp only [List.mem_cons, List.not_mem_nil, or_false] at hx
      rcases hx with rfl | rfl
      · show Sow 1 s16 (encH k V).length _ _
        rw [encH_len hV]; exact l16.sow.mono fun x hx => by simp [hx]
      · show Sow 1 s20 (le _ 4).length _ _
        rw [le_len]; exact l20.sow.mono fun x hx => by simp [hx]) (o14.to fun x => by simp only [cnt_append, cnt_cons, cnt_nil]; omega) (by simp [encH_len hV, le_len]) (by simp) hn
  have hf23 : ([(s16, encH k V), (s20, le (crc (encH k V)) 4)] : List (Value × List Int)).flatMap (·.2) = enc k V := by
    simp only [List.flatMap_cons, List.flatMap_nil, List.append_nil, enc]
  rw [hf23, enc_len hV] at l23
  refine ⟨s23, hm, A23, ?_, l23, o15.to fun x => by simp only [cnt_append, cnt_cons, cnt_nil]; omega⟩
  have c1 : (cellsOf (.agg ⟨iz .u8 V⟩)).all isCell = true := iz_cell
  have c2 : cellsOf (.agg ⟨iz .u8 V⟩) = iz .u8 V := rfl
  have wk : IntKind.u8.wrap k = k := by
    have : k % 256 = k := Int.emod_eq_of_lt (by omega) (by omega)
    simpa [IntKind.wrap, IntKind.signed, IntKind.bits] using this
  have f1 : fillL (List.replicate 4 (.int .u8 0)) [(0, 1, .int .u8 72), (1, 1, .int .u8 79), (2, 1, .int .u8 77), (3, 1, .int .u8 69)] = some (iz .u8 [72, 79, 77, 69]) := rfl
  have f2 : fillL [.int .u8 0, .int .u8 0] [(0, 1, .int .u8 1), (1, 1, .int .u8 k)] = some (iz .u8 [1, k]) := rfl
  have f3 : fillL [.slice none 0 0, .slice none 0 0] [(0, 1, .slice (some ⟨b1, 0, some 0⟩) 4 4), (1, 1, .slice (some ⟨b2, 0, some 0⟩) 2 2)] = some [.slice (some ⟨b1, 0, some 0⟩) 4 4, .slice (some ⟨b2, 0, some 0⟩) 2 2] := rfl
  have f4 : fillL [.slice none 0 0, .slice none 0 0, .slice none 0 0] [(0, 1, s9), (1, 1, .slice (some ⟨b4, 0, some 0⟩) 22 22), (2, 1, .slice (some ⟨b0, 0, some 0⟩) 32 32)] = some [s9, .slice (some ⟨b4, 0, some 0⟩) 22 22, .slice (some ⟨b0, 0, some 0⟩) 32 32] := by
    obtain ⟨a, c, rfl⟩ := l9.form; rfl
  have f5 : fillL [.slice none 0 0] [(0, 1, s16)] = some [s16] := by obtain ⟨a, c, rfl⟩ := l16.form; rfl
  have f6 : fillL [.slice none 0 0, .slice none 0 0] [(0, 1, s16), (1, 1, s20)] = some [s16, s20] := by
    obtain ⟨a, c, rfl⟩ := l16.form
    obtain ⟨a, c, rfl⟩ := l20.form; rfl
  have w22 : IntKind.i64.wrap (28 - ((6 : Nat) : Int)) = ((22 : Nat) : Int) := by decide
  have hl9 : lenB s9 = some 6 := l9.lenB
  simp only [f_home_Encode, c1, iz_cell, cond_true, c2, bnd_eq, hh0, f_home_block, h1, decide_true, h2, Option.bind_some, Bool.not_true, cond_false, f1, hb1, hh1, mk, wk, f2, hhc, hb2, f3, hhd, hb3, e9, hl9, w22, hb4, m1, hhf]
  simp only [ar, nwA_eq, hb0, Option.bind_some, f4, bnd_eq, hhg, hb5, e16, f5, hhj, hb6, e19, hw64, e20, f6, hhl, hb7, e23, l23.notT, Bool.not_false, cond_true]
end
end Go.Proofs.YtllggdpfdoaigaaDoor

/- Homes: Decode. -/
namespace Go.Proofs.YtllggdpfdoaigaaDoor
open Go
set_option linter.unusedVariables false
set_option linter.unusedSimpArgs false

def midV (B : List Int) : List Int := (B.drop 28).take 32
/-- What Decode answers. -/
def decE (k : Int) (B : List Int) : Int := if B.length = 64 then (if enc k (midV B) = B then 0 else 80) else 2
def decV (k : Int) (B : List Int) : List Int := if decE k B = 0 then midV B else List.replicate 32 0

section
variable {n : Nat} {h : Heap} {F G : Ch} {s u : Value} {L V B : List Int} {k : Int}

theorem readCells_sub {r off m i j : Nat} {cs : List Value} (h1 : readCells h r off m = some cs) (hij : i + j ≤ m) : readCells h r (off + i) j = some ((cs.drop i).take j) := by
  unfold readCells at h1 ⊢
  split at h1
  · rename_i xs ro es hg
    cases hb : Nat.ble (off + m) xs.length with
    | false => rw [hb] at h1; cases h1
    | true =>
      rw [hb] at h1
      have hle := Nat.le_of_ble_eq_true hb
      rw [Nat.ble_eq_true_of_le (by omega : off + i + j ≤ xs.length)]
      simp only [cond_true, Option.some.injEq] at h1 ⊢
      subst h1
      rw [List.drop_take, List.drop_drop, List.take_take, Nat.min_eq_left (by omega)]
  · cases h1

theorem Rds.addr {m : Nat} {cs : List Value} (hs : Rds h 1 s m cs) (hm : 0 < m) : ∃ q c, s = .slice (some q) m c ∧ readCells h q.block q.off m = some cs := by
  obtain ⟨a, c, rfl, e⟩ := hs.src
  cases a with
  | none =>
    have e : some ([] : List Value) = some cs := e
    have := hs.len
    cases e
    simp at this; omega
  | some q => exact ⟨q, c, rfl, by rw [Nat.mul_one] at e; exact e⟩

/-- A slice's first so many, as an array. -/
theorem arr_of {m j : Nat} {cs : List Value} (hs : Rds h 1 s m cs) (hj : 1 ≤ j) (hjm : j ≤ m) : ∃ q, arrB h j s = some (some q) ∧ ldA j h (some q) = some (cs.take j) := by
  obtain ⟨q, c, rfl, e⟩ := hs.addr (by omega)
  refine ⟨⟨q.block, q.off, none⟩, ?_, ?_⟩
  · unfold arrB
    rw [arrAtK_of hjm hj]; rfl
  · simp only [ldA, Option.bind_some]
    have := readCells_sub (i := 0) (j := j) e (by omega)
    simpa using this

def Cap (s : Value) (m : Nat) : Prop := ∃ a c, s = .slice a m c ∧ m ≤ c
theorem Slc.cap {m : Nat} {cs : List Value} {A : Ch} (hs : Slc 1 s m cs A) : Cap s m := by
  cases hs with
  | nil => exact ⟨_, _, rfl, Nat.le_refl _⟩
  | mk hp hl hr => exact ⟨_, _, rfl, by omega⟩
theorem Lst.cap {m : Nat} (hs : Lst s m) : Cap s m := by
  rcases hs with ⟨rfl, rfl⟩ | ⟨b, rfl⟩
  · exact ⟨_, _, rfl, Nat.le_refl _⟩
  · exact ⟨_, _, rfl, Nat.le_refl _⟩

theorem mid_ok (hs : Rds h 1 s 64 (iz .u8 B)) (hc : Cap s 64) : ∃ s' q, sliceK h 1 (some (.int .i64 28)) (some (.int .i64 60)) none s = some (s', h) ∧ arrB h 32 s' = some (some q) ∧ ldA 32 h (some q) = some (iz .u8 (midV B)) := by
  obtain ⟨q, c, rfl, e⟩ := hs.addr (by decide)
  obtain ⟨a, c', e', hcc⟩ := hc
  cases e'
  have e1 : sliceK h 1 (some (.int .i64 ((28 : Nat) : Int))) (some (.int .i64 ((60 : Nat) : Int))) none (.slice (some ⟨q.block, q.off, q.spot⟩) 64 c) = some (.slice (some ⟨q.block, q.off + 28 * 1, q.spot⟩) (60 - 28) (c - 28), h) := sliceK_lh (by decide) (by omega)
  refine ⟨_, ⟨q.block, q.off + 28 * 1, none⟩, e1, ?_, ?_⟩
  · unfold arrB
    rw [arrAtK_of (by decide) (by decide)]; rfl
  · simp only [ldA, Option.bind_some]
    have := readCells_sub (i := 28) (j := 32) e (by decide)
    rw [Nat.mul_one, this]
    simp [iz, midV, List.map_take, List.map_drop]

theorem eq_ok {A : List Int} {m : Nat} (ha : A.length = m) (hb : B.length = m) : eqVals h (.agg (List.replicate m false)) (.agg ⟨iz .u8 A⟩) (.agg ⟨iz .u8 B⟩) = some (decide (A = B)) := by
  have := eqCells_iz (k := .u8) ha hb
  exact this

abbrev z32' : List Value := List.replicate 32 (.int .u8 0)
theorem z32_iz : z32' = iz .u8 (List.replicate 32 0) := rfl
theorem midV_len (hB : B.length = 64) : (midV B).length = 32 := by simp [midV, hB]
theorem midV_byt (hB : Byt B) : Byt (midV B) := fun z hz => hB z (List.mem_of_mem_drop (List.mem_of_mem_take hz))
theorem decE_len (h : decE k B = 0) : B.length = 64 := by
  unfold decE at h
  by_cases h1 : B.length = 64
  · exact h1
  · rw [if_neg h1] at h; cases h
theorem decV_len : (decV k B).length = 32 := by
  unfold decV
  by_cases h0 : decE k B = 0
  · rw [if_pos h0]; exact midV_len (decE_len h0)
  · rw [if_neg h0]; simp

theorem decode_ok (h1 : 0 ≤ k) (h2 : k < 64) (hB : Byt B) (hs : Sow 1 s B.length (iz .u8 B) G) (hc : Cap s B.length) (hm : tabO ∈ G ++ F) (ho : Own h (G ++ F)) (hn : 2000 ≤ n) :
    ∃ h', f_home_Decode n s k h = some ((.agg ⟨iz .u8 (decV k B)⟩, decE k B, ()), h') ∧ Own h' (G ++ F) := by
  have o1 := ho.new (.cells z32' false 0)
  generalize hbv : h.next = bv at o1
  generalize hh0 : h.new (.cells z32' false 0) = h0 at o1
  have fz : fillL z32' [] = some z32' := rfl
  have put : ∀ {hh : Heap} {X : Ch} {xs : List Value} (L : List Int), L.length = 32 → xs.length = 32 → Own hh ((bv, .cells xs false 0) :: X) →
      ∃ h', stB 32 (.agg ⟨iz .u8 L⟩) hh (some ⟨bv, 0, none⟩) = some h' ∧ ldA 32 h' (some ⟨bv, 0, none⟩) = some (iz .u8 L) ∧ Own h' X := by
    intro hh X xs L hL hxs o
    have hl : (iz .u8 L).length = 32 := by simp [iz, hL]
    have hw : writeAt xs 0 (iz .u8 L) = iz .u8 L := by rw [writeAt_eq _ _ _ (by omega)]; simp [List.drop_eq_nil_of_le, hl, hxs]
    have o' := o.put (.cells (iz .u8 L) false 0)
    refine ⟨_, by rw [stBA_of o.head hl iz_cell (by omega), hw], ?_, o'.tail⟩
    rw [ldA_of o'.head (by rw [hl]; exact Nat.le_refl _), List.drop_zero, List.take_of_length_le (by omega)]
  by_cases hl : B.length = 64
  · have rs : Rds h0 1 s 64 (iz .u8 B) := by rw [← hl]; exact hs h0 fun x hx => o1.get x (by simp [hx])
    rw [hl] at hc
    obtain ⟨s', q, a1, a2, a3⟩ := mid_ok rs hc
    have hml := midV_len hl
    have hmb := midV_byt hB
    have o2 := o1.new (.cells z32' false 0)
    generalize hbw : h0.next = bw at o2
    generalize hh1 : h0.new (.cells z32' false 0) = ha at o2
    have hlm : (iz .u8 (midV B)).length = 32 := by simp [iz, hml]
    have hw : writeAt z32' 0 (iz .u8 (midV B)) = iz .u8 (midV B) := by rw [writeAt_eq _ _ _ (by rw [hlm]; decide)]; simp [List.drop_eq_nil_of_le, hlm]
    have st : stB 32 (.agg ⟨iz .u8 (midV B)⟩) ha (some ⟨bw, 0, none⟩) = some (ha.put bw (.cells (iz .u8 (midV B)) false 0)) := by rw [stBA_of o2.head hlm iz_cell (by decide), hw]
    have o3 := o2.put (.cells (iz .u8 (midV B)) false 0)
    generalize hhb : ha.put bw (.cells (iz .u8 (midV B)) false 0) = hbb at o3 st
    have ldw : ∀ {hh : Heap}, hh.get bw = some (.cells (iz .u8 (midV B)) false 0) → ldA 32 hh (some ⟨bw, 0, none⟩) = some (iz .u8 (midV B)) := by
      intro hh hg
      rw [ldA_of hg (by rw [hlm]; exact Nat.le_refl _), List.drop_zero, List.take_of_length_le (by omega)]
    obtain ⟨s15, hcc, A15, e15, l15, o4⟩ := encode_ok (n := n) (k := k) (V := midV B) h1 h2 hml hmb (h := hbb) (F := (bw, .cells (iz .u8 (midV B)) false 0) :: (bv, .cells z32' false 0) :: (G ++ F)) (List.mem_cons_of_mem _ (List.mem_cons_of_mem _ hm)) (o3.to fun x => by simp only [cnt_append, cnt_cons, cnt_nil]; omega) hn
    have rs2 : Rds hcc 1 s 64 (iz .u8 B) := by rw [← hl]; exact hs hcc fun x hx => o4.get x (by simp [hx])
    have r15 : Rds hcc 1 s15 64 (iz .u8 (enc k (midV B))) := l15.rds o4
    obtain ⟨q1, b1, b2⟩ := arr_of r15 (j := 64) (by decide) (by decide)
    obtain ⟨q2, c1, c2⟩ := arr_of rs2 (j := 64) (by decide) (by decide)
    rw [List.take_of_length_le (by simp [iz, enc_len hml])] at b2
    rw [List.take_of_length_le (by simp [iz, hl])] at c2
    have eq := eq_ok (h := hcc) (A := enc k (midV B)) (B := B) (m := 64) (enc_len hml) hl
    have hlen : lenB s = some 64 := rs.lenB
    by_cases he : enc k (midV B) = B
    · have hE : decE k B = 0 := by unfold decE; rw [if_pos hl, if_pos he]
      have hV : decV k B = midV B := by unfold decV; rw [if_pos hE]
      obtain ⟨h', d1, d2, o5⟩ := put (hh := hcc) (X := G ++ F) (xs := z32') (midV B) hml rfl (o4.to fun x => by simp only [cnt_append, cnt_cons, cnt_nil]; omega)
      refine ⟨h', ?_, o5⟩
      rw [hE, hV]
      have eq : eqVals hcc (.agg (List.replicate 64 false)) (.agg ⟨iz .u8 B⟩) (.agg ⟨iz .u8 B⟩) = some true := by rw [he] at eq; simpa using eq
      have lw := ldw (hh := hcc) (o4.get (bw, _) (by simp))
      simp only [f_home_Decode, bnd_eq, hh0, f_home_block, h1, decide_true, cond_true, h2, Option.bind_some, Bool.not_true, cond_false, hlen, show ((64 : Nat) : Int) = 64 from rfl, a1, a2, a3, hh1, nwA_eq, hbw, st, ldw o3.head, e15, b1, b2, c1, c2, eq, he, lw, hbv, d1, d2]
    · have hE : decE k B = 80 := by unfold decE; rw [if_pos hl, if_neg he]
      have hV : decV k B = List.replicate 32 0 := by unfold decV; rw [hE]; rfl
      obtain ⟨h', d1, d2, o5⟩ := put (hh := hcc) (X := G ++ F) (xs := z32') (List.replicate 32 0) (by simp) rfl (o4.to fun x => by simp only [cnt_append, cnt_cons, cnt_nil]; omega)
      rw [← z32_iz] at d1 d2
      refine ⟨h', ?_, o5⟩
      rw [hE, hV, ← z32_iz]
      simp only [f_home_Decode, bnd_eq, hh0, f_home_block, h1, decide_true, cond_true, h2, Option.bind_some, Bool.not_true, cond_false, hlen, show ((64 : Nat) : Int) = 64 from rfl, a1, a2, a3, hh1, nwA_eq, hbw, st, ldw o3.head, e15, b1, b2, c1, c2, eq, he, decide_false, Bool.not_false, hbv, fz, d1, d2]
  · have hE : decE k B = 2 := by unfold decE; rw [if_neg hl]
    have hV : decV k B = List.replicate 32 0 := by unfold decV; rw [hE]; rfl
    obtain ⟨h', d1, d2, o5⟩ := put (hh := h0) (X := G ++ F) (xs := z32') (List.replicate 32 0) (by simp) rfl o1
    rw [← z32_iz] at d1 d2
    have rs : Rds h0 1 s B.length (iz .u8 B) := hs h0 fun x hx => o1.get x (by simp [hx])
    refine ⟨h', ?_, o5⟩
    rw [hE, hV, ← z32_iz]
    have hne : ¬ ((B.length : Int) = 64) := by omega
    simp only [f_home_Decode, bnd_eq, hh0, f_home_block, h1, decide_true, cond_true, h2, Option.bind_some, Bool.not_true, cond_false, rs.lenB, hne, decide_false, Bool.not_false, nwA_eq, hbv, fz, d1, d2]
end
end Go.Proofs.YtllggdpfdoaigaaDoor

/- HomeBack. -/
namespace Go.Proofs.YtllggdpfdoaigaaDoor
open Go
set_option linter.unusedVariables false
set_option linter.unusedSimpArgs false

theorem idx64 (y : Int) : ∃ k : Nat, k < 64 ∧ Int.tmod (IntKind.i64.wrap (Int.tmod y 64 + 64)) 64 = (k : Int) := by
  have g1 := Int.tmod_lt_of_pos y (b := 64) (by omega)
  have g2 := Int.lt_tmod_of_pos y (b := 64) (by omega)
  rw [wrap_i64 (by omega) (by omega)]
  have g3 := Int.tmod_lt_of_pos (y.tmod 64 + 64) (b := 64) (by omega)
  have g4 := Int.tmod_nonneg (a := y.tmod 64 + 64) 64 (by omega)
  exact ⟨((y.tmod 64 + 64).tmod 64).toNat, by omega, by omega⟩

section
variable {n : Nat} {h : Heap} {F G : Ch} {s u3 : Value} {L V B : List Int} {k m : Int}

theorem mid_enc (hV : V.length = 32) : midV (enc k V) = V := by
  have e : enc k V = ([72, 79, 77, 69, 1, k] ++ List.replicate 22 0) ++ (V ++ le (crc (encH k V)) 4) := by simp [enc, encH]
  rw [midV, e, List.drop_append_of_le_length (by simp), List.drop_of_length_le (by simp), List.nil_append, List.take_append_of_le_length (by omega), List.take_of_length_le (by omega)]
theorem enc_inj (h : enc m V = enc k V) : m = k := by
  have : (enc m V)[5]? = (enc k V)[5]? := by rw [h]
  simpa [enc, encH] using this
theorem dec_self (hV : V.length = 32) : decE k (enc k V) = 0 ∧ decV k (enc k V) = V := by
  have h1 : decE k (enc k V) = 0 := by unfold decE; rw [if_pos (enc_len hV), mid_enc hV, if_pos rfl]
  exact ⟨h1, by unfold decV; rw [if_pos h1, mid_enc hV]⟩
theorem dec_other (hV : V.length = 32) : decE m (enc k V) = if m = k then 0 else 80 := by
  unfold decE; rw [if_pos (enc_len hV), mid_enc hV]
  by_cases h : m = k
  · subst h; simp
  · rw [if_neg h, if_neg fun e => h (enc_inj e)]

abbrev tabP : Nat × AObj := (1, .cells tab1.cells true 0)
theorem awake_ok (h0 : h.get 0 = some (.cells tab0.cells true 0)) (h1 : h.get 1 = some (.cells tab1.cells true 0)) : f_wicketlaw08_awake n h = some ((true, ()), h) := by
  have h0 : hasTab h tab0 = true := hasTab_of h0
  have h1 : hasTab h tab1 = true := hasTab_of h1
  simp [f_wicketlaw08_awake, yesTB, tabsL, h0, h1]

theorem str_eq2 {a b : ByteArray} (e : a = b) : binsT .bool h .eql (.string a) (.string b) = some true := by
  subst e
  simp [binsT, binsK, strOp, Ty.prj]

/-- An array in a place of its own. -/
theorem arr_tmp {L : List Int} (ho : Own h F) (hL : L.length = 32) : ∃ h', stB 32 (.agg ⟨iz .u8 L⟩) (h.new (.cells z32' false 0)) (some ⟨h.next, 0, none⟩) = some h' ∧ Own h' ((h.next, .cells (iz .u8 L) false 0) :: F) := by
  have o1 := ho.new (.cells z32' false 0)
  have hl : (iz .u8 L).length = 32 := by simp [iz, hL]
  have hw : writeAt z32' 0 (iz .u8 L) = iz .u8 L := by rw [writeAt_eq _ _ _ (by rw [hl]; decide)]; simp [List.drop_eq_nil_of_le, hl]
  exact ⟨_, by rw [stBA_of o1.head hl iz_cell (by decide), hw], o1.put _⟩
theorem arr_ld {b : Nat} {L : List Int} {ro : Bool} (hg : h.get b = some (.cells (iz .u8 L) ro 0)) (hL : L.length = 32) : ldA 32 h (some ⟨b, 0, none⟩) = some (iz .u8 L) := by
  have hl : (iz .u8 L).length = 32 := by simp [iz, hL]
  rw [ldA_of hg (by rw [hl]; exact Nat.le_refl _), List.drop_zero, List.take_of_length_le (by omega)]

end
end Go.Proofs.YtllggdpfdoaigaaDoor

