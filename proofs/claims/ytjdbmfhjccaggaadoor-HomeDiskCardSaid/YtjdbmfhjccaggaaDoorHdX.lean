import Derived.Test.YtjdbmfhjccaggaaDoorLHomeDisk
import Derived.Test.YtjdbmfhjccaggaaDoorS58
import Derived.Test.YtjdbmfhjccaggaaDoorAgZ
/- HdA: put together from HoAll. -/
namespace Go.Proofs.YtjdbmfhjccaggaaDoor
open Go
set_option linter.unusedVariables false
set_option linter.unusedSimpArgs false
/- ==== from HoAll -/
def tabN : List Nat := [0, 498536548, 997073096, 651767980, 1994146192, 1802195444, 1303535960, 1342533948, 3988292384, 4027552580, 3604390888, 3412177804, 2607071920, 2262029012, 2685067896, 3183342108]
def hf (x : Nat) : Nat := tabN.getD (x % 16) 0 ^^^ (x / 16)
def psh (x c : Nat) : Nat := hf (hf (x ^^^ c))
def crcs (L : List Int) (x : Nat) : Nat := L.foldl (fun x z => psh x z.toNat) x
def crc (L : List Int) : Nat := 4294967295 ^^^ crcs L 4294967295
def Byt (L : List Int) : Prop := ∀ z ∈ L, 0 ≤ z ∧ z < 256
theorem wrap_u32 {x : Int} (h1 : 0 ≤ x) (h2 : x < 4294967296) : IntKind.u32.wrap x = x := by
  have : x % 4294967296 = x := Int.emod_eq_of_lt h1 h2
  simpa [IntKind.wrap, IntKind.signed, IntKind.bits] using this
theorem xor_b {a b : Nat} (ha : a < 4294967296) (hb : b < 4294967296) : bitB .xor .u32 (a : Int) .u32 (b : Int) = some ((a ^^^ b : Nat) : Int) := by
  have h1 : a ^^^ b < 2 ^ 32 := Nat.xor_lt_two_pow (n := 32) ha hb
  have e1 : ((a : Int) % 2 ^ 32).toNat = a := by omega
  have e2 : ((b : Int) % 2 ^ 32).toNat = b := by omega
  have e : bitB .xor .u32 (a : Int) .u32 (b : Int) = some (IntKind.u32.wrap (((((a : Int) % 2 ^ 32).toNat ^^^ ((b : Int) % 2 ^ 32).toNat : Nat)) : Int)) := rfl
  rw [e, e1, e2, wrap_u32 (by omega) (by omega)]
theorem and_b {a : Nat} (ha : a < 4294967296) : bitB .and .u32 (a : Int) .u32 15 = some ((a % 16 : Nat) : Int) := by
  have e1 : ((a : Int) % 2 ^ 32).toNat = a := by omega
  have e2 : a &&& 15 = a % 16 := Nat.and_two_pow_sub_one_eq_mod a 4
  have e : bitB .and .u32 (a : Int) .u32 15 = some (IntKind.u32.wrap (((((a : Int) % 2 ^ 32).toNat &&& ((15 : Int) % 2 ^ 32).toNat : Nat)) : Int)) := rfl
  have e3 : ((15 : Int) % 2 ^ 32).toNat = 15 := by decide
  rw [e, e1, e3, e2, wrap_u32 (by omega) (by omega)]
theorem shr_b {a : Nat} : bitB .shr .u32 (a : Int) .u64 4 = some ((a / 16 : Nat) : Int) := by
  have e : bitB .shr .u32 (a : Int) .u64 4 = some ((a : Int).fdiv (2 ^ (min 4 32))) := rfl
  rw [e, Int.fdiv_eq_ediv_of_nonneg _ (by decide)]
  rfl
theorem not_b {a : Nat} (ha : a < 4294967296) : unB .xor .u32 (a : Int) = some ((4294967295 ^^^ a : Nat) : Int) := by
  have e : unB .xor .u32 (a : Int) = bitB .xor .u32 ((4294967295 : Nat) : Int) .u32 (a : Int) := rfl
  rw [e, xor_b (by decide) ha]
theorem tab_lt : ∀ i : Nat, tabN.getD i 0 < 4294967296 := by
  intro i
  by_cases hi : i < 16
  · have : ∀ j : Fin 16, tabN.getD j.1 0 < 4294967296 := by decide
    exact this ⟨i, hi⟩
  · rw [List.getD_eq_getElem?_getD, List.getElem?_eq_none (by simp [tabN]; omega)]; decide
theorem hf_lt {x : Nat} (hx : x < 4294967296) : hf x < 4294967296 := by
  have h2 : x / 16 < 2 ^ 32 := by omega
  exact Nat.xor_lt_two_pow (n := 32) (tab_lt _) h2
theorem psh_lt {x c : Nat} (hx : x < 4294967296) (hc : c < 256) : psh x c < 4294967296 := hf_lt (hf_lt (Nat.xor_lt_two_pow (n := 32) hx (by omega)))
theorem crcs_lt : ∀ {L : List Int} {x : Nat}, Byt L → x < 4294967296 → crcs L x < 4294967296 := by
  intro L
  induction L with
  | nil => intro x _ hx; exact hx
  | cons z L ih =>
    intro x hL hx
    have hz := hL z (List.mem_cons_self ..)
    exact ih (fun y hy => hL y (List.mem_cons_of_mem _ hy)) (psh_lt hx (by omega))
theorem crcs_append {A B : List Int} {x : Nat} : crcs (A ++ B) x = crcs B (crcs A x) := by simp [crcs]
section
variable {n : Nat} {h : Heap} {F G : Ch} {s u : Value} {L : List Int}
theorem tab_ld (hg : h.get 1 = some (.cells tab0.cells true 0)) {i : Nat} (hi : i < 16) : ixA 16 1 (some ⟨1, 0, none⟩) (i : Int) = some ⟨1, i, none⟩ ∧ ldT (.int .u32) h (some ⟨1, i, none⟩) = some ((tabN.getD i 0 : Nat) : Int) := by
  constructor
  · show (bif Nat.blt i 16 then _ else none) = _
    rw [show Nat.blt i 16 = true from Nat.ble_eq_true_of_le hi]; simp
  · rw [ldT_of hg]
    have : ∀ j : Fin 16, ((tab0.cells)[j.1]?).bind (Ty.int .u32).prj = some ((tabN.getD j.1 0 : Nat) : Int) := by decide
    exact this ⟨i, hi⟩
theorem push_ok (hg : h.get 1 = some (.cells tab0.cells true 0)) {x c : Nat} (hx : x < 4294967296) (hc : c < 256) : f_sum_push n (x : Int) (c : Int) h = some ((((psh x c : Nat) : Int), ()), h) := by
  have w1 : IntKind.u32.wrap (c : Int) = (c : Int) := by
    have : (c : Int) % 4294967296 = c := Int.emod_eq_of_lt (by omega) (by omega)
    simpa [IntKind.wrap, IntKind.signed, IntKind.bits] using this
  have l1 : x ^^^ c < 4294967296 := Nat.xor_lt_two_pow (n := 32) hx (by omega)
  obtain ⟨a1, a2⟩ := tab_ld hg (i := (x ^^^ c) % 16) (Nat.mod_lt _ (by decide))
  have l2 := hf_lt l1
  obtain ⟨b1, b2⟩ := tab_ld hg (i := hf (x ^^^ c) % 16) (Nat.mod_lt _ (by decide))
  have x1 := xor_b (tab_lt ((x ^^^ c) % 16)) (show (x ^^^ c) / 16 < 4294967296 by omega)
  have x2 := xor_b (tab_lt (hf (x ^^^ c) % 16)) (show hf (x ^^^ c) / 16 < 4294967296 by omega)
  have e1 : tabN.getD ((x ^^^ c) % 16) 0 ^^^ (x ^^^ c) / 16 = hf (x ^^^ c) := rfl
  have e2 : tabN.getD (hf (x ^^^ c) % 16) 0 ^^^ hf (x ^^^ c) / 16 = psh x c := rfl
  rw [e1] at x1
  rw [e2] at x2
  simp only [f_sum_push, w1, xor_b hx (show c < 4294967296 by omega), Option.bind_some, and_b l1, a1, a2, shr_b, x1, and_b l2, b1, b2, x2]
theorem of_ok {F : Ch} (hg : h.get 1 = some (.cells tab0.cells true 0)) (hL : Byt L) (hs : Sow 1 s L.length (iz .u8 L) G) (hu : Sow 1 u 1 [s] G) (ho : Own h (G ++ F)) (hlen : L.length ≤ 1000) (hn : 2000 ≤ n) :
    f_sum_Of n u h = some ((((crc L : Nat) : Int), ()), h) := by
  have rs : Rds h 1 s L.length (iz .u8 L) := hs.rds ho
  have ru : Rds h 1 u 1 [s] := hu.rds ho
  obtain ⟨a, a1, a2⟩ := ru.ix 0 (by decide)
  have a1 : ixB 1 u 0 = some a := a1
  have lda : ldT .any h (some a) = some s := by rw [a2.ldT0 (v := s) (by simp)]; rfl
  have hbt : ∀ j, Byt (L.take j) := fun j z hz => hL z (List.mem_of_mem_take hz)
  obtain ⟨r, e1, rfl⟩ := loopT_up (f := fun a : (Int × Int × Unit) × Heap => f_sum_Of_L13 n s L.length a.1.1 a.1.2.1 a.2)
    (I := fun j a => a = ((((crcs (L.take j) 4294967295 : Nat) : Int), (j : Int), ()), h)) (Q := fun r => r = ((((crcs L 4294967295 : Nat) : Int), ()), h)) (N := L.length) (k := n) (j := 0) (a := ((4294967295, 0, ()), h)) (by omega) (Nat.zero_le _) rfl (by
      rintro j a hj rfl
      obtain ⟨q, b1, b2⟩ := rs.int (L := L) hj
      have hz := hL _ (List.getElem_mem hj)
      obtain ⟨c, hc⟩ : ∃ c : Nat, L[j] = (c : Int) := ⟨L[j].toNat, by omega⟩
      rw [hc] at b2
      have e := push_ok (n := n) hg (x := crcs (L.take j) 4294967295) (c := c) (crcs_lt (hbt j) (by decide)) (by omega)
      have hcs : crcs (L.take (j + 1)) 4294967295 = psh (crcs (L.take j) 4294967295) c := by rw [take_snoc hj, crcs_append, hc]; rfl
      have hlt : (j : Int) < (L.length : Int) := by omega
      refine .inl ⟨_, ?_, rfl⟩
      simp only [f_sum_Of_L13, hlt, decide_true, cond_true, b1, b2, Option.bind_some, e, wrap_succ (j := j) (by omega), hcs]) (by
      rintro a rfl
      exact ⟨_, by simp [f_sum_Of_L13], rfl⟩)
  have e1' : loopT (fun a : (Int × Int × Unit) × Heap => f_sum_Of_L13 n s L.length a.1.1 a.1.2.1 a.2) n ((4294967295, 0, ()), h) = some ((((crcs L 4294967295 : Nat) : Int), ()), h) := e1
  obtain ⟨m, rfl⟩ : ∃ m, n = m + 2 := ⟨n - 2, by omega⟩
  have hw : IntKind.i64.wrap (0 + 1) = 1 := by decide
  have st1 : f_sum_Of_L15 (m + 2) u 1 4294967295 0 h = some (.inl ((((crcs L 4294967295 : Nat) : Int), (1, ())), h)) := by
    have : (0 : Int) < ((1 : Nat) : Int) := by omega
    simp only [f_sum_Of_L15, this, decide_true, cond_true, a1, lda, Option.bind_some, rs.lenB, e1', hw]
  have st2 : f_sum_Of_L15 (m + 2) u 1 ((crcs L 4294967295 : Nat) : Int) 1 h = some (.inr ((((crcs L 4294967295 : Nat) : Int), ()), h)) := by
    simp [f_sum_Of_L15]
  have hx := not_b (crcs_lt (x := 4294967295) hL (by decide))
  simp only [f_sum_Of, ru.lenB, Option.bind_some, loopT, st1, st2, hx]
  rfl
end
end Go.Proofs.YtjdbmfhjccaggaaDoor
/- Homes: parts side by side, numbers as bytes. -/
namespace Go.Proofs.YtjdbmfhjccaggaaDoor
set_option linter.unusedVariables false
set_option linter.unusedSimpArgs false
section
variable {n : Nat} {h : Heap} {F G : Ch} {s u : Value} {L : List Int}
theorem join_ok {P : List (Value × List Int)} (hu : Sow 1 u P.length (P.map (·.1)) G) (hp : ∀ x ∈ P, Sow 1 x.1 x.2.length (iz .u8 x.2) G) (ho : Own h (G ++ F)) (hlen : (P.flatMap (·.2)).length ≤ 1000000) (hP : P.length ≤ 10) (hn : 2000 ≤ n) :
    ∃ s h' A, f_octet_Join n u h = some ((s, ()), h') ∧ Slc 1 s (P.flatMap (·.2)).length (iz .u8 (P.flatMap (·.2))) A ∧ Own h' (A ++ (G ++ F)) := by
  have ru : Rds h 1 u P.length (P.map (·.1)) := hu.rds ho
  obtain ⟨⟨⟨s, _⟩, h'⟩, e1, A, g1, g2⟩ := loopT_up (f := fun a : (Value × Int × Unit) × Heap => f_octet_Join_L7 n u P.length a.1.1 a.1.2.1 a.2)
    (I := fun j a => a.1.2.1 = (j : Int) ∧ ∃ A, Slc 1 a.1.1 ((P.take j).flatMap (·.2)).length (iz .u8 ((P.take j).flatMap (·.2))) A ∧ Own a.2 (A ++ (G ++ F)))
    (Q := fun r => ∃ A, Slc 1 r.1.1 (P.flatMap (·.2)).length (iz .u8 (P.flatMap (·.2))) A ∧ Own r.2 (A ++ (G ++ F))) (N := P.length) (k := n) (j := 0) (a := ((.slice none 0 0, 0, ()), h)) (by omega) (Nat.zero_le _) ⟨rfl, [], .nil, ho⟩ (by
      rintro j ⟨⟨v, z, _⟩, hh⟩ hj ⟨rfl, A, l1, ow⟩
      have ow : Own hh (A ++ (G ++ F)) := ow
      have ru : Rds hh 1 u P.length (P.map (·.1)) := hu hh fun x hx => ow.get x (by simp [hx])
      obtain ⟨a, a1, a2⟩ := ru.ix j hj
      have lda : ldT .any hh (some a) = some P[j].1 := by
        rw [a2.ldT0 (v := P[j].1) (by rw [Nat.mul_one, List.getElem?_take, if_pos (by omega), List.getElem?_drop, Nat.add_zero, List.getElem?_map, List.getElem?_eq_getElem hj]; rfl)]; rfl
      have hfl : (P.take (j + 1)).flatMap (·.2) = (P.take j).flatMap (·.2) ++ P[j].2 := by rw [take_snoc hj, List.flatMap_append]; simp
      have hle : ((P.take (j + 1)).flatMap (·.2)).length ≤ (P.flatMap (·.2)).length := by
        conv => rhs; rw [← List.take_append_drop (j + 1) P, List.flatMap_append, List.length_append]
        omega
      rw [hfl, List.length_append] at hle
      obtain ⟨s', h2, A2, e2, l2, o2⟩ := (hp _ (List.getElem_mem hj)).app l1 ow (by decide) (bytes := 1) (by omega)
      have hlt : (j : Int) < (P.length : Int) := by omega
      refine .inl ⟨((s', ((j + 1 : Nat) : Int), ()), h2), ?_, rfl, A2, ?_, o2⟩
      · simp only [f_octet_Join_L7, hlt, decide_true, cond_true, a1, lda, Option.bind_some, e2, wrap_succ (j := j) (by omega)]
      · rw [hfl, List.length_append, iz_append]; exact l2) (by
      rintro ⟨⟨v, z, _⟩, hh⟩ ⟨rfl, A, l1, ow⟩
      rw [List.take_length] at l1
      refine ⟨((v, ()), hh), ?_, A, l1, ow⟩
      have : isTuple v = false := l1.notT
      simp [f_octet_Join_L7, this])
  exact ⟨s, h', A, by simp only [f_octet_Join, ru.lenB, Option.bind_some]; exact e1, g1, g2⟩
def le : Nat → Nat → List Int
  | _, 0 => []
  | x, j + 1 => ((x % 256 : Nat) : Int) :: le (x / 256) j
theorem le_len : ∀ {j x : Nat}, (le x j).length = j := by
  intro j
  induction j with
  | zero => intro x; rfl
  | succ j ih => intro x; simp [le, ih]
theorem le_byt : ∀ {j x : Nat}, Byt (le x j) := by
  intro j
  induction j with
  | zero => intro x z hz; cases hz
  | succ j ih =>
    intro x z hz
    rcases List.mem_cons.1 hz with rfl | hz
    · omega
    · exact ih z hz
theorem le_get : ∀ {j x i : Nat}, i < j → (le x j)[i]? = some ((x / 256 ^ i % 256 : Nat) : Int) := by
  intro j
  induction j with
  | zero => intro x i hi; omega
  | succ j ih =>
    intro x i hi
    cases i with
    | zero => simp [le]
    | succ i =>
      simp only [le, List.getElem?_cons_succ]
      rw [ih (by omega), Nat.div_div_eq_div_mul, Nat.pow_succ, Nat.mul_comm]
theorem shr8_b {a : Nat} : bitB .shr .u64 (a : Int) .u64 8 = some ((a / 256 : Nat) : Int) := by
  have e : bitB .shr .u64 (a : Int) .u64 8 = some ((a : Int).fdiv (2 ^ (min 8 64))) := rfl
  rw [e, Int.fdiv_eq_ediv_of_nonneg _ (by decide)]
  rfl
theorem wrap_u8 {x : Nat} : IntKind.u8.wrap (x : Int) = ((x % 256 : Nat) : Int) := by
  have : IntKind.u8.wrap (x : Int) = (x : Int) % 256 := by simp [IntKind.wrap, IntKind.signed, IntKind.bits]
  rw [this]; omega
theorem oput_ok {x : Nat} (hx : x < 4294967296) (ho : Own h F) (hn : 2000 ≤ n) : ∃ s h' A, f_octet_Put n (x : Int) 4 h = some ((s, 0, ()), h') ∧ Slc 1 s 4 (iz .u8 (le x 4)) A ∧ Own h' (A ++ F) := by
  have m1 := mkSl_of (nx := h.next) (bytes := 1) (es := 1) (zs := [.int .u8 0]) (k := .i64) (k' := .i64) (l := 4) (c := 4) (by decide) (by decide) (by decide)
  have o1 := ho.new (.cells ((List.replicate 4 [Value.int .u8 0]).flatten) false 1)
  generalize hb : h.next = b at m1 o1
  generalize hh1 : h.new (.cells ((List.replicate 4 [Value.int .u8 0]).flatten) false 1) = h1 at o1
  have l0 : Slc 1 (.slice (some ⟨b, 0, some 0⟩) 4 4) 4 (iz .u8 [0, 0, 0, 0]) [(b, .cells ([] ++ (iz .u8 [0, 0, 0, 0] ++ [])) false 1)] := .mk rfl rfl rfl
  have o1 : Own h1 ([(b, .cells ([] ++ (iz .u8 [0, 0, 0, 0] ++ [])) false 1)] ++ F) := o1
  obtain ⟨q0, h2, A2, a1, a2, a3, o2⟩ := slc_set1 l0 o1 (i := 0) (by decide) (v := .int .u8 ((x % 256 : Nat) : Int)) rfl rfl
  obtain ⟨q1, h3, A3, b1, b2, b3, o3⟩ := slc_set1 a3 o2 (i := 1) (by decide) (v := .int .u8 ((x / 256 % 256 : Nat) : Int)) rfl rfl
  obtain ⟨q2, h4, A4, c1, c2, c3, o4⟩ := slc_set1 b3 o3 (i := 2) (by decide) (v := .int .u8 ((x / 256 / 256 % 256 : Nat) : Int)) rfl rfl
  obtain ⟨q3, h5, A5, d1, d2, d3, o5⟩ := slc_set1 c3 o4 (i := 3) (by decide) (v := .int .u8 ((x / 256 / 256 / 256 % 256 : Nat) : Int)) rfl rfl
  refine ⟨_, h5, A5, ?_, d3, o5⟩
  obtain ⟨m, rfl⟩ : ∃ m, n = m + 6 := ⟨n - 6, by omega⟩
  have m1' : mkSl b 1 1 [.int .u8 0] (.int .i64 4) (.int .i64 4) = some (.slice (some ⟨b, 0, some 0⟩) 4 4, .cells ((List.replicate 4 [Value.int .u8 0]).flatten) false 1) := m1
  have a1 : ixB 1 (.slice (some ⟨b, 0, some 0⟩) 4 4) 0 = some q0 := a1
  have b1 : ixB 1 (.slice (some ⟨b, 0, some 0⟩) 4 4) 1 = some q1 := b1
  have c1 : ixB 1 (.slice (some ⟨b, 0, some 0⟩) 4 4) 2 = some q2 := c1
  have d1 : ixB 1 (.slice (some ⟨b, 0, some 0⟩) 4 4) 3 = some q3 := d1
  have s0 : f_octet_Put_L10 (m + 6) (.slice (some ⟨b, 0, some 0⟩) 4 4, .cells ((List.replicate 4 [Value.int .u8 0]).flatten) false 1) 4 (x : Int) 0 h1 = some (.inl ((((x / 256 : Nat) : Int), (1, ())), h2)) := by
    have h0 : (0 : Int) < ((4 : Nat) : Int) := by omega
    have w : IntKind.i64.wrap (0 + 1) = 1 := by decide
    simp only [f_octet_Put_L10, h0, decide_true, cond_true, a1, Option.bind_some, wrap_u8, a2, shr8_b, w]
  have s1 : f_octet_Put_L10 (m + 6) (.slice (some ⟨b, 0, some 0⟩) 4 4, .cells ((List.replicate 4 [Value.int .u8 0]).flatten) false 1) 4 ((x / 256 : Nat) : Int) 1 h2 = some (.inl ((((x / 256 / 256 : Nat) : Int), (2, ())), h3)) := by
    have h0 : (1 : Int) < ((4 : Nat) : Int) := by omega
    have w : IntKind.i64.wrap (1 + 1) = 2 := by decide
    simp only [f_octet_Put_L10, h0, decide_true, cond_true, b1, Option.bind_some, wrap_u8, b2, shr8_b, w]
  have s2 : f_octet_Put_L10 (m + 6) (.slice (some ⟨b, 0, some 0⟩) 4 4, .cells ((List.replicate 4 [Value.int .u8 0]).flatten) false 1) 4 ((x / 256 / 256 : Nat) : Int) 2 h3 = some (.inl ((((x / 256 / 256 / 256 : Nat) : Int), (3, ())), h4)) := by
    have h0 : (2 : Int) < ((4 : Nat) : Int) := by omega
    have w : IntKind.i64.wrap (2 + 1) = 3 := by decide
    simp only [f_octet_Put_L10, h0, decide_true, cond_true, c1, Option.bind_some, wrap_u8, c2, shr8_b, w]
  have s3 : f_octet_Put_L10 (m + 6) (.slice (some ⟨b, 0, some 0⟩) 4 4, .cells ((List.replicate 4 [Value.int .u8 0]).flatten) false 1) 4 ((x / 256 / 256 / 256 : Nat) : Int) 3 h4 = some (.inl ((((x / 256 / 256 / 256 / 256 : Nat) : Int), (4, ())), h5)) := by
    have h0 : (3 : Int) < ((4 : Nat) : Int) := by omega
    have w : IntKind.i64.wrap (3 + 1) = 4 := by decide
    simp only [f_octet_Put_L10, h0, decide_true, cond_true, d1, Option.bind_some, wrap_u8, d2, shr8_b, w]
  have hz : x / 256 / 256 / 256 / 256 = 0 := by omega
  rw [hz] at s3
  have s4 : f_octet_Put_L10 (m + 6) (.slice (some ⟨b, 0, some 0⟩) 4 4, .cells ((List.replicate 4 [Value.int .u8 0]).flatten) false 1) 4 ((0 : Nat) : Int) 4 h5 = some (.inr ((0, ()), h5)) := by
    simp [f_octet_Put_L10]
  have g1 : (1 : Int) ≤ 4 := by decide
  have g2 : (4 : Int) ≤ 8 := by decide
  have hl : lenB (.slice (some ⟨b, 0, some 0⟩) 4 4) = some 4 := rfl
  have ht : isTuple (.slice (some ⟨b, 0, some 0⟩) 4 4) = false := rfl
  simp only [f_octet_Put, f_octet_may, g1, g2, decide_true, cond_true, Option.bind_some, Bool.not_true, cond_false, hb, m1', bnd_eq, hh1, hl, loopT, s0, s1, s2, s3, s4, ht, Bool.not_false]
end
end Go.Proofs.YtjdbmfhjccaggaaDoor
/- Homes: Encode. -/
namespace Go.Proofs.YtjdbmfhjccaggaaDoor
set_option linter.unusedVariables false
set_option linter.unusedSimpArgs false
def encH (k : Int) (V : List Int) : List Int := [72, 79, 77, 69, 1, k] ++ (List.replicate 22 0 ++ V)
def enc (k : Int) (V : List Int) : List Int := encH k V ++ le (crc (encH k V)) 4
section
variable {n : Nat} {h : Heap} {F G : Ch} {s u : Value} {L V : List Int} {k : Int}
theorem encH_len (hV : V.length = 32) : (encH k V).length = 60 := by simp [encH, hV]
theorem enc_len (hV : V.length = 32) : (enc k V).length = 64 := by simp [enc, encH_len hV, le_len]
theorem encH_byt (h1 : 0 ≤ k) (h2 : k < 64) (hV : Byt V) : Byt (encH k V) := by
  intro z hz
  simp only [encH, List.mem_append, List.mem_cons, List.not_mem_nil, or_false, List.mem_replicate] at hz
  rcases hz with (rfl | rfl | rfl | rfl | rfl | rfl) | ⟨_, rfl⟩ | hz
  all_goals first | omega | exact hV z hz
theorem enc_byt (h1 : 0 ≤ k) (h2 : k < 64) (hV : Byt V) : Byt (enc k V) := by
  intro z hz
  rcases List.mem_append.1 hz with hz | hz
  · exact encH_byt h1 h2 hV z hz
  · exact le_byt z hz
theorem crc_lt (hL : Byt L) : crc L < 4294967296 := Nat.xor_lt_two_pow (n := 32) (by decide) (crcs_lt hL (by decide))
abbrev tabO : Nat × AObj := (1, .cells tab0.cells true 0)
theorem lits {b : Nat} {vs : List Value} : Sow 1 (.slice (some ⟨b, 0, some 0⟩) vs.length vs.length) vs.length vs [(b, .cells vs false 1)] := by
  have := (Slc.mk (es := 1) (b := b) (off := 0) (sp := some 0) (n := vs.length) (c := vs.length) (pre := []) (cs := vs) (rest := []) rfl (by simp) (by simp)).sow
  simpa using this
theorem encode_ok (h1 : 0 ≤ k) (h2 : k < 64) (hV : V.length = 32) (hb : Byt V) (hm : tabO ∈ F) (ho : Own h F) (hn : 2000 ≤ n) :
    ∃ s h' A, f_home_Encode n k (.agg ⟨iz .u8 V⟩) h = some ((s, 0, ()), h') ∧ Slc 1 s 64 (iz .u8 (enc k V)) A ∧ Own h' (A ++ F) := by
  have o1 := ho.new (.cells (iz .u8 V) false 0)
  generalize hb0 : h.next = b0 at o1
  generalize hh0 : h.new (.cells (iz .u8 V) false 0) = h0 at o1
  have o2 := o1.new (.cells (iz .u8 [72, 79, 77, 69]) false 1)
  generalize hb1 : h0.next = b1 at o2
  generalize hh1 : h0.new (.cells (iz .u8 [72, 79, 77, 69]) false 1) = ha at o2
  have mk : markSK ha (.slice (some ⟨b1, 0, some 0⟩) 4 4) = some (.slice (some ⟨b1, 0, some 0⟩) 4 4, ha.put b1 (.cells (iz .u8 [72, 79, 77, 69]) false 1)) := by
    simp only [markSK, o2.head]; rfl
  have o3 := o2.put (.cells (iz .u8 [72, 79, 77, 69]) false 1)
  generalize hhb : ha.put b1 (.cells (iz .u8 [72, 79, 77, 69]) false 1) = hbb at o3 mk
  have o4 := o3.new (.cells (iz .u8 [1, k]) false 1)
  generalize hb2 : hbb.next = b2 at o4
  generalize hhc : hbb.new (.cells (iz .u8 [1, k]) false 1) = hc at o4
  have o5 := o4.new (.cells [.slice (some ⟨b1, 0, some 0⟩) 4 4, .slice (some ⟨b2, 0, some 0⟩) 2 2] false 1)
  generalize hb3 : hc.next = b3 at o5
  generalize hhd : hc.new (.cells [.slice (some ⟨b1, 0, some 0⟩) 4 4, .slice (some ⟨b2, 0, some 0⟩) 2 2] false 1) = hd at o5
  have sl : ∀ (b : Nat) (L : List Int), Sow 1 (.slice (some ⟨b, 0, some 0⟩) L.length L.length) L.length (iz .u8 L) [(b, .cells (iz .u8 L) false 1)] := fun b L => by
    have := lits (b := b) (vs := iz .u8 L)
    simpa [iz] using this
  obtain ⟨s9, he, A9, e9, l9, o6⟩ := join_ok (n := n) (P := [(.slice (some ⟨b1, 0, some 0⟩) 4 4, [72, 79, 77, 69]), (.slice (some ⟨b2, 0, some 0⟩) 2 2, [1, k])]) (u := .slice (some ⟨b3, 0, some 0⟩) 2 2)
    (G := [(b3, .cells [.slice (some ⟨b1, 0, some 0⟩) 4 4, .slice (some ⟨b2, 0, some 0⟩) 2 2] false 1), (b2, .cells (iz .u8 [1, k]) false 1), (b1, .cells (iz .u8 [72, 79, 77, 69]) false 1)]) (h := hd) (F := (b0, .cells (iz .u8 V) false 0) :: F)
    ((lits (b := b3) (vs := [.slice (some ⟨b1, 0, some 0⟩) 4 4, .slice (some ⟨b2, 0, some 0⟩) 2 2])).mono fun x hx => by simp only [List.mem_singleton] at hx; subst hx; exact List.mem_cons_self ..) (by
      intro x hx
      simp only [List.mem_cons, List.not_mem_nil, or_false] at hx
      rcases hx with rfl | rfl
      · exact (sl b1 [72, 79, 77, 69]).mono (by simp)
      · exact (sl b2 [1, k]).mono (by simp)) o5 (by simp) (by simp) hn
  have hf9 : ([((.slice (some ⟨b1, 0, some 0⟩) 4 4 : Value), ([72, 79, 77, 69] : List Int)), (.slice (some ⟨b2, 0, some 0⟩) 2 2, [1, k])] : List (Value × List Int)).flatMap (·.2) = [72, 79, 77, 69, 1, k] := rfl
  rw [hf9] at l9
  have o7 : Own he (A9 ++ ((b0, .cells (iz .u8 V) false 0) :: F)) := o6.to fun x => by simp only [cnt_append, cnt_cons, cnt_nil]; omega
  have m1 := mkSl_of (nx := he.next) (bytes := 1) (es := 1) (zs := [.int .u8 0]) (k := .i64) (k' := .i64) (l := 22) (c := 22) (by decide) (by decide) (by decide)
  have o8 := o7.new (.cells (iz .u8 (List.replicate 22 0)) false 1)
  have hz22 : (List.replicate 22 [Value.int .u8 0]).flatten = iz .u8 (List.replicate 22 0) := rfl
  rw [hz22] at m1
  generalize hb4 : he.next = b4 at o8 m1
  generalize hhf : he.new (.cells (iz .u8 (List.replicate 22 0)) false 1) = hf at o8
  have ar : ∀ H : Heap, sliceArrK H 32 1 none none (.pointer (some ⟨b0, 0, none⟩)) = some (.slice (some ⟨b0, 0, some 0⟩) 32 32, H) := fun H => rfl
  have o9 := o8.new (.cells [s9, .slice (some ⟨b4, 0, some 0⟩) 22 22, .slice (some ⟨b0, 0, some 0⟩) 32 32] false 1)
  generalize hb5 : hf.next = b5 at o9
  generalize hhg : hf.new (.cells [s9, .slice (some ⟨b4, 0, some 0⟩) 22 22, .slice (some ⟨b0, 0, some 0⟩) 32 32] false 1) = hg at o9
  have sv : Sow 1 (.slice (some ⟨b0, 0, some 0⟩) 32 32) V.length (iz .u8 V) [(b0, .cells (iz .u8 V) false 0)] := by
    have := Sow.piece (b := b0) (off := 0) (sp := some 0) (n := 32) (c := 32) (cs := iz .u8 V) (ro := false) (e := 0) (by simp [iz, hV])
    rw [List.drop_zero, List.take_of_length_le (by simp [iz, hV])] at this
    rw [hV]; exact this
  obtain ⟨s16, hi, A16, e16, l16, o10⟩ := join_ok (n := n) (P := [(s9, [72, 79, 77, 69, 1, k]), (.slice (some ⟨b4, 0, some 0⟩) 22 22, List.replicate 22 0), (.slice (some ⟨b0, 0, some 0⟩) 32 32, V)]) (u := .slice (some ⟨b5, 0, some 0⟩) 3 3)
    (G := (b5, .cells [s9, .slice (some ⟨b4, 0, some 0⟩) 22 22, .slice (some ⟨b0, 0, some 0⟩) 32 32] false 1) :: (b4, .cells (iz .u8 (List.replicate 22 0)) false 1) :: (b0, .cells (iz .u8 V) false 0) :: A9) (h := hg) (F := F)
    ((lits (b := b5) (vs := [s9, .slice (some ⟨b4, 0, some 0⟩) 22 22, .slice (some ⟨b0, 0, some 0⟩) 32 32])).mono fun x hx => by simp only [List.mem_singleton] at hx; subst hx; exact List.mem_cons_self ..) (by
      intro x hx
      simp only [List.mem_cons, List.not_mem_nil, or_false] at hx
      rcases hx with rfl | rfl | rfl
      · exact l9.sow.mono fun x hx => by simp [hx]
      · exact (sl b4 (List.replicate 22 0)).mono (by simp)
      · exact sv.mono (by simp)) (o9.to fun x => by simp only [cnt_append, cnt_cons, cnt_nil]; omega) (by simp [hV]) (by simp) hn
  have hf16 : ([(s9, ([72, 79, 77, 69, 1, k] : List Int)), (.slice (some ⟨b4, 0, some 0⟩) 22 22, List.replicate 22 0), (.slice (some ⟨b0, 0, some 0⟩) 32 32, V)] : List (Value × List Int)).flatMap (·.2) = encH k V := by
    simp only [List.flatMap_cons, List.flatMap_nil, List.append_nil, encH]
  rw [hf16, encH_len hV] at l16
  have o11 : Own hi (A16 ++ F) := o10.to fun x => by simp only [cnt_append, cnt_cons, cnt_nil]; omega
  have o12 := o11.new (.cells [s16] false 1)
  generalize hb6 : hi.next = b6 at o12
  generalize hhj : hi.new (.cells [s16] false 1) = hj at o12
  have hbt := encH_byt h1 h2 hb
  have e19 := of_ok (n := n) (o12.get tabO (List.mem_cons_of_mem _ (List.mem_append_right _ hm))) (L := encH k V) (s := s16) (u := .slice (some ⟨b6, 0, some 0⟩) 1 1) (G := (b6, .cells [s16] false 1) :: A16) (h := hj) (F := F) hbt (by rw [encH_len hV]; exact l16.sow.mono fun x hx => by simp [hx]) ((lits (b := b6) (vs := [s16])).mono fun x hx => by simp only [List.mem_singleton] at hx; subst hx; exact List.mem_cons_self ..) (o12.to fun x => by simp only [cnt_append, cnt_cons, cnt_nil]; omega) (by rw [encH_len hV]; omega) hn
  have hw64 : IntKind.u64.wrap ((crc (encH k V) : Nat) : Int) = ((crc (encH k V) : Nat) : Int) := wrap_u64 (by omega) (by have := crc_lt hbt; omega)
  obtain ⟨s20, hk', A20, e20, l20, o13⟩ := oput_ok (n := n) (crc_lt hbt) o12.tail hn
  have o14 := o13.new (.cells [s16, s20] false 1)
  generalize hb7 : hk'.next = b7 at o14
  generalize hhl : hk'.new (.cells [s16, s20] false 1) = hl at o14
  obtain ⟨s23, hm, A23, e23, l23, o15⟩ := join_ok (n := n) (P := [(s16, encH k V), (s20, le (crc (encH k V)) 4)]) (u := .slice (some ⟨b7, 0, some 0⟩) 2 2) (G := (b7, .cells [s16, s20] false 1) :: (A16 ++ A20)) (h := hl) (F := F)
    ((lits (b := b7) (vs := [s16, s20])).mono fun x hx => by simp only [List.mem_singleton] at hx; subst hx; exact List.mem_cons_self ..) (by
      intro x hx
      simp only [List.mem_cons, List.not_mem_nil, or_false] at hx
      rcases hx with rfl | rfl
      · show Sow 1 s16 (encH k V).length _ _
        rw [encH_len hV]; exact l16.sow.mono fun x hx => by simp [hx]
      · show Sow 1 s20 (le _ 4).length _ _
        rw [le_len]; exact l20.sow.mono fun x hx => by simp [hx]) (o14.to fun x => by simp only [cnt_append, cnt_cons, cnt_nil]; omega) (by simp [encH_len hV, le_len]) (by simp) hn
  have hf23 : ([(s16, encH k V), (s20, le (crc (encH k V)) 4)] : List (Value × List Int)).flatMap (·.2) = enc k V := by
    simp only [List.flatMap_cons, List.flatMap_nil, List.append_nil, enc]
  rw [hf23, enc_len hV] at l23
  refine ⟨s23, hm, A23, ?_, l23, o15.to fun x => by simp only [cnt_append, cnt_cons, cnt_nil]; omega⟩
  have c1 : (cellsOf (.agg ⟨iz .u8 V⟩)).all isCell = true := iz_cell
  have c2 : cellsOf (.agg ⟨iz .u8 V⟩) = iz .u8 V := rfl
  have wk : IntKind.u8.wrap k = k := by
    have : k % 256 = k := Int.emod_eq_of_lt (by omega) (by omega)
    simpa [IntKind.wrap, IntKind.signed, IntKind.bits] using this
  have f1 : fillL (List.replicate 4 (.int .u8 0)) [(0, 1, .int .u8 72), (1, 1, .int .u8 79), (2, 1, .int .u8 77), (3, 1, .int .u8 69)] = some (iz .u8 [72, 79, 77, 69]) := rfl
  have f2 : fillL [.int .u8 0, .int .u8 0] [(0, 1, .int .u8 1), (1, 1, .int .u8 k)] = some (iz .u8 [1, k]) := rfl
  have f3 : fillL [.slice none 0 0, .slice none 0 0] [(0, 1, .slice (some ⟨b1, 0, some 0⟩) 4 4), (1, 1, .slice (some ⟨b2, 0, some 0⟩) 2 2)] = some [.slice (some ⟨b1, 0, some 0⟩) 4 4, .slice (some ⟨b2, 0, some 0⟩) 2 2] := rfl
  have f4 : fillL [.slice none 0 0, .slice none 0 0, .slice none 0 0] [(0, 1, s9), (1, 1, .slice (some ⟨b4, 0, some 0⟩) 22 22), (2, 1, .slice (some ⟨b0, 0, some 0⟩) 32 32)] = some [s9, .slice (some ⟨b4, 0, some 0⟩) 22 22, .slice (some ⟨b0, 0, some 0⟩) 32 32] := by
    obtain ⟨a, c, rfl⟩ := l9.form; rfl
  have f5 : fillL [.slice none 0 0] [(0, 1, s16)] = some [s16] := by obtain ⟨a, c, rfl⟩ := l16.form; rfl
  have f6 : fillL [.slice none 0 0, .slice none 0 0] [(0, 1, s16), (1, 1, s20)] = some [s16, s20] := by
    obtain ⟨a, c, rfl⟩ := l16.form
    obtain ⟨a, c, rfl⟩ := l20.form; rfl
  have w22 : IntKind.i64.wrap (28 - ((6 : Nat) : Int)) = ((22 : Nat) : Int) := by decide
  have hl9 : lenB s9 = some 6 := l9.lenB
  simp only [f_home_Encode, c1, iz_cell, cond_true, c2, bnd_eq, hh0, f_home_block, h1, decide_true, h2, Option.bind_some, Bool.not_true, cond_false, f1, hb1, hh1, mk, wk, f2, hhc, hb2, f3, hhd, hb3, e9, hl9, w22, hb4, m1, hhf]
  simp only [ar, nwA_eq, hb0, Option.bind_some, f4, bnd_eq, hhg, hb5, e16, f5, hhj, hb6, e19, hw64, e20, f6, hhl, hb7, e23, l23.notT, Bool.not_false, cond_true]
end
end Go.Proofs.YtjdbmfhjccaggaaDoor
/- Homes: Decode. -/
namespace Go.Proofs.YtjdbmfhjccaggaaDoor
set_option linter.unusedVariables false
set_option linter.unusedSimpArgs false
def midV (B : List Int) : List Int := (B.drop 28).take 32
def decE (k : Int) (B : List Int) : Int := if B.length = 64 then (if enc k (midV B) = B then 0 else 80) else 2
def decV (k : Int) (B : List Int) : List Int := if decE k B = 0 then midV B else List.replicate 32 0
section
variable {n : Nat} {h : Heap} {F G : Ch} {s u : Value} {L V B : List Int} {k : Int}
theorem readCells_sub {r off m i j : Nat} {cs : List Value} (h1 : readCells h r off m = some cs) (hij : i + j ≤ m) : readCells h r (off + i) j = some ((cs.drop i).take j) := by
  unfold readCells at h1 ⊢
  split at h1
  · rename_i xs ro es hg
    cases hb : Nat.ble (off + m) xs.length with
    | false => rw [hb] at h1; cases h1
    | true =>
      rw [hb] at h1
      have hle := Nat.le_of_ble_eq_true hb
      rw [Nat.ble_eq_true_of_le (by omega : off + i + j ≤ xs.length)]
      simp only [cond_true, Option.some.injEq] at h1 ⊢
      subst h1
      rw [List.drop_take, List.drop_drop, List.take_take, Nat.min_eq_left (by omega)]
  · cases h1
theorem Rds.addr {m : Nat} {cs : List Value} (hs : Rds h 1 s m cs) (hm : 0 < m) : ∃ q c, s = .slice (some q) m c ∧ readCells h q.block q.off m = some cs := by
  obtain ⟨a, c, rfl, e⟩ := hs.src
  cases a with
  | none =>
    have e : some ([] : List Value) = some cs := e
    have := hs.len
    cases e
    simp at this; omega
  | some q => exact ⟨q, c, rfl, by rw [Nat.mul_one] at e; exact e⟩
theorem arr_of {m j : Nat} {cs : List Value} (hs : Rds h 1 s m cs) (hj : 1 ≤ j) (hjm : j ≤ m) : ∃ q, arrB h j s = some (some q) ∧ ldA j h (some q) = some (cs.take j) := by
  obtain ⟨q, c, rfl, e⟩ := hs.addr (by omega)
  refine ⟨⟨q.block, q.off, none⟩, ?_, ?_⟩
  · unfold arrB
    rw [arrAtK_of hjm hj]; rfl
  · simp only [ldA, Option.bind_some]
    have := readCells_sub (i := 0) (j := j) e (by omega)
    simpa using this
def Cap (s : Value) (m : Nat) : Prop := ∃ a c, s = .slice a m c ∧ m ≤ c
theorem Slc.cap {m : Nat} {cs : List Value} {A : Ch} (hs : Slc 1 s m cs A) : Cap s m := by
  cases hs with
  | nil => exact ⟨_, _, rfl, Nat.le_refl _⟩
  | mk hp hl hr => exact ⟨_, _, rfl, by omega⟩
theorem mid_ok (hs : Rds h 1 s 64 (iz .u8 B)) (hc : Cap s 64) : ∃ s' q, sliceK h 1 (some (.int .i64 28)) (some (.int .i64 60)) none s = some (s', h) ∧ arrB h 32 s' = some (some q) ∧ ldA 32 h (some q) = some (iz .u8 (midV B)) := by
  obtain ⟨q, c, rfl, e⟩ := hs.addr (by decide)
  obtain ⟨a, c', e', hcc⟩ := hc
  cases e'
  have e1 : sliceK h 1 (some (.int .i64 ((28 : Nat) : Int))) (some (.int .i64 ((60 : Nat) : Int))) none (.slice (some ⟨q.block, q.off, q.spot⟩) 64 c) = some (.slice (some ⟨q.block, q.off + 28 * 1, q.spot⟩) (60 - 28) (c - 28), h) := sliceK_lh (by decide) (by omega)
  refine ⟨_, ⟨q.block, q.off + 28 * 1, none⟩, e1, ?_, ?_⟩
  · unfold arrB
    rw [arrAtK_of (by decide) (by decide)]; rfl
  · simp only [ldA, Option.bind_some]
    have := readCells_sub (i := 28) (j := 32) e (by decide)
    rw [Nat.mul_one, this]
    simp [iz, midV, List.map_take, List.map_drop]
theorem eq_ok {A : List Int} {m : Nat} (ha : A.length = m) (hb : B.length = m) : eqVals h (.agg (List.replicate m false)) (.agg ⟨iz .u8 A⟩) (.agg ⟨iz .u8 B⟩) = some (decide (A = B)) := by
  have := eqCells_iz (k := .u8) ha hb
  exact this
abbrev z32' : List Value := List.replicate 32 (.int .u8 0)
theorem z32_iz : z32' = iz .u8 (List.replicate 32 0) := rfl
theorem midV_len (hB : B.length = 64) : (midV B).length = 32 := by simp [midV, hB]
theorem midV_byt (hB : Byt B) : Byt (midV B) := fun z hz => hB z (List.mem_of_mem_drop (List.mem_of_mem_take hz))
theorem decE_len (h : decE k B = 0) : B.length = 64 := by
  unfold decE at h
  by_cases h1 : B.length = 64
  · exact h1
  · rw [if_neg h1] at h; cases h
theorem decV_len : (decV k B).length = 32 := by
  unfold decV
  by_cases h0 : decE k B = 0
  · rw [if_pos h0]; exact midV_len (decE_len h0)
  · rw [if_neg h0]; simp
theorem decode_ok (h1 : 0 ≤ k) (h2 : k < 64) (hB : Byt B) (hs : Sow 1 s B.length (iz .u8 B) G) (hc : Cap s B.length) (hm : tabO ∈ G ++ F) (ho : Own h (G ++ F)) (hn : 2000 ≤ n) :
    ∃ h', f_home_Decode n s k h = some ((.agg ⟨iz .u8 (decV k B)⟩, decE k B, ()), h') ∧ Own h' (G ++ F) := by
  have o1 := ho.new (.cells z32' false 0)
  generalize hbv : h.next = bv at o1
  generalize hh0 : h.new (.cells z32' false 0) = h0 at o1
  have fz : fillL z32' [] = some z32' := rfl
  have put : ∀ {hh : Heap} {X : Ch} {xs : List Value} (L : List Int), L.length = 32 → xs.length = 32 → Own hh ((bv, .cells xs false 0) :: X) →
      ∃ h', stB 32 (.agg ⟨iz .u8 L⟩) hh (some ⟨bv, 0, none⟩) = some h' ∧ ldA 32 h' (some ⟨bv, 0, none⟩) = some (iz .u8 L) ∧ Own h' X := by
    intro hh X xs L hL hxs o
    have hl : (iz .u8 L).length = 32 := by simp [iz, hL]
    have hw : writeAt xs 0 (iz .u8 L) = iz .u8 L := by rw [writeAt_eq _ _ _ (by omega)]; simp [List.drop_eq_nil_of_le, hl, hxs]
    have o' := o.put (.cells (iz .u8 L) false 0)
    refine ⟨_, by rw [stBA_of o.head hl iz_cell (by omega), hw], ?_, o'.tail⟩
    rw [ldA_of o'.head (by rw [hl]; exact Nat.le_refl _), List.drop_zero, List.take_of_length_le (by omega)]
  by_cases hl : B.length = 64
  · have rs : Rds h0 1 s 64 (iz .u8 B) := by rw [← hl]; exact hs h0 fun x hx => o1.get x (by simp [hx])
    rw [hl] at hc
    obtain ⟨s', q, a1, a2, a3⟩ := mid_ok rs hc
    have hml := midV_len hl
    have hmb := midV_byt hB
    have o2 := o1.new (.cells z32' false 0)
    generalize hbw : h0.next = bw at o2
    generalize hh1 : h0.new (.cells z32' false 0) = ha at o2
    have hlm : (iz .u8 (midV B)).length = 32 := by simp [iz, hml]
    have hw : writeAt z32' 0 (iz .u8 (midV B)) = iz .u8 (midV B) := by rw [writeAt_eq _ _ _ (by rw [hlm]; decide)]; simp [List.drop_eq_nil_of_le, hlm]
    have st : stB 32 (.agg ⟨iz .u8 (midV B)⟩) ha (some ⟨bw, 0, none⟩) = some (ha.put bw (.cells (iz .u8 (midV B)) false 0)) := by rw [stBA_of o2.head hlm iz_cell (by decide), hw]
    have o3 := o2.put (.cells (iz .u8 (midV B)) false 0)
    generalize hhb : ha.put bw (.cells (iz .u8 (midV B)) false 0) = hbb at o3 st
    have ldw : ∀ {hh : Heap}, hh.get bw = some (.cells (iz .u8 (midV B)) false 0) → ldA 32 hh (some ⟨bw, 0, none⟩) = some (iz .u8 (midV B)) := by
      intro hh hg
      rw [ldA_of hg (by rw [hlm]; exact Nat.le_refl _), List.drop_zero, List.take_of_length_le (by omega)]
    obtain ⟨s15, hcc, A15, e15, l15, o4⟩ := encode_ok (n := n) (k := k) (V := midV B) h1 h2 hml hmb (h := hbb) (F := (bw, .cells (iz .u8 (midV B)) false 0) :: (bv, .cells z32' false 0) :: (G ++ F)) (List.mem_cons_of_mem _ (List.mem_cons_of_mem _ hm)) (o3.to fun x => by simp only [cnt_append, cnt_cons, cnt_nil]; omega) hn
    have rs2 : Rds hcc 1 s 64 (iz .u8 B) := by rw [← hl]; exact hs hcc fun x hx => o4.get x (by simp [hx])
    have r15 : Rds hcc 1 s15 64 (iz .u8 (enc k (midV B))) := l15.rds o4
    obtain ⟨q1, b1, b2⟩ := arr_of r15 (j := 64) (by decide) (by decide)
    obtain ⟨q2, c1, c2⟩ := arr_of rs2 (j := 64) (by decide) (by decide)
    rw [List.take_of_length_le (by simp [iz, enc_len hml])] at b2
    rw [List.take_of_length_le (by simp [iz, hl])] at c2
    have eq := eq_ok (h := hcc) (A := enc k (midV B)) (B := B) (m := 64) (enc_len hml) hl
    have hlen : lenB s = some 64 := rs.lenB
    by_cases he : enc k (midV B) = B
    · have hE : decE k B = 0 := by unfold decE; rw [if_pos hl, if_pos he]
      have hV : decV k B = midV B := by unfold decV; rw [if_pos hE]
      obtain ⟨h', d1, d2, o5⟩ := put (hh := hcc) (X := G ++ F) (xs := z32') (midV B) hml rfl (o4.to fun x => by simp only [cnt_append, cnt_cons, cnt_nil]; omega)
      refine ⟨h', ?_, o5⟩
      rw [hE, hV]
      have eq : eqVals hcc (.agg (List.replicate 64 false)) (.agg ⟨iz .u8 B⟩) (.agg ⟨iz .u8 B⟩) = some true := by rw [he] at eq; simpa using eq
      have lw := ldw (hh := hcc) (o4.get (bw, _) (by simp))
      simp only [f_home_Decode, bnd_eq, hh0, f_home_block, h1, decide_true, cond_true, h2, Option.bind_some, Bool.not_true, cond_false, hlen, show ((64 : Nat) : Int) = 64 from rfl, a1, a2, a3, hh1, nwA_eq, hbw, st, ldw o3.head, e15, b1, b2, c1, c2, eq, he, lw, hbv, d1, d2]
    · have hE : decE k B = 80 := by unfold decE; rw [if_pos hl, if_neg he]
      have hV : decV k B = List.replicate 32 0 := by unfold decV; rw [hE]; rfl
      obtain ⟨h', d1, d2, o5⟩ := put (hh := hcc) (X := G ++ F) (xs := z32') (List.replicate 32 0) (by simp) rfl (o4.to fun x => by simp only [cnt_append, cnt_cons, cnt_nil]; omega)
      rw [← z32_iz] at d1 d2
      refine ⟨h', ?_, o5⟩
      rw [hE, hV, ← z32_iz]
      simp only [f_home_Decode, bnd_eq, hh0, f_home_block, h1, decide_true, cond_true, h2, Option.bind_some, Bool.not_true, cond_false, hlen, show ((64 : Nat) : Int) = 64 from rfl, a1, a2, a3, hh1, nwA_eq, hbw, st, ldw o3.head, e15, b1, b2, c1, c2, eq, he, decide_false, Bool.not_false, hbv, fz, d1, d2]
  · have hE : decE k B = 2 := by unfold decE; rw [if_neg hl]
    have hV : decV k B = List.replicate 32 0 := by unfold decV; rw [hE]; rfl
    obtain ⟨h', d1, d2, o5⟩ := put (hh := h0) (X := G ++ F) (xs := z32') (List.replicate 32 0) (by simp) rfl o1
    rw [← z32_iz] at d1 d2
    have rs : Rds h0 1 s B.length (iz .u8 B) := hs h0 fun x hx => o1.get x (by simp [hx])
    refine ⟨h', ?_, o5⟩
    rw [hE, hV, ← z32_iz]
    have hne : ¬ ((B.length : Int) = 64) := by omega
    simp only [f_home_Decode, bnd_eq, hh0, f_home_block, h1, decide_true, cond_true, h2, Option.bind_some, Bool.not_true, cond_false, rs.lenB, hne, decide_false, Bool.not_false, nwA_eq, hbv, fz, d1, d2]
end
end Go.Proofs.YtjdbmfhjccaggaaDoor
/- HomeBack. -/
namespace Go.Proofs.YtjdbmfhjccaggaaDoor
set_option linter.unusedVariables false
set_option linter.unusedSimpArgs false
section
variable {n : Nat} {h : Heap} {F G : Ch} {s u3 : Value} {L V B : List Int} {k m : Int}
abbrev tabP : Nat × AObj := (0, .cells tab1.cells true 0)
theorem awake_ok (h0 : h.get 1 = some (.cells tab0.cells true 0)) (h1 : h.get 0 = some (.cells tab1.cells true 0)) : f_w8_awake n h = some ((true, ()), h) := by
  have h0 : hasTab h tab0 = true := hasTab_of h0
  have h1 : hasTab h tab1 = true := hasTab_of h1
  simp [f_w8_awake, yesTB, tabsL, h0, h1]
theorem arr_tmp {L : List Int} (ho : Own h F) (hL : L.length = 32) : ∃ h', stB 32 (.agg ⟨iz .u8 L⟩) (h.new (.cells z32' false 0)) (some ⟨h.next, 0, none⟩) = some h' ∧ Own h' ((h.next, .cells (iz .u8 L) false 0) :: F) := by
  have o1 := ho.new (.cells z32' false 0)
  have hl : (iz .u8 L).length = 32 := by simp [iz, hL]
  have hw : writeAt z32' 0 (iz .u8 L) = iz .u8 L := by rw [writeAt_eq _ _ _ (by rw [hl]; decide)]; simp [List.drop_eq_nil_of_le, hl]
  exact ⟨_, by rw [stBA_of o1.head hl iz_cell (by decide), hw], o1.put _⟩
theorem arr_ld {b : Nat} {L : List Int} {ro : Bool} (hg : h.get b = some (.cells (iz .u8 L) ro 0)) (hL : L.length = 32) : ldA 32 h (some ⟨b, 0, none⟩) = some (iz .u8 L) := by
  have hl : (iz .u8 L).length = 32 := by simp [iz, hL]
  rw [ldA_of hg (by rw [hl]; exact Nat.le_refl _), List.drop_zero, List.take_of_length_le (by omega)]
end
end Go.Proofs.YtjdbmfhjccaggaaDoor
/- HdB: put together from SxA Sx1 Sx2 Sx5 Sx7 Sx8 Sx10. -/
namespace Go.Proofs.YtjdbmfhjccaggaaDoor
open Go
set_option linter.unusedVariables false
set_option linter.unusedSimpArgs false
/- ==== from SxA -/
/- ==== from Sk1 -/
def wc (w : Int × List Int) : List Value := .int .i64 w.1 :: iz .u8 w.2
structure Okd (ds : List (List Int)) (ws : List (Int × List Int)) : Prop where
  d : ∀ d ∈ ds, (iz .u8 d).length = 64
  w : ∀ w ∈ ws, (wc w).length = 65
  r : ∀ w ∈ ws, 0 ≤ w.1 ∧ w.1 < ds.length
def Dk (p : Nat) (ds : List (List Int)) (ws : List (Int × List Int)) (L : Ch) : Prop :=
  ∃ sd sw A B, Slc 64 sd ds.length (ds.flatMap (iz .u8)) A ∧ Slc 65 sw ws.length (ws.flatMap wc) B ∧ Okd ds ws ∧ L = (p, .cells [sd, sw] false 0) :: (A ++ B)
section
variable {n p : Nat} {sp : Option Nat} {ds : List (List Int)} {ws : List (Int × List Int)} {L F G : Ch} {h : Heap} {i : Int} {s u : Value} {X : List Int}
theorem asked_ok (hd : Dk p ds ws L) (ho : Own h (L ++ F)) (h0 : 0 ≤ i) (h1 : i < ds.length) : f_sector_Disk_asked n (some ⟨p, 0, sp⟩) i h = some ((0, ()), h) := by
  obtain ⟨sd, sw, A, B, a1, a2, a3, rfl⟩ := hd
  have hg := ho.head
  have e1 : ¬ i < 0 := by omega
  have e2 : ¬ (ds.length : Int) ≤ i := by omega
  simp [f_sector_Disk_asked, ldT_of hg, a1.lenB, e1, e2]
theorem write_ok (hd : Dk p ds ws L) (hu : Sow 1 u 64 (iz .u8 X) G) (ho : Own h (L ++ (G ++ F))) (h0 : 0 ≤ i) (h1 : i < ds.length) (hlen : ws.length ≤ 1000) (hne : ∃ b k c, u = .slice (some b) k c) :
    ∃ h' L', f_sector_Disk_Write n (some ⟨p, 0, sp⟩) i u h = some ((0, ()), h') ∧ Dk p ds (ws ++ [(i, X)]) L' ∧ Own h' (L' ++ (G ++ F)) := by
  have ha := asked_ok (n := n) (sp := sp) hd ho h0 h1
  obtain ⟨sd, sw, A, B, a1, a2, a3, rfl⟩ := hd
  have hg := ho.head
  have hr := hu.rds (h := h) (F := (p, .cells [sd, sw] false 0) :: (A ++ B ++ F)) (ho.to fun x => by simp only [cnt_append, cnt_cons, cnt_nil]; omega)
  obtain ⟨b, k, c, rfl⟩ := hne
  obtain rfl : k = 64 := by have := hr.lenB; simpa using this
  have hX : (iz .u8 X).length = 64 := hr.len
  obtain ⟨a', c', e', src⟩ := hr.src
  cases e'
  have src' : readCells h b.block b.off 64 = some (iz .u8 X) := src
  have hld : ldA 64 h (some ⟨b.block, b.off, none⟩) = some (iz .u8 X) := src'
  have f1 : fillL (.int .i64 0 :: List.replicate 64 (.int .u8 0)) [(0, 1, .int .i64 i), (1, 64, .agg ⟨iz .u8 X⟩)] = some (wc (i, X)) := by
    have c1 : (Nat.beq (cellsOf (.agg ⟨iz .u8 X⟩)).length 64 && Nat.ble (1 + 64) (writeAt (.int .i64 0 :: List.replicate 64 (.int .u8 0)) 0 [.int .i64 i]).length && (cellsOf (.agg ⟨iz .u8 X⟩)).all isCell) = true := by
      show (Nat.beq (iz .u8 X).length 64 && true && (iz .u8 X).all isCell) = true
      rw [hX, iz_cell]; rfl
    show (bif (Nat.beq (cellsOf (.agg ⟨iz .u8 X⟩)).length 64 && Nat.ble (1 + 64) (writeAt (.int .i64 0 :: List.replicate 64 (.int .u8 0)) 0 [.int .i64 i]).length && (cellsOf (.agg ⟨iz .u8 X⟩)).all isCell) then some (writeAt (writeAt (.int .i64 0 :: List.replicate 64 (.int .u8 0)) 0 [.int .i64 i]) 1 (iz .u8 X)) else none) = _
    rw [c1, cond_true]
    show some (writeAt (.int .i64 i :: List.replicate 64 (.int .u8 0)) 1 (iz .u8 X)) = _
    rw [writeAt_tail (by rw [hX]; rfl)]; rfl
  have hwc : (wc (i, X)).length = 65 := by simp only [wc, List.length_cons, hX]
  have hwa : (wc (i, X)).all isCell = true := by simp only [wc, List.all_cons, iz_cell]; rfl
  have f2 : fillL (.int .i64 0 :: List.replicate 64 (.int .u8 0)) [(0, 65, .agg ⟨wc (i, X)⟩)] = some (wc (i, X)) := by
    show (bif (Nat.beq (wc (i, X)).length 65 && true && (wc (i, X)).all isCell) then some (writeAt (.int .i64 0 :: List.replicate 64 (.int .u8 0)) 0 (wc (i, X))) else none) = _
    rw [hwc, hwa]
    show some (writeAt _ 0 _) = _
    rw [writeAt_all (by rw [hwc]; rfl)]
  obtain ⟨s', h1', B', e1, e2, e3⟩ := a2.push (new := wc (i, X)) (F := (p, .cells [sd, sw] false 0) :: (A ++ (G ++ F))) (ho.to fun x => by simp only [cnt_append, cnt_cons, cnt_nil, List.cons_append]; omega) (by decide) hwc (bytes := 72) (by omega)
  have e4 : Own h1' ((p, .cells [sd, sw] false 0) :: (A ++ B' ++ (G ++ F))) := e3.to fun x => by simp only [cnt_append, cnt_cons, cnt_nil]; omega
  refine ⟨_, _, ?_, ⟨sd, s', A, B', a1, by simpa using e2, ⟨a3.d, fun w hw => ?_, fun w hw => ?_⟩, rfl⟩, e4.put (.cells [sd, s'] false 0)⟩
  · simp only [f_sector_Disk_Write, ha, Option.bind_some, decide_true, Bool.not_true, cond_false, lenB_slice]
    rw [show (!decide (((64 : Nat) : Int) = 64)) = false from rfl, cond_false]
    have ar : arrB h 64 (.slice (some b) 64 c) = some (some ⟨b.block, b.off, none⟩) := rfl
    simp only [ldT_of hg, fa_mk, Nat.zero_add, Option.bind_some, ar, hld, bnd_eq]
    have g1 := f1; have g2 := f2
    simp only [List.replicate] at g1 g2
    simp [g1, g2, e1, stB1_of e4.head e2.cellsOf e2.isCell]
  · rcases List.mem_append.1 hw with hw | hw
    · exact a3.w w hw
    · simp only [List.mem_singleton] at hw; subst hw; exact hwc
  · rcases List.mem_append.1 hw with hw | hw
    · exact a3.r w hw
    · simp only [List.mem_singleton] at hw; subst hw; exact ⟨h0, h1⟩
end
/- ==== from Sk2 -/
theorem iz_rep {k : IntKind} {m : Nat} {z : Int} : iz k (List.replicate m z) = List.replicate m (.int k z) := by simp [iz]
/- ==== from Sk3 -/
def ak (P : Nat → Bool) (ws : List (Int × List Int)) : Nat → List (List Int) → List (List Int)
  | 0, ds => ds
  | j + 1, ds => if P j then (match ws[j]? with | some w => (ak P ws j ds).set w.1.toNat w.2 | none => ak P ws j ds) else ak P ws j ds
section
variable {P : Nat → Bool} {ws : List (Int × List Int)} {ds : List (List Int)} {j : Nat}
theorem ak_succ (hj : j < ws.length) : ak P ws (j + 1) ds = if P j then (ak P ws j ds).set ws[j].1.toNat ws[j].2 else ak P ws j ds := by
  simp only [ak, List.getElem?_eq_getElem hj]
theorem ak_len : (ak P ws j ds).length = ds.length := by
  induction j with
  | zero => rfl
  | succ j ih =>
    simp only [ak]
    split
    · split
      · rw [List.length_set, ih]
      · exact ih
    · exact ih
theorem ak_ok (hd : Okd ds ws) : ∀ d ∈ ak P ws j ds, (iz .u8 d).length = 64 := by
  induction j with
  | zero => exact hd.d
  | succ j ih =>
    simp only [ak]
    split
    · split
      · rename_i w hw
        intro d hm
        rcases List.mem_or_eq_of_mem_set hm with hm | rfl
        · exact ih d hm
        · have := hd.w w (List.mem_of_getElem? hw)
          simpa [wc] using this
      · exact ih
    · exact ih
end
abbrev z65 : List Value := .int .i64 0 :: List.replicate 64 (.int .u8 0)
section
variable {n p t j : Nat} {sp : Option Nat} {ds : List (List Int)} {ws : List (Int × List Int)} {L F G A B : Ch} {h : Heap} {i : Int} {s u sd sw : Value} {X : List Int} {w : Int × List Int}
theorem temp_ok (a2 : Slc 65 sw ws.length (ws.flatMap wc) B) (hk : Okd ds ws) (ho : Own h (B ++ F)) (hj : j < ws.length) :
    ∃ q h', ixB 65 sw (j : Int) = some q ∧ ldA 65 h (some q) = some (wc ws[j]) ∧ stB 65 (.agg ⟨wc ws[j]⟩) (h.new (.cells z65 false 0)) (some ⟨h.next, 0, none⟩) = some h' ∧ Own h' ((h.next, .cells (wc ws[j]) false 0) :: (B ++ F)) := by
  obtain ⟨q, e1, e2⟩ := (a2.rds ho).ix j hj
  rw [flat_get hk.w hj] at e2
  have hl := hk.w _ (List.getElem_mem hj)
  have hc : (wc ws[j]).all isCell = true := by simp only [wc, List.all_cons, iz_cell]; rfl
  have e3 := e2.ldA0 (k := 65) (by rw [hl]; exact Nat.le_refl _)
  rw [List.take_of_length_le (by omega)] at e3
  have o1 := ho.new (.cells z65 false 0)
  refine ⟨q, _, e1, e3, ?_, o1.put (.cells (wc ws[j]) false 0)⟩
  rw [stBA_of o1.head hl hc (by simp), writeAt_all (by rw [hl]; simp)]
theorem apply_ok (a1 : Slc 64 sd ds.length (ds.flatMap (iz .u8)) A) (hd : ∀ d ∈ ds, (iz .u8 d).length = 64) (hw : (wc w).length = 65) (h0 : 0 ≤ w.1) (h1 : w.1 < ds.length)
    (ho : Own h ((t, .cells (wc w) false 0) :: (p, .cells [sd, sw] false 0) :: (A ++ F))) :
    ∃ q h' A', ldT .any h (some ⟨p, 0, none⟩) = some sd ∧ ldT (.int .i64) h (some ⟨t, 0, none⟩) = some w.1 ∧ ldA 64 h (some ⟨t, 1, none⟩) = some (iz .u8 w.2) ∧ ixB 64 sd w.1 = some q ∧ stB 64 (.agg ⟨iz .u8 w.2⟩) h (some q) = some h' ∧
      Slc 64 sd ds.length ((ds.set w.1.toNat w.2).flatMap (iz .u8)) A' ∧ Own h' ((p, .cells [sd, sw] false 0) :: (A' ++ F)) := by
  have hl : (iz .u8 w.2).length = 64 := by simpa [wc] using hw
  have hi : w.1.toNat < ds.length := by omega
  obtain ⟨q, h', A', e1, e2, e3, e4⟩ := slc_set a1 (F := (p, .cells [sd, sw] false 0) :: F) (ho.to fun x => by simp only [cnt_append, cnt_cons]; omega) hi hl iz_cell
  rw [flat_set hd hl hi] at e3
  rw [Int.toNat_of_nonneg h0] at e1
  refine ⟨q, h', A', ?_, ?_, ?_, e1, e2, e3, e4.to fun x => by simp only [cnt_append, cnt_cons]; omega⟩
  · rw [ldT_of ho.tail.head]; rfl
  · rw [ldT_of ho.head]; simp [wc]
  · rw [ldA_of ho.head (by rw [hw]; exact Nat.le_refl _)]
    simp only [wc, List.drop_succ_cons, List.drop_zero]
    rw [List.take_of_length_le (by rw [hl]; exact Nat.le_refl _)]
theorem flush_ok (hd : Dk p ds ws L) (ho : Own h (L ++ F)) (hlen : ws.length ≤ 1000) (hn : 2000 ≤ n) :
    ∃ h' L', f_sector_Disk_Flush n (some ⟨p, 0, sp⟩) h = some (((ws.length : Int), (0, ())), h') ∧ Dk p (ak (fun _ => true) ws ws.length ds) [] L' ∧ Own h' (L' ++ F) := by
  obtain ⟨sd, sw, A, B, a1, a2, a3, rfl⟩ := hd
  have hg := ho.head
  obtain ⟨⟨x, h'⟩, e, A', q1, q2⟩ := loopT_up (f := fun a => f_sector_Disk_Flush_L15 n (some ⟨p, 0, sp⟩) sw ws.length a.1.1 a.2)
    (fun j (a : (Int × Unit) × Heap) => a.1.1 = (j : Int) ∧ ∃ A', Slc 64 sd ds.length ((ak (fun _ => true) ws j ds).flatMap (iz .u8)) A' ∧ Own a.2 ((p, .cells [sd, sw] false 0) :: (A' ++ (B ++ F))))
    (fun r => ∃ A', Slc 64 sd ds.length ((ak (fun _ => true) ws ws.length ds).flatMap (iz .u8)) A' ∧ Own r.2 ((p, .cells [sd, sw] false 0) :: (A' ++ (B ++ F)))) (N := ws.length) (k := n) (j := 0) (a := ((0, ()), h)) (by omega) (by omega)
    ⟨rfl, A, a1, ho.to fun x => by simp only [cnt_append, cnt_cons, List.cons_append]; omega⟩
    (fun j a hj hi => by
      obtain ⟨⟨v, _⟩, h1⟩ := a
      obtain ⟨rfl, A1, hs1, o1⟩ := hi
      have o1 : Own h1 _ := o1
      have hlt : (j : Int) < (ws.length : Int) := by omega
      obtain ⟨q, h2, e1, e2, e3, o2⟩ := temp_ok (F := (p, .cells [sd, sw] false 0) :: (A1 ++ F)) a2 a3 (o1.to fun x => by simp only [cnt_append, cnt_cons]; omega) hj
      generalize ht : h1.next = t at e3 o2
      have hw := a3.r _ (List.getElem_mem hj)
      rw [← ak_len (P := fun _ => true) (ws := ws) (j := j)] at hs1
      obtain ⟨q', h3, A3, g1, g2, g3, g4, g5, g6, o3⟩ := apply_ok (F := B ++ F) (sw := sw) (p := p) (t := t) hs1 (ak_ok a3) (a3.w _ (List.getElem_mem hj)) hw.1 (by rw [ak_len]; exact hw.2) (o2.to fun x => by simp only [cnt_append, cnt_cons]; omega)
      rw [ak_len] at g6
      refine .inl ⟨((((j + 1 : Nat) : Int), ()), h3), ?_, rfl, A3, by rw [ak_succ hj, if_pos rfl]; exact g6, o3⟩
      simp only [z65, List.replicate] at e3
      simp only [f_sector_Disk_Flush_L15, hlt, decide_true, cond_true, e1, e2, Option.bind_some, bnd_eq, nwA_eq, ht, e3, fa_mk, Nat.zero_add, g1, g2, g3, g4, g5, wrap_succ (show j < 4611686018427387904 by omega)])
    (fun a hi => by
      obtain ⟨⟨v, _⟩, h1⟩ := a
      obtain ⟨rfl, A1, hs1, o1⟩ := hi
      exact ⟨((), h1), by simp [f_sector_Disk_Flush_L15], A1, hs1, o1⟩)
  have o2 : Own h' _ := q2
  refine ⟨_, _, ?_, ⟨sd, .slice none 0 0, A', [], by rw [ak_len]; exact q1, .nil, ⟨ak_ok a3, fun _ h => absurd h List.not_mem_nil, fun _ h => absurd h List.not_mem_nil⟩, rfl⟩, (o2.put (.cells [sd, .slice none 0 0] false 0)).to fun x => by simp only [cnt_append, cnt_cons, cnt_nil, List.cons_append]; omega⟩
  have e' : loopT (fun a => f_sector_Disk_Flush_L15 n (some ⟨p, 0, sp⟩) sw ws.length a.1.1 a.2) n ((0, ()), h) = some (x, h') := e
  simp [f_sector_Disk_Flush, ldT_of hg, a2.lenB, e', ldT_of o2.head, stB1_of o2.head (v := .slice none 0 0) rfl rfl]
end
/- ==== from Sk4 -/
def kp (K : List Int) (m : Nat) : List Int := (List.range m).map fun (j : Nat) => if (j : Int) ∈ K then 1 else 0
@[simp] theorem kp_len {K : List Int} {m : Nat} : (kp K m).length = m := by simp [kp]
theorem kp_at {K : List Int} {m j : Nat} (hj : j < m) : (kp K m)[j]'(by simpa using hj) = if (j : Int) ∈ K then 1 else 0 := by simp [kp]
theorem kp_set {K : List Int} {m : Nat} {x : Int} (h0 : 0 ≤ x) : (kp K m).set x.toNat 1 = kp (K ++ [x]) m := by
  apply List.ext_getElem
  · simp
  · intro j h1 h2
    have hj : j < m := by simpa using h1
    rw [List.getElem_set, kp_at hj, kp_at hj]
    by_cases e : x.toNat = j
    · rw [if_pos e, if_pos]; simp; right; omega
    · rw [if_neg e]
      have : ¬ (j : Int) = x := by omega
      simp [this]
theorem kp_out {K : List Int} {m : Nat} {x : Int} (h0 : x < 0 ∨ (m : Int) ≤ x) : kp (K ++ [x]) m = kp K m := by
  apply List.ext_getElem
  · simp
  · intro j h1 h2
    have hj : j < m := by simpa using h1
    rw [kp_at hj, kp_at hj]
    have : ¬ (j : Int) = x := by omega
    simp [this]
theorem kp_nil {m : Nat} : kp [] m = List.replicate m 0 := by
  apply List.ext_getElem
  · simp
  · intro j h1 h2
    rw [kp_at (by simpa using h1)]; simp
theorem flat_rep1 {z : Value} {m : Nat} : (List.replicate m [z]).flatten = List.replicate m z := by
  induction m with
  | zero => rfl
  | succ m ih => simp [List.replicate_succ, ih]
section
variable {n p t j : Nat} {sp : Option Nat} {ds : List (List Int)} {ws : List (Int × List Int)} {L F G A B : Ch} {h : Heap} {i : Int} {s u sd sw : Value} {X K : List Int} {w : Int × List Int}
theorem keeps_ok {v : Value} {ob : AObj} {m : Nat} {M : Ch} (hu : Sow 1 u K.length (iz .i64 K) G) (hv : Slc 1 v m (iz .u8 (kp [] m)) M) (ho : Own h (M ++ (G ++ F))) (hK : K.length ≤ 1152921504606846976) (hn : K.length + 2000 ≤ n) :
    ∃ h' M', loopT (fun a => f_sector_Disk_Crash_L15 n u (v, ob) K.length a.1.1 a.2) n (((0 : Int), ()), h) = some ((), h') ∧ Slc 1 v m (iz .u8 (kp K m)) M' ∧ Own h' (M' ++ (G ++ F)) := by
  obtain ⟨⟨x, h'⟩, e, M', q1, q2⟩ := loopT_up (f := fun a => f_sector_Disk_Crash_L15 n u (v, ob) K.length a.1.1 a.2)
    (fun j (a : (Int × Unit) × Heap) => a.1.1 = (j : Int) ∧ ∃ M', Slc 1 v m (iz .u8 (kp (K.take j) m)) M' ∧ Own a.2 (M' ++ (G ++ F)))
    (fun r => ∃ M', Slc 1 v m (iz .u8 (kp K m)) M' ∧ Own r.2 (M' ++ (G ++ F))) (N := K.length) (k := n) (j := 0) (a := ((0, ()), h)) (by omega) (by omega)
    ⟨rfl, M, by simpa using hv, ho⟩
    (fun j a hj hi => by
      obtain ⟨⟨v0, _⟩, h1⟩ := a
      obtain ⟨rfl, M1, hs1, o1⟩ := hi
      have o1 : Own h1 _ := o1
      have hlt : (j : Int) < (K.length : Int) := by omega
      obtain ⟨q, e1, e2⟩ := (hu.rds (h := h1) (F := M1 ++ F) (o1.to fun x => by simp only [cnt_append]; omega)).int hj
      by_cases hr : 0 ≤ K[j] ∧ K[j] < (m : Int)
      · obtain ⟨q', h2, M2, g1, g2, g3, o2⟩ := slc_set1 hs1 o1 (i := K[j].toNat) (by omega) (v := .int .u8 1) rfl rfl
        rw [iz_set, kp_set hr.1, ← take_snoc hj] at g3
        rw [Int.toNat_of_nonneg hr.1] at g1
        refine .inl ⟨((((j + 1 : Nat) : Int), ()), h2), ?_, rfl, M2, g3, o2⟩
        simp only [f_sector_Disk_Crash_L15]
        simp [hlt, e1, e2, hr.1, hs1.lenB, hr.2, g1, g2, wrap_succ (show j < 4611686018427387904 by omega)]
      · refine .inl ⟨((((j + 1 : Nat) : Int), ()), h1), ?_, rfl, M1, ?_, o1⟩
        · simp only [f_sector_Disk_Crash_L15]
          by_cases h0 : 0 ≤ K[j]
          · have h3 : ¬ K[j] < (m : Int) := fun h => hr ⟨h0, h⟩
            simp [hlt, e1, e2, h0, hs1.lenB, h3, wrap_succ (show j < 4611686018427387904 by omega)]
          · simp [hlt, e1, e2, h0, wrap_succ (show j < 4611686018427387904 by omega)]
        · rw [take_snoc hj, kp_out (by omega)]; exact hs1)
    (fun a hi => by
      obtain ⟨⟨v0, _⟩, h1⟩ := a
      obtain ⟨rfl, M1, hs1, o1⟩ := hi
      rw [List.take_length] at hs1
      exact ⟨((), h1), by simp [f_sector_Disk_Crash_L15], M1, hs1, o1⟩)
  exact ⟨h', M', e, q1, q2⟩
theorem crash_ok (hd : Dk p ds ws L) (hu : Sow 1 u K.length (iz .i64 K) G) (ho : Own h (L ++ (G ++ F))) (hlen : ws.length ≤ 1000) (hK : K.length ≤ 1152921504606846976) (hn : K.length + 2000 ≤ n) :
    ∃ h' L', f_sector_Disk_Crash n (some ⟨p, 0, sp⟩) u h = some (((ws.length : Int), (0, ())), h') ∧ Dk p (ak (fun j => decide ((j : Int) ∈ K)) ws ws.length ds) [] L' ∧ Own h' (L' ++ (G ++ F)) := by
  obtain ⟨sd, sw, A, B, a1, a2, a3, rfl⟩ := hd
  have hg := ho.head
  generalize hP : (fun j : Nat => decide ((j : Int) ∈ K)) = P
  -- what is kept
  have hmk := mkSl_of (nx := h.next) (bytes := 1) (es := 1) (zs := [.int .u8 0]) (k := .i64) (k' := .i64) (l := ws.length) (c := ws.length) (by omega) (by omega) (by omega)
  rw [flat_rep1] at hmk
  have hv : Slc 1 (.slice (some ⟨h.next, 0, some 0⟩) ws.length ws.length) ws.length (iz .u8 (kp [] ws.length)) [(h.next, .cells ([] ++ (iz .u8 (kp [] ws.length) ++ [])) false 1)] := .mk rfl (by simp) (by simp)
  have ekp : iz .u8 (kp [] ws.length) = List.replicate ws.length (.int .u8 0) := by rw [kp_nil, iz_rep]
  have o1 := ho.new (.cells (List.replicate ws.length (.int .u8 0)) false 1)
  have o1' : Own (h.new (.cells (List.replicate ws.length (.int .u8 0)) false 1)) ([(h.next, .cells ([] ++ (iz .u8 (kp [] ws.length) ++ [])) false 1)] ++ (G ++ ((p, .cells [sd, sw] false 0) :: (A ++ (B ++ F))))) := by
    rw [ekp]
    exact o1.to fun x => by simp only [cnt_append, cnt_cons, cnt_nil, List.cons_append, List.append_nil, List.nil_append]; omega
  generalize hb : h.next = b at hmk hv o1'
  generalize hh1 : h.new (.cells (List.replicate ws.length (.int .u8 0)) false 1) = h1 at o1'
  clear o1
  obtain ⟨h2, M, e2, hv2, o2⟩ := keeps_ok (n := n) (ob := .cells (List.replicate ws.length (.int .u8 0)) false 1) hu hv o1' hK hn
  have g2 : h2.get p = some (.cells [sd, sw] false 0) := o2.get (p, _) (by simp)
  generalize hvv : Value.slice (some ⟨b, 0, some 0⟩) ws.length ws.length = vv at hmk hv hv2 e2
  obtain ⟨⟨x, h'⟩, e, A', q1, q2⟩ := loopT_up (f := fun a => f_sector_Disk_Crash_L35 n (some ⟨p, 0, sp⟩) (vv, .cells (List.replicate ws.length (.int .u8 0)) false 1) sw ws.length a.1.1 a.2)
    (fun j (a : (Int × Unit) × Heap) => a.1.1 = (j : Int) ∧ ∃ A', Slc 64 sd ds.length ((ak P ws j ds).flatMap (iz .u8)) A' ∧ Own a.2 ((p, .cells [sd, sw] false 0) :: (A' ++ (M ++ (B ++ (G ++ F))))))
    (fun r => ∃ A', Slc 64 sd ds.length ((ak P ws ws.length ds).flatMap (iz .u8)) A' ∧ Own r.2 ((p, .cells [sd, sw] false 0) :: (A' ++ (M ++ (B ++ (G ++ F)))))) (N := ws.length) (k := n) (j := 0) (a := ((0, ()), h2)) (by omega) (by omega)
    ⟨rfl, A, a1, o2.to fun x => by simp only [cnt_append, cnt_cons]; omega⟩
    (fun j a hj hi => by
      obtain ⟨⟨v, _⟩, h1⟩ := a
      obtain ⟨rfl, A1, hs1, o1⟩ := hi
      have o1 : Own h1 _ := o1
      have hlt : (j : Int) < (ws.length : Int) := by omega
      obtain ⟨q, h2, e1, e2, e3, o2⟩ := temp_ok (F := (p, .cells [sd, sw] false 0) :: (A1 ++ (M ++ (G ++ F)))) a2 a3 (o1.to fun x => by simp only [cnt_append, cnt_cons]; omega) hj
      generalize ht : h1.next = t at e3 o2
      obtain ⟨qk, k1, k2⟩ := (hv2.rds (h := h2) (F := (t, .cells (wc ws[j]) false 0) :: (B ++ (p, .cells [sd, sw] false 0) :: (A1 ++ (G ++ F)))) (o2.to fun x => by simp only [cnt_append, cnt_cons]; omega)).intn (L := kp K ws.length) (i := j) kp_len hj
      rw [kp_at hj] at k2
      simp only [z65, List.replicate] at e3
      have hPj : P j = decide ((j : Int) ∈ K) := by rw [← hP]
      by_cases hk : (j : Int) ∈ K
      · have hw := a3.r _ (List.getElem_mem hj)
        rw [← ak_len (P := P) (ws := ws) (j := j)] at hs1
        obtain ⟨q', h3, A3, g1, g2, g3, g4, g5, g6, o3⟩ := apply_ok (F := M ++ (B ++ (G ++ F))) (sw := sw) (p := p) (t := t) hs1 (ak_ok a3) (a3.w _ (List.getElem_mem hj)) hw.1 (by rw [ak_len]; exact hw.2) (o2.to fun x => by simp only [cnt_append, cnt_cons]; omega)
        rw [ak_len] at g6
        refine .inl ⟨((((j + 1 : Nat) : Int), ()), h3), ?_, rfl, A3, by rw [ak_succ hj, hPj, decide_eq_true hk, if_pos rfl]; exact g6, o3⟩
        rw [if_pos hk] at k2
        simp only [f_sector_Disk_Crash_L35, hlt, decide_true, cond_true, e1, e2, Option.bind_some, bnd_eq, nwA_eq, ht, e3, fa_mk, Nat.zero_add, k1, k2, g1, g2, g3, g4, g5, wrap_succ (show j < 4611686018427387904 by omega)]
      · refine .inl ⟨((((j + 1 : Nat) : Int), ()), h2), ?_, rfl, A1, by rw [ak_succ hj, hPj, decide_eq_false hk, if_neg (by decide)]; exact hs1, o2.to fun x => by simp only [cnt_append, cnt_cons]; omega⟩
        rw [if_neg hk] at k2
        simp only [f_sector_Disk_Crash_L35, hlt, decide_true, cond_true, e1, e2, Option.bind_some, bnd_eq, nwA_eq, ht, e3, fa_mk, Nat.zero_add, k1, k2, wrap_succ (show j < 4611686018427387904 by omega)]
        rfl)
    (fun a hi => by
      obtain ⟨⟨v, _⟩, h1⟩ := a
      obtain ⟨rfl, A1, hs1, o1⟩ := hi
      exact ⟨((), h1), by simp [f_sector_Disk_Crash_L35], A1, hs1, o1⟩)
  have o3 : Own h' _ := q2
  refine ⟨_, _, ?_, ⟨sd, .slice none 0 0, A', [], by rw [ak_len]; exact q1, .nil, ⟨ak_ok a3, fun _ h => absurd h List.not_mem_nil, fun _ h => absurd h List.not_mem_nil⟩, rfl⟩, (o3.put (.cells [sd, .slice none 0 0] false 0)).to fun x => by simp only [cnt_append, cnt_cons, cnt_nil, List.cons_append]; omega⟩
  have hl := (hu.rds (h := h) (F := (p, .cells [sd, sw] false 0) :: (A ++ B ++ F)) (ho.to fun x => by simp only [cnt_append, cnt_cons, List.cons_append]; omega)).lenB
  simp only [f_sector_Disk_Crash, Option.isNone_some, cond_false, Option.bind_some, fa_mk, Nat.zero_add, ldT_of hg, a2.lenB, hmk, hb, bnd_eq, hh1, hl, e2]
  simp [a2.lenB, hmk, hl, hh1, hb, e2, ldT_of g2, e, ldT_of o3.head, stB1_of o3.head (v := .slice none 0 0) rfl rfl]
end
/- ==== from Sk5 -/
section
variable {n p t j : Nat} {sp : Option Nat} {ds : List (List Int)} {ws : List (Int × List Int)} {L F G A B : Ch} {h : Heap} {i : Int} {s u sd sw : Value} {X K : List Int} {w : Int × List Int}
theorem rep64 : (List.replicate 64 (Value.int .u8 0)).length = 64 := rfl
theorem image_ok' (hd : Dk p ds ws L) (ho : Own h (L ++ F)) (hN : ds.length ≤ 4096) (hn : 5000 ≤ n) :
    ∃ s h' A', f_sector_Disk_Image n (some ⟨p, 0, sp⟩) h = some ((s, ()), h') ∧ Slc 1 s (ds.length * 64) (iz .u8 ds.flatten) A' ∧ Own h' (A' ++ (L ++ F)) := by
  obtain ⟨sd, sw, A, B, a1, a2, a3, rfl⟩ := hd
  have hg := ho.head
  have hmk := mkSl_of (nx := h.next) (bytes := 1) (es := 1) (zs := [.int .u8 0]) (k := .i64) (k' := .i64) (l := 0) (c := ds.length * 64) (by omega) (by omega) (by omega)
  rw [flat_rep1] at hmk
  have hv : Slc 1 (.slice (some ⟨h.next, 0, some 0⟩) 0 (ds.length * 64)) 0 [] [(h.next, .cells ([] ++ ([] ++ List.replicate (ds.length * 64) (.int .u8 0))) false 1)] := .mk rfl rfl (by simp)
  have o1 := ho.new (.cells (List.replicate (ds.length * 64) (.int .u8 0)) false 1)
  have hg1 := o1.get (p, .cells [sd, sw] false 0) (by simp)
  generalize hb : h.next = b at hmk hv o1
  generalize hh1 : h.new (.cells (List.replicate (ds.length * 64) (.int .u8 0)) false 1) = h1 at o1 hg1
  obtain ⟨⟨x, h'⟩, e, s', hx, A', q1, q2⟩ := loopT_up (f := fun a => f_sector_Disk_Image_L17 n sd ds.length a.1.1 a.1.2.1 a.2)
    (fun j (a : (Value × Int × Unit) × Heap) => a.1.2.1 = (j : Int) ∧ ∃ A', Slc 1 a.1.1 (j * 64) (iz .u8 (ds.take j).flatten) A' ∧ Own a.2 (A' ++ ((p, .cells [sd, sw] false 0) :: (A ++ B) ++ F)))
    (fun r => ∃ s', r.1 = (s', ()) ∧ ∃ A', Slc 1 s' (ds.length * 64) (iz .u8 ds.flatten) A' ∧ Own r.2 (A' ++ ((p, .cells [sd, sw] false 0) :: (A ++ B) ++ F))) (N := ds.length) (k := n) (j := 0) (a := ((.slice (some ⟨b, 0, some 0⟩) 0 (ds.length * 64), (0, ())), h1)) (by omega) (by omega)
    ⟨rfl, _, by simpa using hv, o1⟩
    (fun j a hj hi => by
      obtain ⟨⟨v, i, _⟩, h1⟩ := a
      obtain ⟨hi0, A1, hs1, o1⟩ := hi
      have hi0 : i = (j : Int) := hi0
      subst hi0
      have o1 : Own h1 _ := o1
      have hs1 : Slc 1 v (j * 64) (iz .u8 (ds.take j).flatten) A1 := hs1
      have hlt : (j : Int) < (ds.length : Int) := by omega
      obtain ⟨q, e1, e2⟩ := (a1.rds (h := h1) (F := (p, .cells [sd, sw] false 0) :: (A1 ++ (B ++ F))) (o1.to fun x => by simp only [cnt_append, cnt_cons, List.cons_append]; omega)).ix j hj
      rw [flat_get a3.d hj] at e2
      have hl := a3.d _ (List.getElem_mem hj)
      have hl' : ds[j].length = 64 := by simpa using hl
      have e3 := e2.ldA0 (k := 64) (by rw [hl]; exact Nat.le_refl _)
      rw [List.take_of_length_le (by omega)] at e3
      have o2 := o1.new (.cells (List.replicate 64 (.int .u8 0)) false 0)
      generalize ht : h1.next = t at o2
      generalize hh2 : h1.new (.cells (List.replicate 64 (.int .u8 0)) false 0) = h2 at o2
      have e4 := stBA_of (sp := none) (o := 0) o2.head hl iz_cell (by rw [rep64]; exact Nat.le_refl _)
      rw [writeAt_all (by rw [hl]; rfl)] at e4
      have o3 := o2.put (.cells (iz .u8 ds[j]) false 0)
      generalize hh3 : h2.put t (.cells (iz .u8 ds[j]) false 0) = h3 at o3 e4
      have e5 : sliceArrK h3 64 1 none none (.pointer (some ⟨t, 0, none⟩)) = some (.slice (some ⟨t, 0, some 0⟩) 64 64, h3) := rfl
      have hpc := Sow.piece (b := t) (off := 0) (n := 64) (c := 64) (sp := some 0) (cs := iz .u8 ds[j]) (ro := false) (e := 0) (by simp [hl'])
      rw [List.drop_zero, List.take_of_length_le (by simp [hl'])] at hpc
      obtain ⟨s4, h4, A4, e6, hs4, o4⟩ := hpc.app hs1 (F := (p, .cells [sd, sw] false 0) :: (A ++ B) ++ F) (o3.to fun x => by simp only [cnt_append, cnt_cons, cnt_nil, List.cons_append]; omega) (by decide) (bytes := 1) (by omega)
      refine .inl ⟨((s4, (((j + 1 : Nat) : Int), ())), h4), ?_, rfl, A4, ?_, o4.to fun x => by simp only [cnt_append, cnt_cons, cnt_nil, List.cons_append]; omega⟩
      · simp only [f_sector_Disk_Image_L17, hlt, decide_true, cond_true, e1, e3, Option.bind_some, bnd_eq, nwA_eq, ht, hh2, e4, e5, e6, wrap_succ (show j < 4611686018427387904 by omega)]
      · rw [take_snoc hj, List.flatten_append, iz_append, Nat.add_mul]
        simpa using hs4)
    (fun a hi => by
      obtain ⟨⟨v, i, _⟩, h1⟩ := a
      obtain ⟨hi0, A1, hs1, o1⟩ := hi
      have hi0 : i = (ds.length : Int) := hi0
      subst hi0
      rw [List.take_length] at hs1
      have hs1 : Slc 1 v (ds.length * 64) (iz .u8 ds.flatten) A1 := hs1
      exact ⟨((v, ()), h1), by simp [f_sector_Disk_Image_L17, hs1.notT], v, rfl, A1, hs1, o1⟩)
  have hx : x = (s', ()) := hx
  subst hx
  refine ⟨s', h', A', ?_, q1, q2⟩
  have hw : IntKind.i64.wrap ((ds.length : Int) * 64) = ((ds.length * 64 : Nat) : Int) := by rw [wrap_i64 (by omega) (by omega)]; omega
  have hmk' : mkSl b 1 1 [.int .u8 0] (.int .i64 0) (.int .i64 ((ds.length * 64 : Nat) : Int)) = some (.slice (some ⟨b, 0, some 0⟩) 0 (ds.length * 64), .cells (List.replicate (ds.length * 64) (.int .u8 0)) false 1) := hmk
  have e' : loopT (fun a => f_sector_Disk_Image_L17 n sd ds.length a.1.1 a.1.2.1 a.2) n ((.slice (some ⟨b, 0, some 0⟩) 0 (ds.length * 64), (0, ())), h1) = some ((s', ()), h') := e
  have l0 : ldT .any h (some ⟨p, 0, none⟩) = some sd := by rw [ldT_of hg]; rfl
  have l1 : ldT .any h1 (some ⟨p, 0, none⟩) = some sd := by rw [ldT_of hg1]; rfl
  simp only [f_sector_Disk_Image, Option.isNone_some, cond_false, Option.bind_some, fa_mk, Nat.zero_add, l0, a1.lenB, hw, hb, hmk', bnd_eq, hh1, l1, e']
end
/- slices.Clone, of any elements -/
section
variable {n m : Nat} {h : Heap} {s : Value} {cs : List Value} {G F : Ch}
theorem clone1_ok (hr : Sow 1 s m cs G) (ho : Own h (G ++ F)) (hlen : m ≤ 1000000) :
    ∃ s' h' A', f_slices_Clone_byte_byte n s h = some ((s', ()), h') ∧ Slc 1 s' m cs A' ∧ Own h' (A' ++ (G ++ F)) := by
  obtain ⟨a, c, hf, hsrc⟩ := (hr.rds ho).src
  have hcl := (hr.rds ho).len
  subst hf
  cases a with
  | none =>
    have h1 : (some [] : Option (List Value)) = some cs := hsrc
    cases h1
    obtain rfl : m = 0 := by simp at hcl; omega
    exact ⟨.slice none 0 0, h, [], by simp [f_slices_Clone_byte_byte, eqVals_slice_nil], .nil, ho⟩
  | some p =>
    have o1 := ho.new (.cells [] false 1)
    have hs : Slc 1 (.slice (some ⟨h.next, 0, some 0⟩) 0 0) 0 [] [(h.next, .cells ([] ++ ([] ++ [])) false 1)] := .mk rfl rfl rfl
    obtain ⟨s', h', A', e1, e2, e3⟩ := hr.app hs (F := F) o1 (by decide) (bytes := 1) (by omega)
    refine ⟨s', h', A', ?_, by simpa using e2, e3⟩
    have := e2.notT
    simp [f_slices_Clone_byte_byte, eqVals_slice_nil, e1, this]
end
/- ==== from Sk6 -/
section
variable {n p k i es m : Nat} {sp : Option Nat} {ds : List (List Int)} {ws : List (Int × List Int)} {L F G A B : Ch} {h : Heap} {s u : Value} {X K : List Int} {cs : List Value}
theorem slc_part (hs : Slc es s n cs A) (hi : i < n) (sp : Option Nat) : ∃ q, ixB es s (i : Int) = some q ∧ Sow 1 (.slice (some ⟨q.block, q.off, sp⟩) es es) es ((cs.drop (i * es)).take es) A := by
  cases hs with
  | nil => omega
  | @mk b off sp' _ c pre _ rest hp hl hr =>
    subst hp
    have h1 : (i + 1) * es ≤ n * es := Nat.mul_le_mul_right es hi
    rw [Nat.add_mul, Nat.one_mul] at h1
    refine ⟨⟨b, pre.length + i * es, none⟩, ?_, ?_⟩
    · show (bif Nat.blt i n then _ else none) = _
      rw [show Nat.blt i n = true from Nat.ble_eq_true_of_le hi]; rfl
    · have := Sow.piece (b := b) (off := pre.length + i * es) (n := es) (c := es) (sp := sp) (cs := pre ++ (cs ++ rest)) (ro := false) (e := es) (by simp; omega)
      rwa [← List.drop_drop, List.drop_left, List.drop_append_of_le_length (by omega), List.take_append_of_le_length (by simp; omega)] at this
end
/- ==== from Sx1 -/
def rdv (ws : List (Int × List Int)) (i : Int) (d : List Int) : List Int := ws.foldl (fun a w => if w.1 = i then w.2 else a) d
theorem rdv_snoc {ws : List (Int × List Int)} {w : Int × List Int} {i : Int} {d : List Int} : rdv (ws ++ [w]) i d = if w.1 = i then w.2 else rdv ws i d := by simp [rdv]
theorem rdv_len {ws : List (Int × List Int)} {i : Int} {d : List Int} (hw : ∀ w ∈ ws, w.2.length = 64) (hd : d.length = 64) : (rdv ws i d).length = 64 := by
  induction ws generalizing d with
  | nil => exact hd
  | cons w ws ih =>
    show (rdv ws i (if w.1 = i then w.2 else d)).length = 64
    refine ih (fun w' h => hw w' (List.mem_cons_of_mem _ h)) ?_
    split
    · exact hw w (List.mem_cons_self ..)
    · exact hd
section
variable {n p i m : Nat} {sp : Option Nat} {ds : List (List Int)} {ws : List (Int × List Int)} {L F G A B : Ch} {h : Heap} {z : Int} {s u : Value} {X K : List Int} {cs : List Value}
theorem asked_bad (hd : Dk p ds ws L) (ho : Own h (L ++ F)) (hz : z < 0 ∨ (ds.length : Int) ≤ z) : f_sector_Disk_asked n (some ⟨p, 0, sp⟩) z h = some ((40, ()), h) := by
  obtain ⟨sd, sw, A, B, a1, a2, a3, rfl⟩ := hd
  have hg := ho.head
  by_cases h0 : z < 0
  · simp [f_sector_Disk_asked, h0]
  · have h1 : (ds.length : Int) ≤ z := by omega
    simp [f_sector_Disk_asked, ldT_of hg, a1.lenB, h0, h1]
theorem write_bad (hd : Dk p ds ws L) (ho : Own h (L ++ F)) (hz : z < 0 ∨ (ds.length : Int) ≤ z) : f_sector_Disk_Write n (some ⟨p, 0, sp⟩) z u h = some ((40, ()), h) := by
  have ha := asked_bad (n := n) (sp := sp) hd ho hz
  simp [f_sector_Disk_Write, ha]
theorem write_len (hd : Dk p ds ws L) (ho : Own h (L ++ F)) (h0 : 0 ≤ z) (h1 : z < ds.length) (hl : lenB u = some m) (hm : m ≠ 64) : f_sector_Disk_Write n (some ⟨p, 0, sp⟩) z u h = some ((2, ()), h) := by
  have ha := asked_ok (n := n) (sp := sp) hd ho h0 h1
  have : ¬ (m : Int) = 64 := by omega
  simp [f_sector_Disk_Write, ha, hl, this]
theorem len_ok (hd : Dk p ds ws L) (ho : Own h (L ++ F)) : f_sector_Disk_Len n (some ⟨p, 0, sp⟩) h = some (((ds.length : Int), ()), h) := by
  obtain ⟨sd, sw, A, B, a1, a2, a3, rfl⟩ := hd
  have hg := ho.head
  simp [f_sector_Disk_Len, ldT_of hg, a1.lenB]
theorem read_any (hd : Dk p ds ws L) (ho : Own h (L ++ F)) (hi : i < ds.length) (hW : ws.length ≤ 1000) (hn : 2000 ≤ n) :
    ∃ s h' A', f_sector_Disk_Read n (some ⟨p, 0, none⟩) (i : Int) h = some ((s, (0, ())), h') ∧ Slc 1 s 64 (iz .u8 (rdv ws i ds[i])) A' ∧ Own h' (A' ++ (L ++ F)) := by
  have o1 := ho.new (.cells [.int .i64 (i : Int)] false 0)
  generalize hb0 : h.next = b0 at o1
  generalize hh1 : h.new (.cells [.int .i64 (i : Int)] false 0) = h1 at o1
  have o2 := o1.new (.cells [.slice none 0 0] false 0)
  generalize hb1 : h1.next = b1 at o2
  generalize hh2 : h1.new (.cells [.slice none 0 0] false 0) = h2 at o2
  have o3 := o2.new (.cells [.int .i64 0] false 0)
  generalize hb2 : h2.next = b2 at o3
  generalize hh3 : h2.new (.cells [.int .i64 0] false 0) = h3 at o3
  have ha := asked_ok (n := n) (sp := none) (i := (i : Int)) hd (F := (b2, .cells [.int .i64 0] false 0) :: (b1, .cells [.slice none 0 0] false 0) :: (b0, .cells [.int .i64 (i : Int)] false 0) :: F) (h := h3) (o3.to fun x => by simp only [cnt_append, cnt_cons]; omega) (by omega) (by omega)
  obtain ⟨sd, sw, A, B, a1, a2, a3, rfl⟩ := hd
  have g3 := o3.get (p, .cells [sd, sw] false 0) (by simp)
  have l1 : ldT .any h3 (some ⟨p, 1, none⟩) = some sw := by rw [ldT_of g3]; rfl
  have l0 : ldT (.int .i64) h3 (some ⟨b0, 0, none⟩) = some (i : Int) := by rw [ldT_of (o3.get (b0, .cells [.int .i64 (i : Int)] false 0) (by simp))]; simp
  have o4 := o3.new (.cells [sw] false 0)
  generalize hb3 : h3.next = b3 at o4
  generalize hh4 : h3.new (.cells [sw] false 0) = h4 at o4
  have o5 := o4.hole.hole
  generalize hh5 : h4.hole.hole = h5 at o5
  have lw : ldT .any h5 (some ⟨b3, 0, none⟩) = some sw := by rw [ldT_of o5.head]; rfl
  have hl0 : lenB sw = some ws.length := a2.lenB
  have hcs := a2.cellsOf
  have hbw : f_slices_Backward_sector_waiting_sector_waiting n sw h3 = some ((((some ⟨b3, 0, none⟩), ()), ()), h4) := by
    have : ([sw] : List Value).all isCell = true := by simp [a2.isCell]
    simp only [f_slices_Backward_sector_waiting_sector_waiting, hcs, this, cond_true, bnd_eq, hh4, nwA_eq, hb3]
  have hw : IntKind.i64.wrap ((ws.length : Int) - 1) = (ws.length : Int) - 1 := wrap_i64 (by omega) (by omega)
  -- the writes, the last one first
  let Fr : Ch := (p, .cells [sd, sw] false 0) :: (A ++ (B ++ F))
  let C0 : Ch := [(b0, .cells [.int .i64 (i : Int)] false 0), (b3, .cells [sw] false 0)]
  obtain ⟨⟨h6, c6⟩, e6, q6⟩ := loopT_up (f := fun a => f_slices_Backward_sector_waiting_sector_waiting_1_L8 (V := Heap × Nat) (fun v => v.1) (fun v h => (h, v.2)) (fun a v => f_sector_Disk_Read_B23 n h h1 h2 a.1 a.2.1 v) n (some ⟨b3, 0, none⟩) a.1.1 a.2)
    (fun j (a : (Int × Unit) × (Heap × Nat)) => a.1.1 = (ws.length : Int) - 1 - j ∧ a.2.2 = 0 ∧ rdv (ws.take (ws.length - j)) i ds[i] = rdv ws i ds[i] ∧ Own a.2.1 ((b2, .cells [.int .i64 0] false 0) :: (b1, .cells [.slice none 0 0] false 0) :: (C0 ++ Fr)))
    (fun r => (r.2 = 0 ∧ rdv ws i ds[i] = ds[i] ∧ Own r.1 ((b2, .cells [.int .i64 0] false 0) :: (b1, .cells [.slice none 0 0] false 0) :: (C0 ++ Fr))) ∨
      (r.2 = 1 ∧ ∃ s A', Slc 1 s 64 (iz .u8 (rdv ws i ds[i])) A' ∧ Own r.1 ((b2, .cells [.int .i64 0] false 0) :: (b1, .cells [s] false 0) :: (A' ++ Fr))))
    (N := ws.length) (k := n) (j := 0) (a := (((ws.length : Int) - 1, ()), (h5, 0))) (by omega) (by omega)
    ⟨by simp, rfl, by simp, o5.to fun x => by simp only [C0, Fr, cnt_append, cnt_cons, cnt_nil, List.cons_append]; omega⟩
    (fun j a hj hi' => by
      obtain ⟨⟨v, _⟩, h1', c⟩ := a
      obtain ⟨rfl, rfl, i3, i4⟩ := hi'
      have i3 : rdv (ws.take (ws.length - j)) i ds[i] = rdv ws i ds[i] := i3
      have i4 : Own h1' _ := i4
      have hk : ws.length - 1 - j < ws.length := by omega
      have hv : (ws.length : Int) - 1 - j = ((ws.length - 1 - j : Nat) : Int) := by omega
      have hv2 : IntKind.i64.wrap ((ws.length : Int) - 1 - j - 1) = (ws.length : Int) - 1 - ((j + 1 : Nat) : Int) := by rw [wrap_i64 (by omega) (by omega)]; omega
      have hp0 : (0 : Int) ≤ ((ws.length - 1 - j : Nat) : Int) := by omega
      generalize hkk : ws.length - 1 - j = k at hk hv hp0
      have lw' : ldT .any h1' (some ⟨b3, 0, none⟩) = some sw := by rw [ldT_of (i4.get (b3, .cells [sw] false 0) (by simp [C0]))]; rfl
      have l0' : ∀ {g : Heap} {F' : Ch}, Own g ((b0, .cells [.int .i64 (i : Int)] false 0) :: F') → ldT (.int .i64) g (some ⟨b0, 0, none⟩) = some (i : Int) := fun o => by rw [ldT_of o.head]; simp
      obtain ⟨q, h2', e1, e2, e3, oo⟩ := temp_ok (j := k) (F := (b2, .cells [.int .i64 0] false 0) :: (b1, .cells [.slice none 0 0] false 0) :: (C0 ++ (p, .cells [sd, sw] false 0) :: (A ++ F))) a2 a3 (i4.to fun x => by simp only [C0, Fr, cnt_append, cnt_cons, cnt_nil, List.cons_append]; omega) hk
      generalize ht : h1'.next = t at e3 oo
      have lt : ldT (.int .i64) h2' (some ⟨t, 0, none⟩) = some ws[k].1 := by rw [ldT_of oo.head]; simp [wc]
      have oo2 : Own h2' ((b0, .cells [.int .i64 (i : Int)] false 0) :: (t, .cells (wc ws[k]) false 0) :: ((b2, .cells [.int .i64 0] false 0) :: (b1, .cells [.slice none 0 0] false 0) :: ((b3, .cells [sw] false 0) :: Fr))) := oo.to fun x => by simp only [C0, Fr, cnt_append, cnt_cons, cnt_nil, List.cons_append]; omega
      have lb := l0' oo2
      have htk : ws.take (ws.length - j) = ws.take k ++ [ws[k]] := by rw [show ws.length - j = k + 1 by omega, take_snoc hk]
      rw [htk, rdv_snoc] at i3
      simp only [z65, List.replicate] at e3
      by_cases hs : ws[k].1 = (i : Int)
      · rw [if_pos hs] at i3
        have hX : (iz .u8 ws[k].2).length = 64 := by have := a3.w _ (List.getElem_mem hk); simpa [wc] using this
        have e4 : sliceArrK h2' 64 1 none none (.pointer (some ⟨t, 1, none⟩)) = some (.slice (some ⟨t, 1, some 0⟩) 64 64, h2') := rfl
        have hpc := Sow.piece (b := t) (off := 1) (n := 64) (c := 64) (sp := some 0) (cs := wc ws[k]) (ro := false) (e := 0) (by have := a3.w _ (List.getElem_mem hk); omega)
        have hpc' : Sow 1 (.slice (some ⟨t, 1, some 0⟩) 64 64) 64 (iz .u8 ws[k].2) [(t, .cells (wc ws[k]) false 0)] := by
          have : ((wc ws[k]).drop 1).take 64 = iz .u8 ws[k].2 := by
            show (iz .u8 ws[k].2).take 64 = _
            rw [List.take_of_length_le (by omega)]
          rwa [this] at hpc
        obtain ⟨s', h3', A', e5, e6, o6⟩ := clone1_ok (n := n) hpc' (F := (b1, .cells [.slice none 0 0] false 0) :: (b2, .cells [.int .i64 0] false 0) :: Fr) (h := h2') (oo2.to fun x => by simp only [C0, Fr, cnt_append, cnt_cons, cnt_nil, List.cons_append]; omega) (by omega)
        have o7 : Own h3' ((b1, .cells [.slice none 0 0] false 0) :: (b2, .cells [.int .i64 0] false 0) :: (A' ++ Fr)) := o6.to fun x => by simp only [cnt_append, cnt_cons, cnt_nil]; omega
        have e7 := stB1_of (sp := none) (o := 0) (v := s') o7.head e6.cellsOf e6.isCell (by decide)
        have o8 := o7.put (.cells [s'] false 0)
        simp only [List.set_cons_zero] at e7
        generalize hh7 : h3'.put b1 (.cells [s'] false 0) = h7 at e7 o8
        have o9 : Own h7 ((b2, .cells [.int .i64 0] false 0) :: (b1, .cells [s'] false 0) :: (A' ++ Fr)) := o8.to fun x => by simp only [cnt_append, cnt_cons]; omega
        have e8 := stB1_of (sp := none) (o := 0) (v := .int .i64 0) o9.head rfl rfl (by decide)
        have o10 := o9.put (.cells [.int .i64 0] false 0)
        simp only [List.set_cons_zero] at e8
        refine .inr ⟨(_, 1), ?_, .inr ⟨rfl, s', A', by rw [← i3]; exact e6, o10⟩⟩
        simp only [f_slices_Backward_sector_waiting_sector_waiting_1_L8, hv, hp0, decide_true, cond_true, lw', Option.bind_some, e1, e2, f_sector_Disk_Read_B23, nat_beq_eq, bnd_eq, nwA_eq, ht, e3, fa_mk, Nat.zero_add, lt, hb0, lb, hs, e4, e5, hb1, e7, hb2, e8, Bool.not_false]
        rfl
      · rw [if_neg hs] at i3
        refine .inl ⟨(((ws.length : Int) - 1 - ((j + 1 : Nat) : Int), ()), (h2', 0)), ?_, rfl, rfl, ?_, oo2.to fun x => by simp only [C0, Fr, cnt_append, cnt_cons, cnt_nil, List.cons_append]; omega⟩
        · rw [hv] at hv2
          simp only [f_slices_Backward_sector_waiting_sector_waiting_1_L8, hv, hp0, decide_true, cond_true, lw', Option.bind_some, e1, e2, f_sector_Disk_Read_B23, nat_beq_eq, bnd_eq, nwA_eq, ht, e3, fa_mk, Nat.zero_add, lt, hb0, lb, hs, decide_false, cond_false, Bool.not_true, hv2]
        · rw [show ws.length - (j + 1) = k by omega]; exact i3)
    (fun a hi' => by
      obtain ⟨⟨v, _⟩, h1', c⟩ := a
      obtain ⟨rfl, rfl, i3, i4⟩ := hi'
      have hneg : ¬ (0 : Int) ≤ (ws.length : Int) - 1 - ws.length := by omega
      refine ⟨(h1', 0), by simp only [f_slices_Backward_sector_waiting_sector_waiting_1_L8, decide_eq_false hneg, cond_false], .inl ⟨rfl, ?_, i4⟩⟩
      have i3 : rdv (ws.take (ws.length - ws.length)) i ds[i] = rdv ws i ds[i] := i3
      rw [Nat.sub_self] at i3
      exact i3.symm)
  have hit : f_slices_Backward_sector_waiting_sector_waiting_1 (V := Heap × Nat) (fun v => v.1) (fun v h => (h, v.2)) (fun a v => f_sector_Disk_Read_B23 n h h1 h2 a.1 a.2.1 v) n (some ⟨b3, 0, none⟩) (h5, 0) = some (h6, c6) := by
    simp only [f_slices_Backward_sector_waiting_sector_waiting_1, lw, Option.bind_some, hl0, hw]
    exact e6
  rcases q6 with ⟨q1, q2, q3⟩ | ⟨q1, s', A', q2, q3⟩
  · have q1 : c6 = 0 := q1
    subst q1
    have q3 : Own h6 _ := q3
    have g6 := q3.get (p, .cells [sd, sw] false 0) (by simp [C0, Fr])
    have l5 : ldT .any h6 (some ⟨p, 0, none⟩) = some sd := by rw [ldT_of g6]; rfl
    have l6 : ldT (.int .i64) h6 (some ⟨b0, 0, none⟩) = some (i : Int) := by rw [ldT_of (q3.get (b0, .cells [.int .i64 (i : Int)] false 0) (by simp [C0]))]; simp
    obtain ⟨q, e1, e2⟩ := slc_part a1 hi (some 0)
    rw [flat_get a3.d hi] at e2
    have e3 : sliceArrK h6 64 1 none none (.pointer (some q)) = some (.slice (some ⟨q.block, q.off, some 0⟩) 64 64, h6) := by
      show some (Value.slice (some ⟨q.block, q.off + 0 * 1, some 0⟩) 64 64, h6) = _
      rfl
    obtain ⟨s', h7, A', e4, e5, o6⟩ := clone1_ok (n := n) (G := A) e2 (F := (b1, .cells [.slice none 0 0] false 0) :: (b2, .cells [.int .i64 0] false 0) :: (p, .cells [sd, sw] false 0) :: (B ++ F)) (h := h6) (q3.to fun x => by simp only [C0, Fr, cnt_append, cnt_cons, cnt_nil, List.cons_append]; omega) (by omega)
    have o7 : Own h7 ((b1, .cells [.slice none 0 0] false 0) :: (b2, .cells [.int .i64 0] false 0) :: (A' ++ ((p, .cells [sd, sw] false 0) :: (A ++ (B ++ F))))) := o6.to fun x => by simp only [cnt_append, cnt_cons]; omega
    have e7 := stB1_of (sp := none) (o := 0) (v := s') o7.head e5.cellsOf e5.isCell (by decide)
    have o8 := o7.put (.cells [s'] false 0)
    simp only [List.set_cons_zero] at e7
    generalize hh7 : h7.put b1 (.cells [s'] false 0) = h8 at e7 o8
    have o9 : Own h8 ((b2, .cells [.int .i64 0] false 0) :: (b1, .cells [s'] false 0) :: (A' ++ ((p, .cells [sd, sw] false 0) :: (A ++ (B ++ F))))) := o8.to fun x => by simp only [cnt_append, cnt_cons]; omega
    have e8 := stB1_of (sp := none) (o := 0) (v := .int .i64 0) o9.head rfl rfl (by decide)
    have o10 := o9.put (.cells [.int .i64 0] false 0)
    simp only [List.set_cons_zero] at e8
    generalize hh8 : h8.put b2 (.cells [.int .i64 0] false 0) = h9 at e8 o10
    have l7 : ldT .any h9 (some ⟨b1, 0, none⟩) = some s' := by rw [ldT_of (o10.get (b1, .cells [s'] false 0) (by simp))]; rfl
    have l8 : ldT (.int .i64) h9 (some ⟨b2, 0, none⟩) = some 0 := by rw [ldT_of o10.head]; rfl
    refine ⟨s', h9, A', ?_, by rw [q2]; exact e5, o10.to fun x => by simp only [cnt_append, cnt_cons, List.cons_append]; omega⟩
    simp only [f_sector_Disk_Read, bnd_eq, hh1, hh2, hh3, nwA_eq, hb0, hb1, hb2, l0, Option.bind_some, ha, decide_true, Bool.not_true, cond_false, fa_mk, Nat.zero_add, l1, hbw, hh5, hit, nat_beq_eq, cond_true, l5, l6, e1, e3, e4, e7, e8, l7, e5.notT, Bool.not_false, l8]
  · have q1 : c6 = 1 := q1
    subst q1
    have q3 : Own h6 _ := q3
    have l7 : ldT .any h6 (some ⟨b1, 0, none⟩) = some s' := by rw [ldT_of (q3.get (b1, .cells [s'] false 0) (by simp))]; rfl
    have l8 : ldT (.int .i64) h6 (some ⟨b2, 0, none⟩) = some 0 := by rw [ldT_of q3.head]; rfl
    refine ⟨s', h6, A', ?_, q2, q3.to fun x => by simp only [Fr, cnt_append, cnt_cons, List.cons_append]; omega⟩
    simp only [f_sector_Disk_Read, bnd_eq, hh1, hh2, hh3, nwA_eq, hb0, hb1, hb2, l0, Option.bind_some, ha, decide_true, Bool.not_true, cond_false, fa_mk, Nat.zero_add, l1, hbw, hh5, hit, show Nat.beq 1 0 = false from rfl, show Nat.beq 1 1 = true from rfl, cond_true, l7, q2.notT, Bool.not_false, l8]
end
/- ==== from Sx2 -/
structure Wx where
  z : Int
  v : Value
  X : List Int
  A : Ch
def Wx.cells (e : Wx) : List Value := [.int .i64 e.z, e.v]
def Wx.key (e : Wx) : Int × List Int := (e.z, e.X)
theorem wxA {z v X A} : Wx.A ⟨z, v, X, A⟩ = A := rfl
def Wl (s : Value) (es : List Wx) (L : Ch) : Prop := ∃ B, Slc 2 s es.length (es.flatMap Wx.cells) B ∧ (∀ e ∈ es, Slc 1 e.v e.X.length (iz .u8 e.X) e.A) ∧ L = B ++ es.flatMap Wx.A
theorem wd_cnt {es : List Wx} {j : Nat} (hj : j < es.length) (x : Nat × AObj) : cnt x (es.flatMap Wx.A) = cnt x es[j].A + cnt x ((es.eraseIdx j).flatMap Wx.A) := by
  induction es generalizing j with
  | nil => simp at hj
  | cons e es ih =>
    cases j with
    | zero => simp only [List.flatMap_cons, cnt_append, List.getElem_cons_zero, List.eraseIdx_cons_zero]
    | succ j =>
      simp only [List.flatMap_cons, cnt_append, List.getElem_cons_succ, List.eraseIdx_cons_succ]
      have := ih (j := j) (by simpa using hj)
      omega
section
variable {n p i m : Nat} {sp : Option Nat} {ds : List (List Int)} {ws : List (Int × List Int)} {L F G A B : Ch} {h : Heap} {z : Int} {s u : Value} {X K : List Int} {cs : List Value} {es es' : List Wx}
theorem wd_at {b : Ch} (hs : Slc 2 s es.length (es.flatMap Wx.cells) b) (ho : Own h (b ++ F)) {j : Nat} (hj : j < es.length) :
    ∃ q, ixB 2 s (j : Int) = some q ∧ ldT (.int .i64) h (some (fa q 0)) = some es[j].z ∧ ldT .any h (some (fa q 1)) = some es[j].v ∧ ldA 2 h (some q) = some [.int .i64 es[j].z, es[j].v] := by
  obtain ⟨q, e1, e2⟩ := (hs.rds ho).ix j hj
  rw [flat_get (f := Wx.cells) (fun e _ => rfl) hj] at e2
  refine ⟨q, e1, ?_, ?_, ?_⟩
  · rw [e2.ldT (v := .int .i64 es[j].z) rfl]; simp
  · rw [e2.ldT (v := es[j].v) rfl]; rfl
  · rw [e2.ldA0 (k := 2) (Nat.le_refl _)]; rfl
theorem waiting_ok (hd : Dk p ds ws L) (ho : Own h (L ++ F)) (hW : ws.length ≤ 1000) (hn : 2000 ≤ n) :
    ∃ s h' es W, f_sector_Disk_Waiting n (some ⟨p, 0, sp⟩) h = some ((s, ()), h') ∧ Wl s es W ∧ es.map Wx.key = ws ∧ Own h' (W ++ (L ++ F)) := by
  obtain ⟨sd, sw, A, B, a1, a2, a3, rfl⟩ := hd
  have hg := ho.head
  obtain ⟨⟨⟨s', _⟩, h'⟩, e, es, W, q1, q2, q3⟩ := loopT_up (f := fun a => f_sector_Disk_Waiting_L18 n sw ws.length a.1.1 a.1.2.1 a.2)
    (fun j (a : (Value × Int × Unit) × Heap) => a.1.2.1 = (j : Int) ∧ ∃ es W, Wl a.1.1 es W ∧ es.map Wx.key = ws.take j ∧ Own a.2 (W ++ ((p, .cells [sd, sw] false 0) :: (A ++ B) ++ F)))
    (fun r => ∃ es W, Wl r.1.1 es W ∧ es.map Wx.key = ws ∧ Own r.2 (W ++ ((p, .cells [sd, sw] false 0) :: (A ++ B) ++ F))) (N := ws.length) (k := n) (j := 0) (a := ((.slice none 0 0, (0, ())), h)) (by omega) (by omega)
    ⟨rfl, [], [], ⟨[], .nil, (fun _ h => absurd h List.not_mem_nil), rfl⟩, rfl, ho⟩
    (fun j a hj hi => by
      obtain ⟨⟨v, i, _⟩, h1⟩ := a
      obtain ⟨hi0, es, W, ⟨C, w1, w2, rfl⟩, w3, o1⟩ := hi
      have hi0 : i = (j : Int) := hi0
      subst hi0
      have o1 : Own h1 _ := o1
      have w1 : Slc 2 v es.length (es.flatMap Wx.cells) C := w1
      have hlt : (j : Int) < (ws.length : Int) := by omega
      have hel : es.length = j := by have := congrArg List.length w3; simp at this; omega
      obtain ⟨q, h2, e1, e2, e3, o2⟩ := temp_ok (F := (p, .cells [sd, sw] false 0) :: (A ++ (C ++ (es.flatMap Wx.A ++ F)))) a2 a3 (o1.to fun x => by simp only [cnt_append, cnt_cons]; omega) hj
      generalize ht : h1.next = t at e3 o2
      have hX : (iz .u8 ws[j].2).length = 64 := by have := a3.w _ (List.getElem_mem hj); simpa [wc] using this
      have lt : ldT (.int .i64) h2 (some ⟨t, 0, none⟩) = some ws[j].1 := by rw [ldT_of o2.head]; simp [wc]
      have e4 : sliceArrK h2 64 1 none none (.pointer (some ⟨t, 1, none⟩)) = some (.slice (some ⟨t, 1, some 0⟩) 64 64, h2) := rfl
      have hpc := Sow.piece (b := t) (off := 1) (n := 64) (c := 64) (sp := some 0) (cs := wc ws[j]) (ro := true) (e := 0) (by have := a3.w _ (List.getElem_mem hj); omega)
      have hpc' : Sow 1 (.slice (some ⟨t, 1, some 0⟩) 64 64) 64 (iz .u8 ws[j].2) [(t, .cells (wc ws[j]) true 0)] := by
        have : ((wc ws[j]).drop 1).take 64 = iz .u8 ws[j].2 := by
          show (iz .u8 ws[j].2).take 64 = _
          rw [List.take_of_length_le (by omega)]
        rwa [this] at hpc
      obtain ⟨s5, h3, A5, e5, e6, o3⟩ := clone1_ok (n := n) hpc' o2.ro (by omega)
      have o4 := Own.back (X := A5 ++ (B ++ ((p, .cells [sd, sw] false 0) :: (A ++ (C ++ (es.flatMap Wx.A ++ F)))))) (o3.to fun x => by simp only [List.append_eq, cnt_append, cnt_cons, cnt_nil]; omega) o2.head
      generalize hh4 : h3.putBack h2 [t] = h4 at o4
      have hX' : ws[j].2.length = 64 := by simpa using hX
      obtain ⟨s6, h6, C', e7, e8, o6⟩ := w1.push (new := [.int .i64 ws[j].1, s5]) (F := A5 ++ (es.flatMap Wx.A ++ ((p, .cells [sd, sw] false 0) :: (A ++ B) ++ F))) (h := h4) (o4.to fun x => by simp only [cnt_append, cnt_cons, List.cons_append]; omega) (by decide) rfl (bytes := 32) (by omega)
      refine .inl ⟨((s6, (((j + 1 : Nat) : Int), ())), h6), ?_, rfl, es ++ [⟨ws[j].1, s5, ws[j].2, A5⟩], _, ⟨C', ?_, ?_, rfl⟩, ?_, o6.to fun x => by simp only [cnt_append, cnt_cons, cnt_nil, List.cons_append, List.flatMap_append, List.flatMap_cons, List.flatMap_nil, wxA]; omega⟩
      · have f1 : fillL [.int .i64 0, .slice none 0 0] [(0, 1, .int .i64 ws[j].1), (1, 1, s5)] = some [.int .i64 ws[j].1, s5] := by
          obtain ⟨x, y, rfl⟩ := e6.form; rfl
        have f2 : fillL [.int .i64 0, .slice none 0 0] [(0, 2, .agg ⟨[.int .i64 ws[j].1, s5]⟩)] = some [.int .i64 ws[j].1, s5] := by
          obtain ⟨x, y, rfl⟩ := e6.form; rfl
        simp only [z65, List.replicate] at e3
        simp only [f_sector_Disk_Waiting_L18, hlt, decide_true, cond_true, e1, e2, Option.bind_some, bnd_eq, nwA_eq, ht, e3, fa_mk, Nat.zero_add, lt, e4, e5, List.nil_append, hh4, f1, f2, e7, wrap_succ (show j < 4611686018427387904 by omega)]
      · show Slc 2 s6 _ _ C'
        rw [List.flatMap_append, List.length_append]; exact e8
      · intro e he
        rcases List.mem_append.1 he with he | he
        · exact w2 e he
        · rw [List.mem_singleton] at he; subst he
          show Slc 1 s5 ws[j].2.length (iz .u8 ws[j].2) A5
          rw [hX']; exact e6
      · rw [List.map_append, w3, take_snoc hj]; rfl)
    (fun a hi => by
      obtain ⟨⟨v, i, _⟩, h1⟩ := a
      obtain ⟨hi0, es, W, w0, w3, o1⟩ := hi
      have hi0 : i = (ws.length : Int) := hi0
      subst hi0
      have hT : isTuple v = false := by obtain ⟨C, w1, _⟩ := w0; exact w1.notT
      rw [List.take_length] at w3
      exact ⟨((v, ()), h1), by simp [f_sector_Disk_Waiting_L18, hT], es, W, w0, w3, o1⟩)
  refine ⟨s', h', es, W, ?_, q1, q2, q3⟩
  simp only [f_sector_Disk_Waiting, Option.isNone_some, cond_false, Option.bind_some, fa_mk, Nat.zero_add, ldT_of hg, List.getElem?_cons_succ, List.getElem?_cons_zero, prj_any, a2.lenB]
  exact e
end
/- ==== from Sx5 -/
section
variable {n p k i j m : Nat} {sp : Option Nat} {ds D1 : List (List Int)} {ws : List (Int × List Int)} {L F G A B : Ch} {h : Heap} {s u : Value} {X K W : List Int} {cs : List Value}
theorem slc_sub {kk k' : IntKind} (hs : Slc 1 s n cs A) (hij : i ≤ j) (hj : j ≤ n) : ∃ u, sliceK h 1 (some (.int kk (i : Int))) (some (.int k' (j : Int))) none s = some (u, h) ∧ Sow 1 u (j - i) ((cs.drop i).take (j - i)) A := by
  cases hs with
  | nil =>
    obtain rfl : j = 0 := by omega
    obtain rfl : i = 0 := by omega
    exact ⟨_, rfl, Slc.nil.sow⟩
  | @mk b off sp' _ c pre _ rest hp hl hr =>
    subst hp
    refine ⟨_, sliceK_lh hij (by omega), ?_⟩
    have := Sow.piece (b := b) (off := pre.length + i * 1) (n := j - i) (c := c - i) (sp := sp') (cs := pre ++ (cs ++ rest)) (ro := false) (e := 1) (by simp; omega)
    have e : ((pre ++ (cs ++ rest)).drop (pre.length + i * 1)).take (j - i) = (cs.drop i).take (j - i) := by rw [Nat.mul_one, ← List.drop_drop, List.drop_left, List.drop_append_of_le_length (by omega), List.take_append_of_le_length (by simp; omega)]
    rw [← e]; exact this
theorem iz_flatten {ds : List (List Int)} : iz .u8 ds.flatten = ds.flatMap (iz .u8) := by
  induction ds with
  | nil => rfl
  | cons d ds ih => simp [ih]
end
def Rd' (p : Nat) (ds : List (List Int)) (ws : List (Int × List Int)) (L : Ch) : Prop :=
  ∃ (sd sw : Value) (A B : Ch) (es : List Wx), Slc 1 sd (ds.length * 64) (ds.flatMap (iz .u8)) A ∧ Slc 2 sw es.length (es.flatMap Wx.cells) B ∧ (∀ e ∈ es, Slc 1 e.v e.X.length (iz .u8 e.X) e.A) ∧ es.map Wx.key = ws ∧ Okd ds ws ∧ L = (p, .cells [sd, sw] false 0) :: (A ++ (B ++ es.flatMap Wx.A))
section
variable {n p k i j m : Nat} {sp : Option Nat} {ds : List (List Int)} {ws : List (Int × List Int)} {L F G A B : Ch} {h : Heap} {s u : Value} {X K W : List Int} {cs : List Value} {z : Int} {es : List Wx}
theorem div64 {N : Nat} (h : N ≤ 4096) : IntKind.i64.wrap (Int.tdiv ((N * 64 : Nat) : Int) 64) = (N : Int) := by
  have : Int.tdiv ((N * 64 : Nat) : Int) 64 = ((N * 64 / 64 : Nat) : Int) := rfl
  rw [this, Nat.mul_div_cancel _ (by decide), wrap_i64 (by omega) (by omega)]
theorem keys_at {es : List Wx} (hk : es.map Wx.key = ws) {j : Nat} (hj : j < es.length) (hj' : j < ws.length) : es[j].z = ws[j].1 ∧ es[j].X = ws[j].2 := by
  subst hk
  simp [Wx.key]
theorem rlen_ok (hd : Rd' p ds ws L) (ho : Own h (L ++ F)) (hN : ds.length ≤ 4096) : f_r4_Disk_Len n (some ⟨p, 0, sp⟩) h = some (((ds.length : Int), ()), h) := by
  obtain ⟨sd, sw, A, B, es, a1, a2, a3, a4, a5, rfl⟩ := hd
  have hg := ho.head
  simp only [f_r4_Disk_Len, Option.bind_some, fa_mk, Nat.zero_add, ldT_of hg, List.getElem?_cons_zero, prj_any, a1.lenB, div64 hN]
theorem rwrite_bad (hd : Rd' p ds ws L) (ho : Own h (L ++ F)) (hN : ds.length ≤ 4096) (hz : z < 0 ∨ (ds.length : Int) ≤ z) : f_r4_Disk_Write n (some ⟨p, 0, sp⟩) z u h = some ((40, ()), h) := by
  have e := rlen_ok (n := n) (sp := sp) hd ho hN
  by_cases h0 : z < 0
  · simp [f_r4_Disk_Write, h0]
  · have h1 : (ds.length : Int) ≤ z := by omega
    simp [f_r4_Disk_Write, h0, e, h1]
theorem rwrite_len (hd : Rd' p ds ws L) (ho : Own h (L ++ F)) (hN : ds.length ≤ 4096) (h0 : 0 ≤ z) (h1 : z < ds.length) (hl : lenB u = some m) (hm : m ≠ 64) : f_r4_Disk_Write n (some ⟨p, 0, sp⟩) z u h = some ((2, ()), h) := by
  have e := rlen_ok (n := n) (sp := sp) hd ho hN
  have c0 : ¬ z < 0 := by omega
  have c1 : ¬ (ds.length : Int) ≤ z := by omega
  have c2 : ¬ (m : Int) = 64 := by omega
  simp [f_r4_Disk_Write, c0, e, c1, hl, c2]
theorem rread_ok (hd : Rd' p ds ws L) (ho : Own h (L ++ F)) (hN : ds.length ≤ 4096) (hi : i < ds.length) (hW : ws.length ≤ 1000) (hn : 2000 ≤ n) :
    ∃ s h' A', f_r4_Disk_Read n (some ⟨p, 0, sp⟩) (i : Int) h = some ((s, (0, ())), h') ∧ Slc 1 s 64 (iz .u8 (rdv ws i ds[i])) A' ∧ Own h' (A' ++ (L ++ F)) := by
  have el := rlen_ok (n := n) (sp := sp) hd ho hN
  obtain ⟨sd, sw, A, B, es, a1, a2, a3, a4, a5, rfl⟩ := hd
  have hel : es.length = ws.length := by have := congrArg List.length a4; simpa using this
  have c0 : ¬ (i : Int) < 0 := by omega
  have c1 : ¬ (ds.length : Int) ≤ (i : Int) := by omega
  have w1 : IntKind.i64.wrap ((i : Int) * 64) = ((i * 64 : Nat) : Int) := by rw [wrap_i64 (by omega) (by omega)]; omega
  have w2 : IntKind.i64.wrap (IntKind.i64.wrap ((i : Int) + 1) * 64) = ((i * 64 + 64 : Nat) : Int) := by rw [wrap_succ (by omega), wrap_i64 (by omega) (by omega)]; omega
  have o1 := ho.new (.cells [] false 1)
  have hs0 : Slc 1 (.slice (some ⟨h.next, 0, some 0⟩) 0 0) 0 [] [(h.next, .cells ([] ++ ([] ++ [])) false 1)] := .mk rfl rfl rfl
  generalize hb : h.next = b at hs0 o1
  generalize hh1 : h.new (.cells [] false 1) = h1 at o1
  have g1 := o1.get (p, .cells [sd, sw] false 0) (by simp)
  obtain ⟨u1, e1, r1⟩ := slc_sub (h := h1) (i := i * 64) (j := i * 64 + 64) (kk := .i64) (k' := .i64) a1 (by omega) (by omega)
  have hsec : ((ds.flatMap (iz .u8)).drop (i * 64)).take (i * 64 + 64 - i * 64) = iz .u8 ds[i] := by
    rw [Nat.add_sub_cancel_left, flat_get a5.d hi]
  rw [hsec, Nat.add_sub_cancel_left] at r1
  obtain ⟨s2, h2, A2, e2, e3, o2⟩ := r1.app hs0 (F := (p, .cells [sd, sw] false 0) :: ((B ++ es.flatMap Wx.A) ++ F)) (h := h1) (o1.to fun x => by simp only [cnt_append, cnt_cons, cnt_nil, List.cons_append, List.nil_append, List.append_nil]; omega) (by decide) (bytes := 1) (by omega)
  obtain ⟨⟨⟨s', _⟩, h'⟩, e, A', q1, q2⟩ := loopT_up (f := fun a => f_r4_Disk_Read_L26 n (i : Int) (some ⟨p, 0, sp⟩) a.1.1 a.1.2.1 a.2)
    (fun j (a : (Value × Int × Unit) × Heap) => a.1.2.1 = (j : Int) ∧ ∃ A', Slc 1 a.1.1 64 (iz .u8 (rdv (ws.take j) i ds[i])) A' ∧ Own a.2 (A' ++ ((p, .cells [sd, sw] false 0) :: (A ++ (B ++ es.flatMap Wx.A)) ++ F)))
    (fun r => ∃ A', Slc 1 r.1.1 64 (iz .u8 (rdv ws i ds[i])) A' ∧ Own r.2 (A' ++ ((p, .cells [sd, sw] false 0) :: (A ++ (B ++ es.flatMap Wx.A)) ++ F))) (N := ws.length) (k := n) (j := 0) (a := ((s2, (0, ())), h2)) (by omega) (by omega)
    ⟨rfl, A2, by simpa [rdv] using e3, o2.to fun x => by simp only [cnt_append, cnt_cons, List.cons_append]; omega⟩
    (fun j a hj hi' => by
      obtain ⟨⟨v, i1, _⟩, h1⟩ := a
      obtain ⟨hi0, A1, hs1, o1⟩ := hi'
      have hi0 : i1 = (j : Int) := hi0
      subst hi0
      have o1 : Own h1 _ := o1
      have hs1 : Slc 1 v 64 (iz .u8 (rdv (ws.take j) i ds[i])) A1 := hs1
      have hje : j < es.length := by omega
      have hlt : (j : Int) < (es.length : Int) := by omega
      have g1 := o1.get (p, .cells [sd, sw] false 0) (by simp)
      have l1 : ldT .any h1 (some ⟨p, 1, none⟩) = some sw := by rw [ldT_of g1]; rfl
      obtain ⟨hz, hX⟩ := keys_at a4 hje hj
      obtain ⟨q, d1, d2, d3, _⟩ := wd_at (F := (p, .cells [sd, sw] false 0) :: (A1 ++ (A ++ (es.flatMap Wx.A ++ F)))) a2 (o1.to fun x => by simp only [cnt_append, cnt_cons, List.cons_append]; omega) hje
      by_cases hs : es[j].z = (i : Int)
      · have o3 := o1.new (.cells [] false 1)
        have hs0 : Slc 1 (.slice (some ⟨h1.next, 0, some 0⟩) 0 0) 0 [] [(h1.next, .cells ([] ++ ([] ++ [])) false 1)] := .mk rfl rfl rfl
        generalize hb : h1.next = b at hs0 o3
        generalize hh1 : h1.new (.cells [] false 1) = h3 at o3
        have g3 := o3.get (p, .cells [sd, sw] false 0) (by simp)
        have l3 : ldT .any h3 (some ⟨p, 1, none⟩) = some sw := by rw [ldT_of g3]; rfl
        obtain ⟨q', d1', _, d3', _⟩ := wd_at (F := (b, .cells [] false 1) :: (p, .cells [sd, sw] false 0) :: (A1 ++ (A ++ (es.flatMap Wx.A ++ F)))) a2 (o3.to fun x => by simp only [cnt_append, cnt_cons, List.cons_append]; omega) hje
        obtain rfl : q = q' := by rw [d1] at d1'; exact Option.some.inj d1'
        have hxl : es[j].X.length = 64 := by have := a5.w _ (List.getElem_mem hj); simp [wc] at this; rw [hX]; omega
        have hv := a3 _ (List.getElem_mem hje)
        rw [hxl] at hv
        obtain ⟨s4, h4, A4, e4, e5, o4⟩ := hv.sow.app hs0 (F := (p, .cells [sd, sw] false 0) :: (A ++ (B ++ ((es.eraseIdx j).flatMap Wx.A ++ F)))) (h := h3) (o3.to fun x => by have := wd_cnt hje x; simp only [cnt_append, cnt_cons, cnt_nil, List.cons_append, List.nil_append, List.append_nil]; omega) (by decide) (bytes := 1) (by omega)
        refine .inl ⟨((s4, (((j + 1 : Nat) : Int), ())), h4), ?_, rfl, A4, ?_, o4.to fun x => by have := wd_cnt hje x; simp only [cnt_append, cnt_cons, List.cons_append]; omega⟩
        · simp only [f_r4_Disk_Read_L26, Option.bind_some, fa_mk, Nat.zero_add, l1, a2.lenB, hlt, decide_true, cond_true, d1, d2, hs, fill0, bnd_eq, hh1, hb, l3, d1', d3', e4, wrap_succ (show j < 4611686018427387904 by omega)]
        · rw [take_snoc hj, rdv_snoc, if_pos (by rw [← hz]; exact hs), ← hX]
          simpa using e5
      · refine .inl ⟨((v, (((j + 1 : Nat) : Int), ())), h1), ?_, rfl, A1, ?_, o1⟩
        · simp only [f_r4_Disk_Read_L26, Option.bind_some, fa_mk, Nat.zero_add, l1, a2.lenB, hlt, decide_true, cond_true, d1, d2, hs, decide_false, cond_false, wrap_succ (show j < 4611686018427387904 by omega)]
        · rw [take_snoc hj, rdv_snoc, if_neg (by rw [← hz]; exact hs)]; exact hs1)
    (fun a hi' => by
      obtain ⟨⟨v, i1, _⟩, h1⟩ := a
      obtain ⟨hi0, A1, hs1, o1⟩ := hi'
      have hi0 : i1 = ((ws.length : Nat) : Int) := hi0
      subst hi0
      have o1 : Own h1 _ := o1
      have g1 := o1.get (p, .cells [sd, sw] false 0) (by simp)
      have l1 : ldT .any h1 (some ⟨p, 1, none⟩) = some sw := by rw [ldT_of g1]; rfl
      rw [List.take_length] at hs1
      refine ⟨((v, ()), h1), ?_, A1, hs1, o1⟩
      have hlt : ¬ (ws.length : Int) < (es.length : Int) := by omega
      simp only [f_r4_Disk_Read_L26, Option.bind_some, fa_mk, Nat.zero_add, l1, a2.lenB, hlt, decide_false, cond_false])
  have q1 : Slc 1 s' 64 _ A' := q1
  refine ⟨s', h', A', ?_, q1, q2⟩
  have l0 : ldT .any h1 (some ⟨p, 0, none⟩) = some sd := by rw [ldT_of g1]; rfl
  simp only [f_r4_Disk_Read, c0, decide_false, cond_false, el, Option.bind_some, c1, fill0, bnd_eq, hh1, hb, fa_mk, Nat.zero_add, l0, w1, w2, e1, e2, e, q1.notT, Bool.not_false, cond_true]
theorem rwrite_ok (hd : Rd' p ds ws L) (hu : Sow 1 u 64 (iz .u8 X) G) (ho : Own h (L ++ (G ++ F))) (hN : ds.length ≤ 4096) (h0 : 0 ≤ z) (hz1 : z < ds.length) (hlen : ws.length ≤ 1000) :
    ∃ h' L', f_r4_Disk_Write n (some ⟨p, 0, sp⟩) z u h = some ((0, ()), h') ∧ Rd' p ds (ws ++ [(z, X)]) L' ∧ Own h' (L' ++ (G ++ F)) := by
  have el := rlen_ok (n := n) (sp := sp) hd ho hN
  obtain ⟨sd, sw, A, B, es, a1, a2, a3, a4, a5, rfl⟩ := hd
  have hel : es.length = ws.length := by have := congrArg List.length a4; simpa using this
  have c0 : ¬ z < 0 := by omega
  have c1 : ¬ (ds.length : Int) ≤ z := by omega
  have hr := hu.rds (h := h) (F := (p, .cells [sd, sw] false 0) :: (A ++ (B ++ es.flatMap Wx.A) ++ F)) (ho.to fun x => by simp only [cnt_append, cnt_cons, List.cons_append]; omega)
  have hX : (iz .u8 X).length = 64 := hr.len
  have hX' : X.length = 64 := by simpa using hX
  have hg := ho.head
  have l0 : ldT .any h (some ⟨p, 1, none⟩) = some sw := by rw [ldT_of hg]; rfl
  have o1 := ho.new (.cells [] false 1)
  have hs0 : Slc 1 (.slice (some ⟨h.next, 0, some 0⟩) 0 0) 0 [] [(h.next, .cells ([] ++ ([] ++ [])) false 1)] := .mk rfl rfl rfl
  generalize hb : h.next = b at hs0 o1
  generalize hh1 : h.new (.cells [] false 1) = h1 at o1
  have o1' : Own h1 ((p, .cells [sd, sw] false 0) :: ([(b, .cells ([] ++ ([] ++ [])) false 1)] ++ (G ++ (A ++ (B ++ (es.flatMap Wx.A ++ F)))))) := o1.to fun x => by simp only [cnt_append, cnt_cons, cnt_nil, List.cons_append, List.nil_append, List.append_nil]; omega
  obtain ⟨s2, h2, A2, e2, e3, o2⟩ := hu.app hs0 (F := (p, .cells [sd, sw] true 0) :: (A ++ (B ++ (es.flatMap Wx.A ++ F)))) (h := hid h1 [] [p]) (o1'.ro.to fun x => by simp only [cnt_append, cnt_cons]; omega) (by decide) (bytes := 1) (by omega)
  have o3 := Own.back (X := A2 ++ (G ++ (A ++ (B ++ (es.flatMap Wx.A ++ F))))) (o2.to fun x => by simp only [cnt_append, cnt_cons]; omega) o1'.head
  generalize hh3 : h2.putBack h1 [p] = h3 at o3
  obtain ⟨s4, h4, B4, e4, e5, o4⟩ := a2.push (new := [.int .i64 z, s2]) (F := (p, .cells [sd, sw] false 0) :: (A2 ++ (G ++ (A ++ (es.flatMap Wx.A ++ F))))) (h := h3) (o3.to fun x => by simp only [cnt_append, cnt_cons]; omega) (by decide) rfl (bytes := 32) (by omega)
  have o5 : Own h4 ((p, .cells [sd, sw] false 0) :: (A ++ (B4 ++ (es ++ [(⟨z, s2, X, A2⟩ : Wx)]).flatMap Wx.A) ++ (G ++ F))) := o4.to fun x => by simp only [cnt_append, cnt_cons, cnt_nil, List.flatMap_append, List.flatMap_cons, List.flatMap_nil, wxA]; omega
  have e6 := stB1_of (sp := none) (o := 1) (v := s4) o5.head e5.cellsOf e5.isCell (by simp)
  have o6 := o5.put (.cells [sd, s4] false 0)
  refine ⟨_, _, ?_, ⟨sd, s4, A, B4, es ++ [⟨z, s2, X, A2⟩], a1, by rw [List.flatMap_append, List.length_append]; exact e5, fun e he => ?_, by rw [List.map_append, a4]; rfl, ⟨a5.d, fun w hw => ?_, fun w hw => ?_⟩, rfl⟩, o6⟩
  · have f1 : fillL [.int .i64 0, .slice none 0 0] [(0, 1, .int .i64 z), (1, 1, s2)] = some [.int .i64 z, s2] := by obtain ⟨x, y, rfl⟩ := e3.form; rfl
    have f2 : fillL [.int .i64 0, .slice none 0 0] [(0, 2, .agg ⟨[.int .i64 z, s2]⟩)] = some [.int .i64 z, s2] := by obtain ⟨x, y, rfl⟩ := e3.form; rfl
    have hh3' : h2.putBack h1 ([] ++ [p]) = h3 := hh3
    simp only [f_r4_Disk_Write, c0, decide_false, cond_false, el, Option.bind_some, c1, hr.lenB, fill0, bnd_eq, hh1, hb, fa_mk, Nat.zero_add, l0, e2, hh3', f1, f2, e4]
    rw [show (!decide (((64 : Nat) : Int) = 64)) = false from rfl, cond_false, e6]
    rfl
  · rcases List.mem_append.1 he with he | he
    · exact a3 e he
    · rw [List.mem_singleton] at he; subst he
      show Slc 1 s2 X.length (iz .u8 X) A2
      rw [hX']; simpa using e3
  · rcases List.mem_append.1 hw with hw | hw
    · exact a5.w w hw
    · simp only [List.mem_singleton] at hw; subst hw; simp [wc, hX']
  · rcases List.mem_append.1 hw with hw | hw
    · exact a5.r w hw
    · simp only [List.mem_singleton] at hw; subst hw; exact ⟨h0, hz1⟩
end
/- ==== from Sx7 -/
theorem writeAt_snoc {C Y : List Value} {o k : Nat} (h : o + Y.length ≤ C.length) (hk : k < Y.length) : (writeAt C o (Y.take k)).set (o + k) Y[k] = writeAt C o (Y.take (k + 1)) := by
  rw [writeAt_eq _ _ _ (by simp; omega), writeAt_eq _ _ _ (by simp; omega)]
  rw [take_snoc hk, List.length_append, List.length_take, Nat.min_eq_left (by omega)]
  rw [List.set_append_right _ _ (by simp; omega)]
  have : o + k - (C.take o ++ Y.take k).length = 0 := by simp; omega
  rw [this, List.drop_eq_getElem_cons (show o + k < C.length by omega), List.set_cons_zero]
  simp only [List.length_singleton, List.append_assoc, List.singleton_append]
  rfl
section
variable {n p k i j m t : Nat} {sp : Option Nat} {ds : List (List Int)} {ws : List (Int × List Int)} {L F G A B : Ch} {h : Heap} {s u v sd sw : Value} {X K W : List Int} {C : List Value} {z : Int} {es : List Wx} {N : Nat}
theorem rput_ok {h6 : Heap} (ht : h6.next = t) (a1 : Slc 1 sd (N * 64) C A) (hv : Slc 1 v 64 (iz .u8 X) B) (ho : Own h ((t, .cells [.int .i64 z, v] false 0) :: (p, .cells [sd, sw] false 0) :: (A ++ (B ++ F)))) (h0 : 0 ≤ z) (h1 : z < N) (hN : N ≤ 4096) (hn : 100 ≤ n) :
    ∃ h' A', loopT (fun a => f_r4_Disk_Crash_L26 n (some ⟨p, 0, sp⟩) h6 a.1.1 a.2) n (((0 : Int), ()), h) = some ((), h') ∧ Slc 1 sd (N * 64) (writeAt C (z.toNat * 64) (iz .u8 X)) A' ∧
      Own h' ((t, .cells [.int .i64 z, v] false 0) :: (p, .cells [sd, sw] false 0) :: (A' ++ (B ++ F))) := by
  have hX : X.length = 64 := by have := hv.len; simpa using this
  have hC : C.length = N * 64 := by have := a1.len; omega
  have hz : z.toNat < N := by omega
  have hzz : z = (z.toNat : Int) := by omega
  generalize hzn : z.toNat = zn at hz hzz
  subst hzz
  have hoff : zn * 64 + (iz .u8 X).length ≤ C.length := by simp; omega
  obtain ⟨⟨x, h'⟩, e, A', q1, q2⟩ := loopT_up (f := fun a => f_r4_Disk_Crash_L26 n (some ⟨p, 0, sp⟩) h6 a.1.1 a.2)
    (fun k (a : (Int × Unit) × Heap) => a.1.1 = (k : Int) ∧ ∃ A', Slc 1 sd (N * 64) (writeAt C (zn * 64) ((iz .u8 X).take k)) A' ∧ Own a.2 ((t, .cells [.int .i64 (zn : Int), v] false 0) :: (p, .cells [sd, sw] false 0) :: (A' ++ (B ++ F))))
    (fun r => ∃ A', Slc 1 sd (N * 64) (writeAt C (zn * 64) (iz .u8 X)) A' ∧ Own r.2 ((t, .cells [.int .i64 (zn : Int), v] false 0) :: (p, .cells [sd, sw] false 0) :: (A' ++ (B ++ F)))) (N := 64) (k := n) (j := 0) (a := ((0, ()), h)) (by omega) (by omega)
    ⟨rfl, A, by
      rw [List.take_zero, writeAt_eq _ _ _ (by simp; omega)]
      simpa using a1, ho⟩
    (fun k a hk hi => by
      obtain ⟨⟨v0, _⟩, h1⟩ := a
      obtain ⟨rfl, A1, hs1, o1⟩ := hi
      have o1 : Own h1 _ := o1
      have hlt : (k : Int) < 64 := by omega
      have l0 : ldT .any h1 (some ⟨p, 0, none⟩) = some sd := by rw [ldT_of (o1.get (p, .cells [sd, sw] false 0) (by simp))]; rfl
      have l1 : ldT (.int .i64) h1 (some ⟨t, 0, none⟩) = some (zn : Int) := by rw [ldT_of o1.head]; simp
      have l2 : ldT .any h1 (some ⟨t, 1, none⟩) = some v := by rw [ldT_of o1.head]; rfl
      obtain ⟨q, d1, d2⟩ := (hv.rds (h := h1) (F := (t, .cells [.int .i64 (zn : Int), v] false 0) :: (p, .cells [sd, sw] false 0) :: (A1 ++ F)) (o1.to fun x => by simp only [cnt_append, cnt_cons]; omega)).intn hX hk
      have w1 : IntKind.i64.wrap (IntKind.i64.wrap ((zn : Int) * 64) + (k : Int)) = ((zn * 64 + k : Nat) : Int) := by
        have : IntKind.i64.wrap ((zn : Int) * 64) = ((zn * 64 : Nat) : Int) := by rw [wrap_i64 (by omega) (by omega)]; omega
        rw [this, wrap_i64 (by omega) (by omega)]; omega
      obtain ⟨q', h2, A2, g1, g2, g3, o2⟩ := slc_set1 hs1 (F := (t, .cells [.int .i64 (zn : Int), v] false 0) :: (p, .cells [sd, sw] false 0) :: (B ++ F)) (h := h1) (o1.to fun x => by simp only [cnt_append, cnt_cons]; omega) (i := zn * 64 + k) (by omega) (v := .int .u8 X[k]) rfl rfl
      refine .inl ⟨((((k + 1 : Nat) : Int), ()), h2), ?_, rfl, A2, ?_, o2.to fun x => by simp only [cnt_append, cnt_cons]; omega⟩
      · simp only [f_r4_Disk_Crash_L26, hlt, decide_true, cond_true, Option.bind_some, fa_mk, Nat.zero_add, nwA_eq, ht, l0, l1, l2, d1, d2, w1, g1, g2, wrap_succ (show k < 4611686018427387904 by omega)]
      · have hY : (iz .u8 X)[k]'(by simp; omega) = .int .u8 X[k] := by simp [iz]
        have := writeAt_snoc (C := C) (Y := iz .u8 X) (o := zn * 64) (k := k) hoff (by simp; omega)
        rw [hY] at this
        rwa [this] at g3)
    (fun a hi => by
      obtain ⟨⟨v0, _⟩, h1⟩ := a
      obtain ⟨rfl, A1, hs1, o1⟩ := hi
      rw [List.take_of_length_le (by simp; omega)] at hs1
      exact ⟨((), h1), by simp [f_r4_Disk_Crash_L26], A1, hs1, o1⟩)
  exact ⟨h', A', e, q1, q2⟩
def apk (b : Bool) (ds : List (List Int)) (w : Int × List Int) : List (List Int) := if b then ds.set w.1.toNat w.2 else ds
theorem apk_twice {b : Bool} {ds : List (List Int)} {w : Int × List Int} : apk true (apk b ds w) w = apk true ds w := by
  cases b <;> simp [apk]
theorem apk_len {b : Bool} {ds : List (List Int)} {w : Int × List Int} : (apk b ds w).length = ds.length := by cases b <;> simp [apk]
theorem apk_ok {b : Bool} {w : Int × List Int} (hd : ∀ d ∈ ds, (iz .u8 d).length = 64) (hw : (iz .u8 w.2).length = 64) : ∀ d ∈ apk b ds w, (iz .u8 d).length = 64 := by
  cases b with
  | false => exact hd
  | true =>
    intro d hm
    rcases List.mem_or_eq_of_mem_set (show d ∈ ds.set w.1.toNat w.2 from hm) with hm | rfl
    · exact hd d hm
    · exact hw
theorem rkeep_ok (a1 : Slc 1 sd (ds.length * 64) (ds.flatMap (iz .u8)) A) (a2 : Slc 2 sw es.length (es.flatMap Wx.cells) B) (a3 : ∀ e ∈ es, Slc 1 e.v e.X.length (iz .u8 e.X) e.A) (hi : i < es.length) (hd : ∀ d ∈ ds, (iz .u8 d).length = 64) (hX : es[i].X.length = 64) (h0 : 0 ≤ es[i].z) (h1 : es[i].z < ds.length)
    (hu : Sow 1 u K.length (iz .i64 K) G) (ho : Own h ((p, .cells [sd, sw] false 0) :: (A ++ (B ++ (es.flatMap Wx.A ++ (G ++ F)))))) (hN : ds.length ≤ 4096) (hI : es.length ≤ 1000) (hK : K.length ≤ 1152921504606846976) (hn : K.length + 2000 ≤ n) :
    ∃ h' A', loopT (fun a => f_r4_Disk_Crash_L28 n u (some ⟨p, 0, sp⟩) (i : Int) a.1.1 a.2) n (((0 : Int), ()), h) = some ((), h') ∧ Slc 1 sd (ds.length * 64) ((apk (decide ((i : Int) ∈ K)) ds es[i].key).flatMap (iz .u8)) A' ∧
      Own h' ((p, .cells [sd, sw] false 0) :: (A' ++ (B ++ (es.flatMap Wx.A ++ (G ++ F))))) := by
  have hXi : (iz .u8 es[i].X).length = 64 := by simpa using hX
  obtain ⟨⟨x, h'⟩, e, A', q1, q2⟩ := loopT_up (f := fun a => f_r4_Disk_Crash_L28 n u (some ⟨p, 0, sp⟩) (i : Int) a.1.1 a.2)
    (fun k (a : (Int × Unit) × Heap) => a.1.1 = (k : Int) ∧ ∃ A', Slc 1 sd (ds.length * 64) ((apk (decide ((i : Int) ∈ K.take k)) ds es[i].key).flatMap (iz .u8)) A' ∧ Own a.2 ((p, .cells [sd, sw] false 0) :: (A' ++ (B ++ (es.flatMap Wx.A ++ (G ++ F))))))
    (fun r => ∃ A', Slc 1 sd (ds.length * 64) ((apk (decide ((i : Int) ∈ K)) ds es[i].key).flatMap (iz .u8)) A' ∧ Own r.2 ((p, .cells [sd, sw] false 0) :: (A' ++ (B ++ (es.flatMap Wx.A ++ (G ++ F)))))) (N := K.length) (k := n) (j := 0) (a := ((0, ()), h)) (by omega) (by omega)
    ⟨rfl, A, by simpa [apk] using a1, ho⟩
    (fun k a hk hi' => by
      obtain ⟨⟨v0, _⟩, h1'⟩ := a
      obtain ⟨rfl, A1, hs1, o1⟩ := hi'
      have o1 : Own h1' _ := o1
      have hlt : (k : Int) < (K.length : Int) := by omega
      have hr := hu.rds (h := h1') (F := (p, .cells [sd, sw] false 0) :: (A1 ++ (B ++ (es.flatMap Wx.A ++ F)))) (o1.to fun x => by simp only [cnt_append, cnt_cons]; omega)
      obtain ⟨q, d1, d2⟩ := hr.int hk
      by_cases hs : K[k] = (i : Int)
      · have l1 : ldT .any h1' (some ⟨p, 1, none⟩) = some sw := by rw [ldT_of (o1.get (p, .cells [sd, sw] false 0) (by simp))]; rfl
        obtain ⟨q2, c1, _, _, c4⟩ := wd_at (F := (p, .cells [sd, sw] false 0) :: (A1 ++ (es.flatMap Wx.A ++ (G ++ F)))) a2 (o1.to fun x => by simp only [cnt_append, cnt_cons]; omega) hi
        have o2 := o1.new (.cells [.int .i64 0, .slice none 0 0] false 0)
        generalize ht : h1'.next = t at o2
        generalize hh2 : h1'.new (.cells [.int .i64 0, .slice none 0 0] false 0) = h2 at o2
        have hvc := (a3 _ (List.getElem_mem hi)).isCell
        have e2 := stBA_of (sp := none) (o := 0) (sz := 2) (vs := [.int .i64 es[i].z, es[i].v]) o2.head rfl (by simp only [List.all_cons, List.all_nil, hvc]; rfl) (by simp)
        rw [writeAt_all (by rfl)] at e2
        have o3 := o2.put (.cells [.int .i64 es[i].z, es[i].v] false 0)
        generalize hh3 : h2.put t (.cells [.int .i64 es[i].z, es[i].v] false 0) = h3 at o3 e2
        have hv := a3 _ (List.getElem_mem hi)
        rw [hX] at hv
        obtain ⟨h4, A4, g1, g2, o4⟩ := rput_ok (n := n) (sp := sp) (p := p) (sw := sw) (F := B ++ ((es.eraseIdx i).flatMap Wx.A ++ (G ++ F))) (h := h3) ht hs1 hv (o3.to fun x => by have := wd_cnt hi x; simp only [cnt_append, cnt_cons]; omega) h0 h1 hN (by omega)
        rw [flat_set (apk_ok hd hXi) hXi (by rw [apk_len]; omega)] at g2
        have hap : (apk (decide ((i : Int) ∈ K.take k)) ds es[i].key).set es[i].z.toNat es[i].X = apk (decide ((i : Int) ∈ K.take (k + 1))) ds es[i].key := by
          have h9 : decide ((i : Int) ∈ K.take (k + 1)) = true := by rw [take_snoc hk, hs]; simp
          rw [h9, ← apk_twice (b := decide ((i : Int) ∈ K.take k))]; rfl
        rw [hap] at g2
        refine .inl ⟨((((k + 1 : Nat) : Int), ()), h4), ?_, rfl, A4, g2, o4.tail.to fun x => by have := wd_cnt hi x; simp only [cnt_append, cnt_cons]; omega⟩
        simp only [f_r4_Disk_Crash_L28, hr.lenB, Option.bind_some, hlt, decide_true, cond_true, d1, d2, hs, fa_mk, Nat.zero_add, l1, c1, c4, bnd_eq, nwA_eq, ht, hh2, e2, g1, wrap_succ (show k < 4611686018427387904 by omega)]
      · have hne : ¬ (i : Int) = K[k] := fun e => hs e.symm
        have h8 : ((i : Int) ∈ K.take (k + 1)) ↔ (i : Int) ∈ K.take k := by rw [take_snoc hk, List.mem_append, List.mem_singleton]; simp only [hne, or_false]
        have h9 : decide ((i : Int) ∈ K.take (k + 1)) = decide ((i : Int) ∈ K.take k) := by simp only [h8]
        refine .inl ⟨((((k + 1 : Nat) : Int), ()), h1'), ?_, rfl, A1, by rw [h9]; exact hs1, o1⟩
        simp only [f_r4_Disk_Crash_L28, hr.lenB, Option.bind_some, hlt, decide_true, cond_true, d1, d2, hs, decide_false, cond_false, wrap_succ (show k < 4611686018427387904 by omega)])
    (fun a hi' => by
      obtain ⟨⟨v0, _⟩, h1'⟩ := a
      obtain ⟨rfl, A1, hs1, o1⟩ := hi'
      have o1 : Own h1' _ := o1
      have hr := hu.rds (h := h1') (F := (p, .cells [sd, sw] false 0) :: (A1 ++ (B ++ (es.flatMap Wx.A ++ F)))) (o1.to fun x => by simp only [cnt_append, cnt_cons]; omega)
      rw [List.take_length] at hs1
      exact ⟨((), h1'), by simp [f_r4_Disk_Crash_L28, hr.lenB], A1, hs1, o1⟩)
  exact ⟨h', A', e, q1, q2⟩
theorem rcrash_ok (hd : Rd' p ds ws L) (hu : Sow 1 u K.length (iz .i64 K) G) (ho : Own h (L ++ (G ++ F))) (hN : ds.length ≤ 4096) (hW : ws.length ≤ 1000) (hK : K.length ≤ 1152921504606846976) (hn : K.length + 2000 ≤ n) :
    ∃ h' L', f_r4_Disk_Crash n (some ⟨p, 0, sp⟩) u h = some (((ws.length : Int), ()), h') ∧ Rd' p (ak (fun j => decide ((j : Int) ∈ K)) ws ws.length ds) [] L' ∧ Own h' (L' ++ (G ++ F)) := by
  obtain ⟨sd, sw, A, B, es, a1, a2, a3, a4, a5, rfl⟩ := hd
  have hel : es.length = ws.length := by have := congrArg List.length a4; simpa using this
  have hg := ho.head
  have l1 : ldT .any h (some ⟨p, 1, none⟩) = some sw := by rw [ldT_of hg]; rfl
  generalize hP : (fun j : Nat => decide ((j : Int) ∈ K)) = P
  obtain ⟨⟨x, h'⟩, e, A', q1, q2⟩ := loopT_up (f := fun a => f_r4_Disk_Crash_L30 n u (some ⟨p, 0, sp⟩) es.length a.1.1 a.2)
    (fun j (a : (Int × Unit) × Heap) => a.1.1 = (j : Int) ∧ ∃ A', Slc 1 sd (ds.length * 64) ((ak P ws j ds).flatMap (iz .u8)) A' ∧ Own a.2 ((p, .cells [sd, sw] false 0) :: (A' ++ (B ++ (es.flatMap Wx.A ++ (G ++ F))))))
    (fun r => ∃ A', Slc 1 sd (ds.length * 64) ((ak P ws ws.length ds).flatMap (iz .u8)) A' ∧ Own r.2 ((p, .cells [sd, sw] false 0) :: (A' ++ (B ++ (es.flatMap Wx.A ++ (G ++ F)))))) (N := ws.length) (k := n) (j := 0) (a := ((0, ()), h)) (by omega) (by omega)
    ⟨rfl, A, a1, ho.to fun x => by simp only [cnt_append, cnt_cons, List.cons_append]; omega⟩
    (fun j a hj hi => by
      obtain ⟨⟨v, _⟩, h1⟩ := a
      obtain ⟨rfl, A1, hs1, o1⟩ := hi
      have o1 : Own h1 _ := o1
      have hje : j < es.length := by omega
      have hlt : (j : Int) < (es.length : Int) := by omega
      obtain ⟨hz, hX⟩ := keys_at a4 hje hj
      have hxl : es[j].X.length = 64 := by have := a5.w _ (List.getElem_mem hj); simp [wc] at this; rw [hX]; omega
      have hw := a5.r _ (List.getElem_mem hj)
      rw [← hz] at hw
      rw [← ak_len (P := P) (ws := ws) (j := j)] at hs1
      obtain ⟨h2, A2, e2, e3, o2⟩ := rkeep_ok (n := n) (sp := sp) hs1 a2 a3 hje (ak_ok a5) hxl hw.1 (by rw [ak_len]; exact hw.2) hu o1 (by rw [ak_len]; exact hN) (by omega) hK hn
      rw [ak_len] at e3
      have hPj : P j = decide ((j : Int) ∈ K) := by rw [← hP]
      have hak : apk (decide ((j : Int) ∈ K)) (ak P ws j ds) es[j].key = ak P ws (j + 1) ds := by
        rw [ak_succ hj, hPj]
        have : es[j].key = ws[j] := by show (es[j].z, es[j].X) = _; rw [hz, hX]
        rw [this]; rfl
      rw [hak] at e3
      refine .inl ⟨((((j + 1 : Nat) : Int), ()), h2), ?_, rfl, A2, e3, o2⟩
      simp only [f_r4_Disk_Crash_L30, hlt, decide_true, cond_true, e2, Option.bind_some, wrap_succ (show j < 4611686018427387904 by omega)])
    (fun a hi => by
      obtain ⟨⟨v, _⟩, h1⟩ := a
      obtain ⟨rfl, A1, hs1, o1⟩ := hi
      have hlt : ¬ (ws.length : Int) < (es.length : Int) := by omega
      exact ⟨((), h1), by simp only [f_r4_Disk_Crash_L30, hlt, decide_false, cond_false], A1, hs1, o1⟩)
  have o3 : Own h' _ := q2
  have e' : loopT (fun a => f_r4_Disk_Crash_L30 n u (some ⟨p, 0, sp⟩) es.length a.1.1 a.2) n ((0, ()), h) = some ((), h') := e
  refine ⟨_, _, ?_, ⟨sd, .slice none 0 0, A', [], [], by rw [ak_len]; exact q1, .nil, (fun _ h => absurd h List.not_mem_nil), rfl, ⟨ak_ok a5, fun _ h => absurd h List.not_mem_nil, fun _ h => absurd h List.not_mem_nil⟩, rfl⟩, (o3.put (.cells [sd, .slice none 0 0] false 0)).to fun x => by simp only [cnt_append, cnt_cons, cnt_nil, List.cons_append, List.flatMap_nil]; omega⟩
  have e9 := stB1_of (sp := none) (o := 1) (v := .slice none 0 0) o3.head rfl rfl (by simp)
  rw [hel] at e'
  simp only [f_r4_Disk_Crash, Option.bind_some, fa_mk, Nat.zero_add, l1, a2.lenB, e', e9, hel]
  rfl
theorem rflush_ok (hd : Rd' p ds ws L) (ho : Own h (L ++ F)) (hN : ds.length ≤ 4096) (hW : ws.length ≤ 1000) (hn : 4000 ≤ n) :
    ∃ h' L', f_r4_Disk_Flush n (some ⟨p, 0, sp⟩) h = some (((ws.length : Int), ()), h') ∧ Rd' p (ak (fun _ => true) ws ws.length ds) [] L' ∧ Own h' (L' ++ F) := by
  have hd0 := hd
  obtain ⟨sd, sw, A, B, es, a1, a2, a3, a4, a5, rfl⟩ := hd0
  have hel : es.length = ws.length := by have := congrArg List.length a4; simpa using this
  let nums (j : Nat) : List Int := (List.range j).map fun (x : Nat) => (x : Int)
  have hnl : ∀ j, (nums j).length = j := fun j => by simp [nums]
  have hns : ∀ j, nums (j + 1) = nums j ++ [(j : Int)] := fun j => by simp [nums, List.range_succ]
  obtain ⟨⟨⟨v, _⟩, h1⟩, e, G, q1, q2⟩ := loopT_up (f := fun a => f_r4_Disk_Flush_L9 n (some ⟨p, 0, sp⟩) a.1.1 a.1.2.1 a.2)
    (fun j (a : (Value × Int × Unit) × Heap) => a.1.2.1 = (j : Int) ∧ ∃ G, Slc 1 a.1.1 j (iz .i64 (nums j)) G ∧ Own a.2 (G ++ ((p, .cells [sd, sw] false 0) :: (A ++ (B ++ es.flatMap Wx.A)) ++ F)))
    (fun r => ∃ G, Slc 1 r.1.1 ws.length (iz .i64 (nums ws.length)) G ∧ Own r.2 (G ++ ((p, .cells [sd, sw] false 0) :: (A ++ (B ++ es.flatMap Wx.A)) ++ F))) (N := ws.length) (k := n) (j := 0) (a := ((.slice none 0 0, (0, ())), h)) (by omega) (by omega)
    ⟨rfl, [], .nil, ho⟩
    (fun j a hj hi => by
      obtain ⟨⟨v, i1, _⟩, h1⟩ := a
      obtain ⟨hi0, G1, hs1, o1⟩ := hi
      have hi0 : i1 = (j : Int) := hi0
      subst hi0
      have o1 : Own h1 _ := o1
      have hs1 : Slc 1 v j (iz .i64 (nums j)) G1 := hs1
      have hlt : (j : Int) < (es.length : Int) := by omega
      have l1 : ldT .any h1 (some ⟨p, 1, none⟩) = some sw := by rw [ldT_of (o1.get (p, .cells [sd, sw] false 0) (by simp))]; rfl
      obtain ⟨v2, h2, G2, e1, e2, o2⟩ := hs1.push (new := [.int .i64 (j : Int)]) o1 (by decide) rfl (bytes := 8) (by omega)
      refine .inl ⟨((v2, (((j + 1 : Nat) : Int), ())), h2), ?_, rfl, G2, by rw [hns]; simpa [iz] using e2, o2⟩
      have f1 : fillL [.int .i64 0] [(0, 1, .int .i64 (j : Int))] = some [.int .i64 (j : Int)] := rfl
      simp only [f_r4_Disk_Flush_L9, Option.bind_some, fa_mk, Nat.zero_add, l1, a2.lenB, hlt, decide_true, cond_true, f1, bnd_eq, e1, wrap_succ (show j < 4611686018427387904 by omega)])
    (fun a hi => by
      obtain ⟨⟨v, i1, _⟩, h1⟩ := a
      obtain ⟨hi0, G1, hs1, o1⟩ := hi
      have hi0 : i1 = ((ws.length : Nat) : Int) := hi0
      subst hi0
      have o1 : Own h1 _ := o1
      have hlt : ¬ (ws.length : Int) < (es.length : Int) := by omega
      have l1 : ldT .any h1 (some ⟨p, 1, none⟩) = some sw := by rw [ldT_of (o1.get (p, .cells [sd, sw] false 0) (by simp))]; rfl
      exact ⟨((v, ()), h1), by simp only [f_r4_Disk_Flush_L9, Option.bind_some, fa_mk, Nat.zero_add, l1, a2.lenB, hlt, decide_false, cond_false], G1, hs1, o1⟩)
  have q1 : Slc 1 v ws.length (iz .i64 (nums ws.length)) G := q1
  have q2 : Own h1 _ := q2
  have hu : Sow 1 v (nums ws.length).length (iz .i64 (nums ws.length)) G := by rw [hnl]; exact q1.sow
  obtain ⟨h2, L2, c1, c2, o2⟩ := rcrash_ok (n := n) (sp := sp) hd hu (F := F) (h := h1) (q2.to fun x => by simp only [cnt_append]; omega) hN hW (by rw [hnl]; omega) (by rw [hnl]; omega)
  have hak : ∀ {j}, j ≤ ws.length → ak (fun j => decide ((j : Int) ∈ nums ws.length)) ws j ds = ak (fun _ => true) ws j ds := by
    intro j
    induction j with
    | zero => intro _; rfl
    | succ j ih =>
      intro hj
      rw [ak_succ (by omega), ak_succ (by omega), ih (by omega)]
      have : decide ((j : Int) ∈ nums ws.length) = true := by
        simp only [nums, decide_eq_true_eq, List.mem_map, List.mem_range]
        exact ⟨j, by omega, rfl⟩
      rw [this]
  rw [hak (Nat.le_refl _)] at c2
  refine ⟨h2, L2, ?_, c2, o2.to fun x => by simp only [cnt_append]; omega⟩
  simp only [f_r4_Disk_Flush, e, Option.bind_some, c1]
end
/- ==== from Sx8 -/
section
variable {n p k i j m t : Nat} {sp : Option Nat} {ds : List (List Int)} {ws : List (Int × List Int)} {L F G A B : Ch} {h : Heap} {s u v sd sw : Value} {X K W : List Int} {C : List Value} {z : Int} {es : List Wx} {N : Nat}
theorem rload_ok (hu : Slc 1 u (ds.length * 64) (ds.flatMap (iz .u8)) G) (ho : Own h (G ++ F)) (hd : ∀ d ∈ ds, (iz .u8 d).length = 64) (h1 : 1 ≤ ds.length) (h2 : ds.length ≤ 4096) :
    ∃ p h' L, f_r4_Load n u h = some ((some ⟨p, 0, none⟩, (0, ())), h') ∧ Rd' p ds [] L ∧ Own h' (L ++ (G ++ F)) := by
  have hl := hu.lenB
  have c1 : ¬ ((ds.length * 64 : Nat) : Int) = 0 := by omega
  have c2 : Int.tmod ((ds.length * 64 : Nat) : Int) 64 = 0 := by
    rw [Int.tmod_eq_emod_of_nonneg (by omega)]; omega
  have c3 : ¬ 262144 < ((ds.length * 64 : Nat) : Int) := by omega
  have o1 := ho.new (.cells [] false 1)
  have hs0 : Slc 1 (.slice (some ⟨h.next, 0, some 0⟩) 0 0) 0 [] [(h.next, .cells ([] ++ ([] ++ [])) false 1)] := .mk rfl rfl rfl
  generalize hb : h.next = b at hs0 o1
  generalize hh1 : h.new (.cells [] false 1) = h1' at o1
  obtain ⟨s2, h2', A2, e2, e3, o2⟩ := hu.sow.app hs0 (F := F) (h := h1') (o1.to fun x => by simp only [cnt_append, cnt_cons, cnt_nil, List.nil_append, List.append_nil]; omega) (by decide) (bytes := 1) (by omega)
  have e3 : Slc 1 s2 (ds.length * 64) (ds.flatMap (iz .u8)) A2 := by simpa using e3
  have o3 := o2.new (.cells [s2, .slice none 0 0] false 0)
  refine ⟨h2'.next, _, _, ?_, ⟨s2, .slice none 0 0, A2, [], [], e3, .nil, (fun _ h => absurd h List.not_mem_nil), rfl, ⟨hd, fun _ h => absurd h List.not_mem_nil, fun _ h => absurd h List.not_mem_nil⟩, rfl⟩, o3.to fun x => by simp only [cnt_append, cnt_cons, cnt_nil, List.cons_append, List.nil_append, List.append_nil, List.flatMap_nil]; omega⟩
  have f1 : fillL [.slice none 0 0, .slice none 0 0] [(0, 1, s2)] = some [s2, .slice none 0 0] := by obtain ⟨x, y, rfl⟩ := e3.form; rfl
  have hcl : ([s2, .slice none 0 0] : List Value).all isCell = true := by obtain ⟨x, y, rfl⟩ := e3.form; rfl
  simp only [f_r4_Load, hl, Option.bind_some, c1, c2, c3, decide_false, cond_false, decide_true, Bool.not_true, fill0, bnd_eq, hh1, hb, e2, f1, hcl, cond_true, nwA_eq]
theorem load_ok (hu : Slc 1 u (ds.length * 64) (ds.flatMap (iz .u8)) G) (ho : Own h (G ++ F)) (hd : ∀ d ∈ ds, (iz .u8 d).length = 64) (h1 : 1 ≤ ds.length) (h2 : ds.length ≤ 4096) (hn : 5000 ≤ n) :
    ∃ p h' L, f_sector_Load n u h = some ((some ⟨p, 0, none⟩, (0, ())), h') ∧ Dk p ds [] L ∧ Own h' (L ++ (G ++ F)) := by
  have hl := hu.lenB
  have c0 := div64 h2
  have c1 : ¬ (ds.length : Int) < 1 := by omega
  have c2 : Int.tmod ((ds.length * 64 : Nat) : Int) 64 = 0 := by
    rw [Int.tmod_eq_emod_of_nonneg (by omega)]; omega
  have c3 : ¬ 4096 < (ds.length : Int) := by omega
  have hmk := mkSl_of (nx := h.next) (bytes := 64) (es := 64) (zs := List.replicate 64 (.int .u8 0)) (k := .i64) (k' := .i64) (l := ds.length) (c := ds.length) (by omega) (by omega) (by omega)
  have ef : (List.replicate ds.length (List.replicate 64 (Value.int .u8 0))).flatten = (List.replicate ds.length (List.replicate 64 0)).flatMap (iz .u8) := by
    rw [← iz_flatten, List.flatten_replicate_replicate, List.flatten_replicate_replicate, iz_rep]
  have hd0 : ∀ d ∈ List.replicate ds.length (List.replicate 64 (0 : Int)), (iz .u8 d).length = 64 := by
    intro d hd
    rw [List.eq_of_mem_replicate hd]; rfl
  have hfl := flat_len hd0
  rw [List.length_replicate] at hfl
  rw [ef] at hmk
  generalize hD0 : List.replicate ds.length (List.replicate 64 (0 : Int)) = D0 at hmk hfl hd0
  have hD0l : D0.length = ds.length := by rw [← hD0, List.length_replicate]
  have hv : Slc 64 (.slice (some ⟨h.next, 0, some 0⟩) ds.length ds.length) ds.length (D0.flatMap (iz .u8)) [(h.next, .cells ([] ++ (D0.flatMap (iz .u8) ++ [])) false 64)] := .mk rfl hfl (by rw [List.length_nil]; omega)
  have o1 := ho.new (.cells (D0.flatMap (iz .u8)) false 64)
  generalize hb : h.next = b at hmk hv o1
  generalize hh1 : h.new (.cells (D0.flatMap (iz .u8)) false 64) = h1' at o1
  generalize hsd : Value.slice (some ⟨b, 0, some 0⟩) ds.length ds.length = sd at hmk hv
  have o2 := o1.new (.cells [sd, .slice none 0 0] false 0)
  generalize hc : h1'.next = c at o2
  generalize hh2 : h1'.new (.cells [sd, .slice none 0 0] false 0) = h2' at o2
  obtain ⟨⟨x, h'⟩, e, A', q1, q2⟩ := loopT_up (f := fun a => f_sector_Load_L17 n u h1' ds.length a.1.1 a.2)
    (fun j (a : (Int × Unit) × Heap) => a.1.1 = (j : Int) ∧ ∃ (D : List (List Int)) (A' : Ch), D.length = ds.length ∧ (∀ d ∈ D, (iz .u8 d).length = 64) ∧ (∀ (i : Nat) (h1 : i < D.length) (h2 : i < ds.length), i < j → D[i] = ds[i]) ∧ Slc 64 sd ds.length (D.flatMap (iz .u8)) A' ∧
      Own a.2 ((c, .cells [sd, .slice none 0 0] false 0) :: (A' ++ (G ++ F))))
    (fun r => ∃ A', Slc 64 sd ds.length (ds.flatMap (iz .u8)) A' ∧ Own r.2 ((c, .cells [sd, .slice none 0 0] false 0) :: (A' ++ (G ++ F)))) (N := ds.length) (k := n) (j := 0) (a := ((0, ()), h2')) (by omega) (by omega)
    ⟨rfl, D0, _, hD0l, hd0, fun i _ _ h => absurd h (Nat.not_lt_zero _), hv, o2.to fun x => by simp only [cnt_append, cnt_cons, cnt_nil, List.nil_append, List.append_nil]; omega⟩
    (fun j a hj hi => by
      obtain ⟨⟨v, _⟩, h1⟩ := a
      obtain ⟨rfl, D, A1, i1, i2, i3, hs1, o1⟩ := hi
      have o1 : Own h1 _ := o1
      have hlt : (j : Int) < (ds.length : Int) := by omega
      have l0 : ldT .any h1 (some ⟨c, 0, none⟩) = some sd := by rw [ldT_of o1.head]; rfl
      have w1 : IntKind.i64.wrap ((j : Int) * 64) = ((j * 64 : Nat) : Int) := by rw [wrap_i64 (by omega) (by omega)]; omega
      have w2 : IntKind.i64.wrap (((j + 1 : Nat) : Int) * 64) = ((j * 64 + 64 : Nat) : Int) := by rw [wrap_i64 (by omega) (by omega)]; omega
      obtain ⟨u1, e1, r1⟩ := slc_sub (h := h1) (i := j * 64) (j := j * 64 + 64) (kk := .i64) (k' := .i64) hu (by omega) (by omega)
      have hsec : ((ds.flatMap (iz .u8)).drop (j * 64)).take (j * 64 + 64 - j * 64) = iz .u8 ds[j] := by
        rw [Nat.add_sub_cancel_left, flat_get hd hj]
      rw [hsec, Nat.add_sub_cancel_left] at r1
      have hdl := hd _ (List.getElem_mem hj)
      have hr := r1.rds (h := h1) (F := (c, .cells [sd, .slice none 0 0] false 0) :: (A1 ++ F)) (o1.to fun x => by simp only [cnt_append, cnt_cons]; omega)
      obtain ⟨a', c', rfl, src⟩ := hr.src
      cases a' with
      | none =>
        have : (some [] : Option (List Value)) = some (iz .u8 ds[j]) := src
        rw [← Option.some.inj this] at hdl; simp at hdl
      | some bq =>
        have src' : readCells h1 bq.block bq.off 64 = some (iz .u8 ds[j]) := src
        have hld : ldA 64 h1 (some ⟨bq.block, bq.off, none⟩) = some (iz .u8 ds[j]) := src'
        have ar : arrB h1 64 (.slice (some bq) 64 c') = some (some ⟨bq.block, bq.off, none⟩) := rfl
        obtain ⟨q, h3, A3, g1, g2, g3, o3⟩ := slc_set hs1 (F := (c, .cells [sd, .slice none 0 0] false 0) :: (G ++ F)) (h := h1) (o1.to fun x => by simp only [cnt_append, cnt_cons]; omega) hj hdl iz_cell
        rw [flat_set i2 hdl (by rw [i1]; exact hj)] at g3
        refine .inl ⟨((((j + 1 : Nat) : Int), ()), h3), ?_, rfl, D.set j ds[j], A3, by rw [List.length_set, i1], fun d hm => ?_, fun i h1 h2 hij => ?_, g3, o3.to fun x => by simp only [cnt_append, cnt_cons]; omega⟩
        · simp only [f_sector_Load_L17, hlt, decide_true, cond_true, nwA_eq, hc, fa_mk, Nat.zero_add, l0, Option.bind_some, w1, wrap_succ (show j < 4611686018427387904 by omega), w2, e1, ar, hld, g1, g2]
        · rcases List.mem_or_eq_of_mem_set hm with hm | rfl
          · exact i2 d hm
          · exact hdl
        · rw [List.getElem_set]
          split
          · rename_i e; subst e; rfl
          · exact i3 i _ _ (by omega))
    (fun a hi => by
      obtain ⟨⟨v, _⟩, hq⟩ := a
      obtain ⟨rfl, D, A1, i1, i2, i3, hs1, o1⟩ := hi
      have hD : D = ds := List.ext_getElem i1 fun i h1 h2 => i3 i h1 h2 h2
      rw [hD] at hs1
      exact ⟨((), hq), by simp [f_sector_Load_L17], A1, hs1, o1⟩)
  have o3 : Own h' _ := q2
  refine ⟨c, h', _, ?_, ⟨sd, .slice none 0 0, A', [], q1, .nil, ⟨hd, fun _ h => absurd h List.not_mem_nil, fun _ h => absurd h List.not_mem_nil⟩, rfl⟩, o3.to fun x => by simp only [cnt_append, cnt_cons, cnt_nil, List.cons_append]; omega⟩
  have f1 : fillL [.slice none 0 0, .slice none 0 0] [(0, 1, sd)] = some [sd, .slice none 0 0] := by rw [← hsd]; rfl
  have hcl : ([sd, .slice none 0 0] : List Value).all isCell = true := by rw [← hsd]; rfl
  have l0 : ldT .any h2' (some ⟨c, 0, none⟩) = some sd := by rw [ldT_of o2.head]; rfl
  have hls : lenB sd = some ds.length := by rw [← hsd]; rfl
  have e' : loopT (fun a => f_sector_Load_L17 n u h1' ds.length a.1.1 a.2) n ((0, ()), h2') = some (x, h') := e
  simp only [f_sector_Load, hl, Option.bind_some, c0, c1, c2, c3, decide_false, cond_false, decide_true, Bool.not_true, hb, hmk, bnd_eq, hh1, f1, hcl, cond_true, nwA_eq, hc, hh2, fa_mk, Nat.zero_add, l0, hls, e']
end
/- ==== from Sx10 -/
def ewz (ds : List (List Int)) (X : List Int) (z : Int) : Int := if 0 ≤ z ∧ z < ds.length then (if X.length = 64 then 0 else 2) else 40
def wrz (ds : List (List Int)) (ws : List (Int × List Int)) (X : List Int) (z : Int) : List (Int × List Int) := if 0 ≤ z ∧ z < ds.length ∧ X.length = 64 then ws ++ [(z, X)] else ws
section
variable {n p k i j m : Nat} {ds : List (List Int)} {ws : List (Int × List Int)} {L F G A B : Ch} {h : Heap} {u : Value} {X : List Int} {z : Int}
theorem Dk.okd (hd : Dk p ds ws L) : Okd ds ws := by obtain ⟨_, _, _, _, _, _, h, _⟩ := hd; exact h
theorem Rd'.okd (hd : Rd' p ds ws L) : Okd ds ws := by obtain ⟨_, _, _, _, _, _, _, _, _, h, _⟩ := hd; exact h
theorem write_z (hd : Dk p ds ws L) (hu : Sow 1 u X.length (iz .u8 X) G) (ho : Own h (L ++ (G ++ F))) (hW : ws.length ≤ 1000) :
    ∃ h' L', f_sector_Disk_Write n (some ⟨p, 0, none⟩) z u h = some ((ewz ds X z, ()), h') ∧ Dk p ds (wrz ds ws X z) L' ∧ Own h' (L' ++ (G ++ F)) := by
  have hr := hu.rds (h := h) (F := L ++ F) (ho.to fun x => by simp only [cnt_append]; omega)
  by_cases hz : 0 ≤ z ∧ z < ds.length
  · by_cases hX : X.length = 64
    · have hne : ∃ b k c, u = .slice (some b) k c := by
        obtain ⟨a, c, rfl, hs⟩ := hr.src
        cases a with
        | none =>
          have : (some [] : Option (List Value)) = some (iz .u8 X) := hs
          have := congrArg List.length (Option.some.inj this)
          simp at this; omega
        | some b => exact ⟨b, _, c, rfl⟩
      rw [hX] at hu
      obtain ⟨h', L', e, d, o⟩ := write_ok (n := n) (sp := none) hd hu ho hz.1 hz.2 hW hne
      exact ⟨h', L', by rw [ewz, if_pos hz, if_pos hX]; exact e, by rw [wrz, if_pos ⟨hz.1, hz.2, hX⟩]; exact d, o⟩
    · exact ⟨h, L, by rw [ewz, if_pos hz, if_neg hX]; exact write_len hd ho hz.1 hz.2 hr.lenB hX, by rw [wrz, if_neg (fun h => hX h.2.2)]; exact hd, ho⟩
  · exact ⟨h, L, by rw [ewz, if_neg hz]; exact write_bad hd ho (by omega), by rw [wrz, if_neg (fun h => hz ⟨h.1, h.2.1⟩)]; exact hd, ho⟩
theorem rwrite_z (hd : Rd' p ds ws L) (hu : Sow 1 u X.length (iz .u8 X) G) (ho : Own h (L ++ (G ++ F))) (hN : ds.length ≤ 4096) (hW : ws.length ≤ 1000) :
    ∃ h' L', f_r4_Disk_Write n (some ⟨p, 0, none⟩) z u h = some ((ewz ds X z, ()), h') ∧ Rd' p ds (wrz ds ws X z) L' ∧ Own h' (L' ++ (G ++ F)) := by
  have hr := hu.rds (h := h) (F := L ++ F) (ho.to fun x => by simp only [cnt_append]; omega)
  by_cases hz : 0 ≤ z ∧ z < ds.length
  · by_cases hX : X.length = 64
    · rw [hX] at hu
      obtain ⟨h', L', e, d, o⟩ := rwrite_ok (n := n) (sp := none) hd hu ho hN hz.1 hz.2 hW
      exact ⟨h', L', by rw [ewz, if_pos hz, if_pos hX]; exact e, by rw [wrz, if_pos ⟨hz.1, hz.2, hX⟩]; exact d, o⟩
    · exact ⟨h, L, by rw [ewz, if_pos hz, if_neg hX]; exact rwrite_len hd ho hN hz.1 hz.2 hr.lenB hX, by rw [wrz, if_neg (fun h => hX h.2.2)]; exact hd, ho⟩
  · exact ⟨h, L, by rw [ewz, if_neg hz]; exact rwrite_bad hd ho hN (by omega), by rw [wrz, if_neg (fun h => hz ⟨h.1, h.2.1⟩)]; exact hd, ho⟩
theorem wrz_len : (wrz ds ws X z).length ≤ ws.length + 1 := by
  rw [wrz]; split <;> simp
end
end Go.Proofs.YtjdbmfhjccaggaaDoor
/- Configurations, numbers of any width, the first sector. -/
namespace Go.Proofs.YtjdbmfhjccaggaaDoor
open Go
set_option linter.unusedVariables false
set_option linter.unusedSimpArgs false
structure Cf where
  b : Int
  l : Int
  r : Int
  g : Int
  c : Int
def Cf.cells (c : Cf) : List Value := [.int .i64 c.b, .int .i64 c.l, .int .i64 c.r, .int .i64 c.g, .int .i64 c.c]
def wi (x m : Int) : Bool := decide (1 ≤ x) && decide (x ≤ m)
def Cf.ok (c : Cf) : Bool := wi c.b 64 && wi (IntKind.i64.wrap (c.l - 1)) 63 && wi c.c 8 && wi c.r (if (IntKind.i64.wrap (c.l - 1)) < (if c.b < 16 then c.b else 16) then (IntKind.i64.wrap (c.l - 1)) else (if c.b < 16 then c.b else 16)) && wi c.g c.l
def Cf.e (c : Cf) : Int := if c.ok then 0 else 3
section
variable {n m k p : Nat} {s u : Value} {L X V : List Int} {h : Heap} {F G A : Ch} {c : Cf} {z : Int} {cs : List Value}
theorem within_ok {x y : Int} : f_super_within n x y h = some ((wi x y, ()), h) := by
  by_cases h1 : 1 ≤ x
  · simp only [f_super_within, h1, decide_true, cond_true, wi, Bool.true_and]
  · simp only [f_super_within, h1, decide_false, cond_false, wi, Bool.false_and]
theorem Cf.ld {t : Nat} {es : Nat} {ro : Bool} {ys : List Value} (hg : h.get t = some (.cells (c.cells ++ ys) ro es)) :
    ldT (.int .i64) h (some ⟨t, 0, none⟩) = some c.b ∧ ldT (.int .i64) h (some ⟨t, 1, none⟩) = some c.l ∧ ldT (.int .i64) h (some ⟨t, 2, none⟩) = some c.r ∧ ldT (.int .i64) h (some ⟨t, 3, none⟩) = some c.g ∧ ldT (.int .i64) h (some ⟨t, 4, none⟩) = some c.c ∧ ldA 5 h (some ⟨t, 0, none⟩) = some c.cells := by
  refine ⟨?_, ?_, ?_, ?_, ?_, ?_⟩
  iterate 5
    rw [ldT_of hg]; simp [Cf.cells]
  rw [ldA_of hg (by simp [Cf.cells])]; simp [Cf.cells]
theorem Cf.ld' {t : Nat} {es : Nat} {ro : Bool} (hg : h.get t = some (.cells c.cells ro es)) :
    ldT (.int .i64) h (some ⟨t, 0, none⟩) = some c.b ∧ ldT (.int .i64) h (some ⟨t, 1, none⟩) = some c.l ∧ ldT (.int .i64) h (some ⟨t, 2, none⟩) = some c.r ∧ ldT (.int .i64) h (some ⟨t, 3, none⟩) = some c.g ∧ ldT (.int .i64) h (some ⟨t, 4, none⟩) = some c.c ∧ ldA 5 h (some ⟨t, 0, none⟩) = some c.cells := Cf.ld (ys := []) (by rw [List.append_nil]; exact hg)
theorem cf_cell : (c.cells).all isCell = true := rfl
theorem config_ok (ho : Own h F) : f_super_Config n (.agg ⟨c.cells⟩) h = some ((c.e, ()), h.new (.cells c.cells false 0)) := by
  have o1 := ho.new (.cells c.cells false 0)
  generalize ht : h.next = t at o1
  generalize hh1 : h.new (.cells c.cells false 0) = h1 at o1 ⊢
  obtain ⟨l0, l1, l2, l3, l4, _⟩ := Cf.ld' o1.head
  have hco : cellsOf (.agg ⟨c.cells⟩) = c.cells := rfl
  rcases Bool.eq_false_or_eq_true (wi c.b 64) with b1 | b1 <;> rcases Bool.eq_false_or_eq_true (wi (IntKind.i64.wrap (c.l - 1)) 63) with b2 | b2 <;> rcases Bool.eq_false_or_eq_true (wi c.c 8) with b3 | b3 <;>
    rcases Bool.eq_false_or_eq_true (wi c.r (if (IntKind.i64.wrap (c.l - 1)) < (if c.b < 16 then c.b else 16) then (IntKind.i64.wrap (c.l - 1)) else (if c.b < 16 then c.b else 16))) with b4 | b4 <;> rcases Bool.eq_false_or_eq_true (wi c.g c.l) with b5 | b5 <;>
    simp only [f_super_Config, hco, cf_cell, cond_true, bnd_eq, hh1, nwA_eq, ht, fa_mk, Nat.zero_add, l0, l1, l2, l3, l4, Option.bind_some, within_ok, Cf.e, Cf.ok, b1, b2, b3, b4, b5, Bool.not_true, Bool.not_false, cond_false, Bool.and_true, Bool.and_false, Bool.false_and, Bool.true_and, if_true, if_false, Bool.false_eq_true]
theorem Cf.bounds (hok : c.ok = true) (hl : -9223372036854775808 ≤ c.l ∧ c.l ≤ 9223372036854775807) : (1 ≤ c.b ∧ c.b ≤ 64) ∧ (2 ≤ c.l ∧ c.l ≤ 64) ∧ (1 ≤ c.c ∧ c.c ≤ 8) ∧ (1 ≤ c.r ∧ c.r ≤ 16) ∧ (1 ≤ c.g ∧ c.g ≤ 64) := by
  simp only [Cf.ok, wi, Bool.and_eq_true, decide_eq_true_eq] at hok
  obtain ⟨⟨⟨⟨h1, h2⟩, h3⟩, h4⟩, h5⟩ := hok
  have hl2 : 2 ≤ c.l ∧ c.l ≤ 64 := by
    by_cases he : c.l = -9223372036854775808
    · rw [he] at h2
      have : IntKind.i64.wrap (-9223372036854775808 - 1) = 9223372036854775807 := by decide
      rw [this] at h2; omega
    · rw [wrap_i64 (by omega) (by omega)] at h2; omega
  have hr : c.r ≤ 16 := by
    have h4' := h4.2
    have hm : (if c.b < 16 then c.b else 16) ≤ 16 := by split <;> omega
    generalize (if c.b < 16 then c.b else 16) = mn at h4' hm
    split at h4' <;> omega
  omega
theorem oputw_ok {x w : Nat} (h1 : 1 ≤ w) (h2 : w ≤ 8) (hx : x < 256 ^ w) (ho : Own h F) (hn : 100 ≤ n) : ∃ s h' A, f_octet_Put n (x : Int) (w : Int) h = some ((s, (0, ())), h') ∧ Slc 1 s w (iz .u8 (le x w)) A ∧ Own h' (A ++ F) := by
  have m1 := mkSl_of (nx := h.next) (bytes := 1) (es := 1) (zs := [.int .u8 0]) (k := .i64) (k' := .i64) (l := w) (c := w) (by omega) (by omega) (by omega)
  have hz : (List.replicate w [Value.int .u8 0]).flatten = iz .u8 (List.replicate w 0) := by rw [flat_rep1, iz_rep]
  rw [hz] at m1
  have o1 := ho.new (.cells (iz .u8 (List.replicate w 0)) false 1)
  have y1 : Slc 1 (.slice (some ⟨h.next, 0, some 0⟩) w w) w (iz .u8 (List.replicate w 0)) [(h.next, .cells ([] ++ (iz .u8 (List.replicate w 0) ++ [])) false 1)] := .mk rfl (by simp) (by simp)
  generalize hb : h.next = b at m1 o1 y1
  generalize hh1 : h.new (.cells (iz .u8 (List.replicate w 0)) false 1) = h1' at o1
  obtain ⟨⟨⟨r, _⟩, h'⟩, e, q0, A', q1, q2⟩ := loopT_up (f := fun a => f_octet_Put_L10 n (.slice (some ⟨b, 0, some 0⟩) w w, .cells (iz .u8 (List.replicate w 0)) false 1) w a.1.1 a.1.2.1 a.2)
    (fun j (a : (Int × Int × Unit) × Heap) => a.1 = (((x / 256 ^ j : Nat) : Int), ((j : Int), ())) ∧ ∃ A, Slc 1 (.slice (some ⟨b, 0, some 0⟩) w w) w (iz .u8 (le x j ++ List.replicate (w - j) 0)) A ∧ Own a.2 (A ++ F))
    (fun r => r.1 = (((x / 256 ^ w : Nat) : Int), ()) ∧ ∃ A, Slc 1 (.slice (some ⟨b, 0, some 0⟩) w w) w (iz .u8 (le x w)) A ∧ Own r.2 (A ++ F)) (N := w) (k := n) (j := 0) (a := (((x : Int), (0, ())), h1')) (by omega) (by omega)
    ⟨by simp, _, by simpa [le] using y1, o1.to fun z => by simp only [cnt_append, cnt_cons, cnt_nil, List.nil_append, List.append_nil]; omega⟩
    (fun j a hj hi => by
      obtain ⟨⟨v, i0, _⟩, hq⟩ := a
      obtain ⟨e0, A1, i1, i2⟩ := hi
      cases e0
      have i2 : Own hq _ := i2
      have hlt : (j : Int) < (w : Int) := by omega
      obtain ⟨q, h2, A2, g1, g2, g3, o2⟩ := slc_set1 i1 i2 hj (v := .int .u8 ((x / 256 ^ j % 256 : Nat) : Int)) rfl rfl
      have e6 : (le x j ++ List.replicate (w - j) 0).set j ((x / 256 ^ j % 256 : Nat) : Int) = le x (j + 1) ++ List.replicate (w - (j + 1)) 0 := by
        have hls : le x (j + 1) = le x j ++ [((x / 256 ^ j % 256 : Nat) : Int)] := by
          apply List.ext_getElem?
          intro i
          by_cases hi : i < j
          · rw [le_get (by omega), List.getElem?_append_left (by rw [le_len]; exact hi), le_get hi]
          · by_cases hij : i = j
            · subst hij
              rw [le_get (by omega), List.getElem?_append_right (by rw [le_len]; exact Nat.le_refl _), le_len, Nat.sub_self]; rfl
            · rw [List.getElem?_eq_none (by rw [le_len]; omega), List.getElem?_eq_none (by rw [List.length_append, le_len]; simp; omega)]
        rw [hls, show w - j = (w - (j + 1)) + 1 by omega, List.replicate_succ, List.set_append_right _ _ (by rw [le_len]; exact Nat.le_refl _), le_len, Nat.sub_self, List.set_cons_zero, List.append_assoc]; rfl
      rw [iz_set, e6] at g3
      refine .inl ⟨((((x / 256 ^ (j + 1) : Nat) : Int), (((j + 1 : Nat) : Int), ())), h2), ?_, rfl, A2, g3, o2⟩
      have hd : x / 256 ^ (j + 1) = x / 256 ^ j / 256 := by rw [Nat.pow_succ, Nat.div_div_eq_div_mul]
      simp only [f_octet_Put_L10, hlt, decide_true, cond_true, g1, Option.bind_some, wrap_u8, g2, shr8_b, hd, wrap_succ (show j < 4611686018427387904 by omega)])
    (fun a hi => by
      obtain ⟨⟨v, i0, _⟩, hq⟩ := a
      obtain ⟨e0, A1, i1, i2⟩ := hi
      cases e0
      have hlt : ¬ (w : Int) < (w : Int) := by omega
      rw [Nat.sub_self, List.replicate_zero, List.append_nil] at i1
      exact ⟨((((x / 256 ^ w : Nat) : Int), ()), hq), by simp only [f_octet_Put_L10, hlt, decide_false, cond_false], rfl, A1, i1, i2⟩)
  rw [Nat.div_eq_of_lt hx] at q0
  cases q0
  refine ⟨_, h', A', ?_, q1, q2⟩
  have c1 : (1 : Int) ≤ (w : Int) := by omega
  have c2 : (w : Int) ≤ 8 := by omega
  have hl : lenB (.slice (some ⟨b, 0, some 0⟩) w w) = some w := rfl
  simp only [f_octet_Put, f_octet_may, c1, c2, decide_true, cond_true, Option.bind_some, Bool.not_true, cond_false, hb, m1, bnd_eq, hh1, hl, e, show (decide (((0 : Nat) : Int) = 0)) = true from rfl, isTuple, Bool.not_false]
end
end Go.Proofs.YtjdbmfhjccaggaaDoor
/- The first sector of a new disk: its bytes. -/
namespace Go.Proofs.YtjdbmfhjccaggaaDoor
open Go
set_option linter.unusedVariables false
set_option linter.unusedSimpArgs false
section
variable {n m k p : Nat} {s u : Value} {L X V : List Int} {h : Heap} {F G A : Ch} {c : Cf} {z : Int} {cs : List Value}
def Cf.sup (c : Cf) : List Value := c.cells ++ [.int .u64 0, .int .u64 1]
theorem sup_cell : (c.sup).all isCell = true := rfl
theorem check_ok (ho : Own h F) : ∃ h', f_super_Check n (.agg ⟨c.sup⟩) h = some ((c.e, ()), h') ∧ Own h' F := by
  have o1 := ho.new (.cells c.sup false 0)
  generalize ht : h.next = t at o1
  generalize hh1 : h.new (.cells c.sup false 0) = h1 at o1
  obtain ⟨_, _, _, _, _, l5⟩ := Cf.ld (c := c) (ys := [.int .u64 0, .int .u64 1]) o1.head
  have e2 := config_ok (n := n) (c := c) o1
  have o2 := o1.new (.cells c.cells false 0)
  generalize hh2 : h1.new (.cells c.cells false 0) = h2 at e2 o2
  have hg := o2.get (t, .cells c.sup false 0) (by simp)
  have l6 : ldT (.int .u64) h2 (some ⟨t, 5, none⟩) = some 0 := by rw [ldT_of hg]; simp [Cf.sup, Cf.cells]
  have l7 : ldT (.int .u64) h2 (some ⟨t, 6, none⟩) = some 1 := by rw [ldT_of hg]; simp [Cf.sup, Cf.cells]
  have hco : cellsOf (.agg ⟨c.sup⟩) = c.sup := rfl
  refine ⟨h2, ?_, o2.tail.tail⟩
  rcases Bool.eq_false_or_eq_true c.ok with hk | hk
  · have he : c.e = 0 := by rw [Cf.e, hk]; rfl
    simp only [f_super_Check, hco, sup_cell, cond_true, bnd_eq, nwA_eq, ht, hh1, fa_mk, Nat.zero_add, l5, e2, he, Option.bind_some, decide_true, Bool.not_true, cond_false, l6, l7, show (decide ((4611686018427387904 : Int) < 0)) = false from rfl, show (decide ((1 : Int) < 1)) = false from rfl, show (decide ((4611686018427387904 : Int) < 1)) = false from rfl]
  · have he : c.e = 3 := by rw [Cf.e, hk]; rfl
    simp only [f_super_Check, hco, sup_cell, cond_true, bnd_eq, nwA_eq, ht, hh1, fa_mk, Nat.zero_add, l5, e2, he, Option.bind_some, show (decide ((3 : Int) = 0)) = false from rfl, Bool.not_false]
theorem sencode_bad (ho : Own h F) (hk : c.ok = false) : ∃ h', f_super_Encode n (.agg ⟨c.sup⟩) h = some ((.slice none 0 0, (3, ())), h') ∧ Own h' F := by
  have o1 := ho.new (.cells c.sup false 0)
  generalize ht : h.next = t at o1
  generalize hh1 : h.new (.cells c.sup false 0) = h1 at o1
  have l7 : ldA 7 h1 (some ⟨t, 0, none⟩) = some c.sup := by rw [ldA_of o1.head (by simp [Cf.sup, Cf.cells])]; simp [Cf.sup, Cf.cells]
  obtain ⟨h2, e2, o2⟩ := check_ok (n := n) (c := c) o1
  have he : c.e = 3 := by rw [Cf.e, hk]; rfl
  rw [he] at e2
  have hco : cellsOf (.agg ⟨c.sup⟩) = c.sup := rfl
  refine ⟨h2, ?_, o2.tail⟩
  simp only [f_super_Encode, hco, sup_cell, cond_true, bnd_eq, nwA_eq, ht, hh1, l7, e2, Option.bind_some, show (decide ((3 : Int) = 0)) = false from rfl, Bool.not_false]
def wds : List Nat := [1, 1, 1, 1, 1, 1, 1, 3, 8, 8]
theorem wd_at' {j : Nat} (hj : j < 10) (hg : h.get 0 = some (.cells tab1.cells true 0)) : ixA 10 1 (some ⟨0, 0, none⟩) (j : Int) = some ⟨0, j, none⟩ ∧ ldT (.int .i64) h (some ⟨0, j, none⟩) = some ((wds.getD j 0 : Nat) : Int) ∧ 1 ≤ wds.getD j 0 ∧ wds.getD j 0 ≤ 8 := by
  have : j = 0 ∨ j = 1 ∨ j = 2 ∨ j = 3 ∨ j = 4 ∨ j = 5 ∨ j = 6 ∨ j = 7 ∨ j = 8 ∨ j = 9 := by omega
  rcases this with rfl | rfl | rfl | rfl | rfl | rfl | rfl | rfl | rfl | rfl <;> exact ⟨rfl, by rw [ldT_of hg]; rfl, by decide, by decide⟩
theorem wds_sum {j : Nat} (hj : j < 10) : (wds.take (j + 1)).sum = (wds.take j).sum + wds.getD j 0 := by
  have : j = 0 ∨ j = 1 ∨ j = 2 ∨ j = 3 ∨ j = 4 ∨ j = 5 ∨ j = 6 ∨ j = 7 ∨ j = 8 ∨ j = 9 := by omega
  rcases this with rfl | rfl | rfl | rfl | rfl | rfl | rfl | rfl | rfl | rfl <;> rfl
theorem wds_le {j : Nat} (hj : j ≤ 10) : (wds.take j).sum ≤ 26 := by
  have : j = 0 ∨ j = 1 ∨ j = 2 ∨ j = 3 ∨ j = 4 ∨ j = 5 ∨ j = 6 ∨ j = 7 ∨ j = 8 ∨ j = 9 ∨ j = 10 := by omega
  rcases this with rfl | rfl | rfl | rfl | rfl | rfl | rfl | rfl | rfl | rfl | rfl <;> decide
theorem Byt.append {A B : List Int} (ha : Byt A) (hb : Byt B) : Byt (A ++ B) := fun z hz => (List.mem_append.1 hz).elim (ha z) (hb z)
theorem byt_zeros {m : Nat} : Byt (List.replicate m 0) := fun z hz => by rw [List.eq_of_mem_replicate hz]; decide
def supH (c : Cf) : List Int := [87, 73, 67, 75, 69, 84, 1, 0, c.b, c.l, c.r, c.g, c.c, 0, 0, 0] ++ (le 0 8 ++ (le 1 8 ++ List.replicate 28 0))
def supB (c : Cf) : List Int := supH c ++ le (crc (supH c)) 4
def cat (Z : List Nat) (j : Nat) : List Int := (List.range j).flatMap fun i => le (Z.getD i 0) (wds.getD i 0)
theorem cat_snoc {Z : List Nat} {j : Nat} : cat Z (j + 1) = cat Z j ++ le (Z.getD j 0) (wds.getD j 0) := by
  simp [cat, List.range_succ]
theorem le1 {x : Nat} (hx : x < 256) : le x 1 = [(x : Int)] := by
  show [((x % 256 : Nat) : Int)] = _
  rw [Nat.mod_eq_of_lt hx]
theorem cat_all {nb nl nr ng nc : Nat} (h1 : nb < 256) (h2 : nl < 256) (h3 : nr < 256) (h4 : ng < 256) (h5 : nc < 256) (hb : c.b = nb) (hl : c.l = nl) (hr : c.r = nr) (hg : c.g = ng) (hc : c.c = nc) :
    [87, 73, 67, 75, 69, 84] ++ cat [1, 0, nb, nl, nr, ng, nc, 0, 0, 1] 10 ++ List.replicate 28 0 = supH c := by
  have e : cat [1, 0, nb, nl, nr, ng, nc, 0, 0, 1] 10 = le 1 1 ++ (le 0 1 ++ (le nb 1 ++ (le nl 1 ++ (le nr 1 ++ (le ng 1 ++ (le nc 1 ++ (le 0 3 ++ (le 0 8 ++ (le 1 8 ++ []))))))))) := rfl
  rw [e, le1 h1, le1 h2, le1 h3, le1 h4, le1 h5, supH, hb, hl, hr, hg, hc]
  simp only [List.append_nil, List.append_assoc, List.cons_append, List.nil_append]
  rfl
theorem sencode_ok (hk : c.ok = true) (hl : -9223372036854775808 ≤ c.l ∧ c.l ≤ 9223372036854775807) (hm0 : tabO ∈ F) (hm1 : tabP ∈ F) (ho : Own h F) (hn : 2000 ≤ n) :
    ∃ s h' A, f_super_Encode n (.agg ⟨c.sup⟩) h = some ((s, (0, ())), h') ∧ Slc 1 s 64 (iz .u8 (supB c)) A ∧ Own h' (A ++ F) := by
  obtain ⟨⟨b1, b2⟩, ⟨b3, b4⟩, ⟨b5, b6⟩, ⟨b7, b8⟩, b9, b10⟩ := Cf.bounds hk hl
  have o1 := ho.new (.cells c.sup false 0)
  generalize ht : h.next = t at o1
  generalize hh1 : h.new (.cells c.sup false 0) = h1 at o1
  have l7 : ldA 7 h1 (some ⟨t, 0, none⟩) = some c.sup := by rw [ldA_of o1.head (by simp [Cf.sup, Cf.cells])]; simp [Cf.sup, Cf.cells]
  obtain ⟨h2, e2, o2⟩ := check_ok (n := n) (c := c) o1
  have he : c.e = 0 := by rw [Cf.e, hk]; rfl
  rw [he] at e2
  have hco : cellsOf (.agg ⟨c.sup⟩) = c.sup := rfl
  obtain ⟨_, _, _, _, _, l5⟩ := Cf.ld (c := c) (ys := [.int .u64 0, .int .u64 1]) o2.head
  -- a copy of the configuration
  have o3 := o2.new (.cells (List.replicate 5 (.int .i64 0)) false 0)
  generalize ht2 : h2.next = t2 at o3
  generalize hh3 : h2.new (.cells (List.replicate 5 (.int .i64 0)) false 0) = h3 at o3
  have s4 := stBA_of (sp := none) (o := 0) (sz := 5) (vs := c.cells) o3.head rfl cf_cell (by simp)
  have w4 : writeAt (List.replicate 5 (Value.int .i64 0)) 0 c.cells = c.cells := rfl
  rw [w4] at s4
  have o4 := o3.put (.cells c.cells false 0)
  generalize hh4 : h3.put t2 (.cells c.cells false 0) = h4 at s4 o4
  have o5 := o4.new (.cells (iz .u8 [87, 73, 67, 75, 69, 84]) false 1)
  have y5 : Slc 1 (.slice (some ⟨h4.next, 0, some 0⟩) 6 6) 6 (iz .u8 [87, 73, 67, 75, 69, 84]) [(h4.next, .cells ([] ++ (iz .u8 [87, 73, 67, 75, 69, 84] ++ [])) false 1)] := .mk rfl rfl rfl
  generalize hb5 : h4.next = t5 at o5 y5
  generalize hh5 : h4.new (.cells (iz .u8 [87, 73, 67, 75, 69, 84]) false 1) = h5 at o5
  have mk : markSK h5 (.slice (some ⟨t5, 0, some 0⟩) 6 6) = some (.slice (some ⟨t5, 0, some 0⟩) 6 6, h5.put t5 (.cells (iz .u8 [87, 73, 67, 75, 69, 84]) false 1)) := by
    simp only [markSK, o5.head]; rfl
  have o6 := o5.put (.cells (iz .u8 [87, 73, 67, 75, 69, 84]) false 1)
  generalize hh6 : h5.put t5 (.cells (iz .u8 [87, 73, 67, 75, 69, 84]) false 1) = h6 at o6 mk
  obtain ⟨x0, x1, x2, x3, x4, _⟩ := Cf.ld' (c := c) (o6.get (t2, .cells c.cells false 0) (by simp))
  have hgs := o6.get (t, .cells c.sup false 0) (by simp)
  have x5 : ldT (.int .u64) h6 (some ⟨t, 5, none⟩) = some 0 := by rw [ldT_of hgs]; simp [Cf.sup, Cf.cells]
  have x6 : ldT (.int .u64) h6 (some ⟨t, 6, none⟩) = some 1 := by rw [ldT_of hgs]; simp [Cf.sup, Cf.cells]
  -- the ten numbers
  obtain ⟨nb, hnb⟩ : ∃ x : Nat, c.b = x := ⟨c.b.toNat, by omega⟩
  obtain ⟨nl, hnl⟩ : ∃ x : Nat, c.l = x := ⟨c.l.toNat, by omega⟩
  obtain ⟨nr, hnr⟩ : ∃ x : Nat, c.r = x := ⟨c.r.toNat, by omega⟩
  obtain ⟨ng, hng⟩ : ∃ x : Nat, c.g = x := ⟨c.g.toNat, by omega⟩
  obtain ⟨nc, hnc⟩ : ∃ x : Nat, c.c = x := ⟨c.c.toNat, by omega⟩
  have w64 : ∀ x : Nat, x < 4294967296 → IntKind.u64.wrap (x : Int) = (x : Int) := fun x hx => by
    have : (x : Int) % 18446744073709551616 = x := Int.emod_eq_of_lt (by omega) (by omega)
    simpa [IntKind.wrap, IntKind.signed, IntKind.bits] using this
  obtain ⟨Z, hZ⟩ : ∃ Z : List Nat, Z = [1, 0, nb, nl, nr, ng, nc, 0, 0, 1] := ⟨_, rfl⟩
  have hZl : Z.length = 10 := by rw [hZ]; rfl
  have hZw : ∀ j, j < 10 → Z.getD j 0 < 256 ^ wds.getD j 0 := by
    intro j hj
    rw [hZ]
    have : j = 0 ∨ j = 1 ∨ j = 2 ∨ j = 3 ∨ j = 4 ∨ j = 5 ∨ j = 6 ∨ j = 7 ∨ j = 8 ∨ j = 9 := by omega
    rcases this with rfl | rfl | rfl | rfl | rfl | rfl | rfl | rfl | rfl | rfl <;> simp [wds] <;> omega
  have f7 : fillL (List.replicate 10 (.int .u64 0)) [(0, 1, .int .u64 1), (1, 1, .int .u64 0), (2, 1, .int .u64 (nb : Int)), (3, 1, .int .u64 (nl : Int)), (4, 1, .int .u64 (nr : Int)), (5, 1, .int .u64 (ng : Int)), (6, 1, .int .u64 (nc : Int)), (7, 1, .int .u64 0), (8, 1, .int .u64 0), (9, 1, .int .u64 1)] = some (iz .u64 (Z.map fun (x : Nat) => (x : Int))) := by rw [hZ]; rfl
  have o7 := o6.new (.cells (iz .u64 (Z.map fun (x : Nat) => (x : Int))) false 1)
  have y7 : Slc 1 (.slice (some ⟨h6.next, 0, some 0⟩) 10 10) 10 (iz .u64 (Z.map fun (x : Nat) => (x : Int))) [(h6.next, .cells ([] ++ (iz .u64 (Z.map fun (x : Nat) => (x : Int)) ++ [])) false 1)] := .mk rfl (by simp [hZl]) (by simp [hZl])
  have hnx7 : h6.next = h6.next := rfl
  generalize hb7 : h6.next = t7 at o7 y7
  generalize hh7 : h6.new (.cells (iz .u64 (Z.map fun (x : Nat) => (x : Int))) false 1) = h7 at o7
  have hm1' : tabP ∈ (t, AObj.cells c.sup false 0) :: F := List.mem_cons_of_mem _ hm1
  obtain ⟨⟨⟨s8, _⟩, h8⟩, e8, A8, X8, a8, x8l, ⟨x8b, x8e⟩, o8⟩ := loopT_up (f := fun a => f_super_Encode_L28 n (.slice (some ⟨t5, 0, some 0⟩) 6 6, h6) 10 a.1.1 a.1.2.1 a.2)
    (fun j (a : (Value × Int × Unit) × Heap) => a.1.2.1 = (j : Int) ∧ ∃ A X, Slc 1 a.1.1 (6 + (wds.take j).sum) (iz .u8 X) A ∧ X.length = 6 + (wds.take j).sum ∧ (Byt X ∧ X = [87, 73, 67, 75, 69, 84] ++ cat Z j) ∧ Own a.2 (A ++ ((t7, .cells (iz .u64 (Z.map fun (x : Nat) => (x : Int))) false 1) :: ((t, .cells c.sup false 0) :: F))))
    (fun r => ∃ A X, Slc 1 r.1.1 32 (iz .u8 X) A ∧ X.length = 32 ∧ (Byt X ∧ X = [87, 73, 67, 75, 69, 84] ++ cat Z 10) ∧ Own r.2 (A ++ ((t7, .cells (iz .u64 (Z.map fun (x : Nat) => (x : Int))) false 1) :: ((t, .cells c.sup false 0) :: F)))) (N := 10) (k := n) (j := 0) (a := ((.slice (some ⟨t5, 0, some 0⟩) 6 6, (0, ())), h7)) (by omega) (by omega)
    ⟨rfl, _, _, y5, rfl, ⟨by unfold Byt; decide, rfl⟩, o7.to fun z => by simp only [cnt_append, cnt_cons, cnt_nil, List.nil_append, List.append_nil]; omega⟩
    (fun j a hj hi => by
      obtain ⟨⟨v, i0, _⟩, hq⟩ := a
      obtain ⟨e0, A, X, i1, i2, i3, i4⟩ := hi
      have e0 : i0 = (j : Int) := e0
      subst e0
      have i1 : Slc 1 v _ _ A := i1
      have i4 : Own hq _ := i4
      have hlt : (j : Int) < ((10 : Nat) : Int) := by omega
      have ry := y7.rds (h := hq) (F := A ++ ((t, .cells c.sup false 0) :: F)) (i4.to fun z => by simp only [cnt_append, cnt_cons, cnt_nil, List.nil_append, List.append_nil]; omega)
      obtain ⟨q, g1, g2⟩ := ry.intn (by simp [hZl]) (i := j) (by omega)
      have gz : (Z.map fun (x : Nat) => (x : Int))[j]'(by simp [hZl]; omega) = ((Z.getD j 0 : Nat) : Int) := by
        rw [List.getElem_map, List.getD_eq_getElem?_getD, List.getElem?_eq_getElem (by omega)]; rfl
      rw [gz] at g2
      obtain ⟨w1, w2, w3, w4⟩ := wd_at' hj (i4.get tabP (List.mem_append_right _ (List.mem_cons_of_mem _ hm1')))
      obtain ⟨s9, h9, A9, e9, a9, o9⟩ := oputw_ok (n := n) w3 w4 (hZw j hj) i4 (by omega)
      have hsl := wds_le (j := j) (by omega)
      obtain ⟨s10, h10, A10, e10, a10, o10⟩ := a9.sow.app i1 (h := h9) (F := (t7, .cells (iz .u64 (Z.map fun (x : Nat) => (x : Int))) false 1) :: ((t, .cells c.sup false 0) :: F)) (o9.to fun z => by simp only [cnt_append, cnt_cons]; omega) (by decide) (bytes := 1) (by omega)
      refine .inl ⟨((s10, (((j + 1 : Nat) : Int), ())), h10), ?_, rfl, A10, X ++ le (Z.getD j 0) (wds.getD j 0), ?_, ?_, ⟨i3.1.append le_byt, by rw [cat_snoc, i3.2, List.append_assoc]⟩, o10.to fun z => by simp only [cnt_append, cnt_cons]; omega⟩
      · simp only [f_super_Encode_L28, hlt, decide_true, cond_true, hb7, g1, g2, w1, w2, Option.bind_some, e9, e10, wrap_succ (show j < 4611686018427387904 by omega)]
      · rw [wds_sum hj, ← Nat.add_assoc]; simpa [iz] using a10
      · rw [wds_sum hj, List.length_append, le_len, i2]; omega)
    (fun a hi => by
      obtain ⟨⟨v, i0, _⟩, hq⟩ := a
      obtain ⟨e0, A, X, i1, i2, i3, i4⟩ := hi
      have e0 : i0 = ((10 : Nat) : Int) := e0
      subst e0
      exact ⟨((v, ()), hq), by simp only [f_super_Encode_L28, show (decide (((10 : Nat) : Int) < ((10 : Nat) : Int))) = false from rfl, cond_false], A, X, i1, i2, i3, i4⟩)
  have o8 : Own h8 _ := o8
  have a8 : Slc 1 s8 32 _ A8 := a8
  -- padded
  have m9 := mkSl_of (nx := h8.next) (bytes := 1) (es := 1) (zs := [.int .u8 0]) (k := .i64) (k' := .i64) (l := 28) (c := 28) (by omega) (by omega) (by omega)
  have hz9 : (List.replicate 28 [Value.int .u8 0]).flatten = iz .u8 (List.replicate 28 0) := by rw [flat_rep1, iz_rep]
  rw [hz9] at m9
  have o9 := o8.new (.cells (iz .u8 (List.replicate 28 0)) false 1)
  generalize hb9 : h8.next = t9 at m9 o9
  generalize hh9 : h8.new (.cells (iz .u8 (List.replicate 28 0)) false 1) = h9 at o9
  have y9 : Sow 1 (.slice (some ⟨t9, 0, some 0⟩) 28 28) (List.replicate 28 (0 : Int)).length (iz .u8 (List.replicate 28 0)) [(t9, .cells (iz .u8 (List.replicate 28 0)) false 1)] := by
    have := lits (b := t9) (vs := iz .u8 (List.replicate 28 0))
    simpa [iz] using this
  have o10 := o9.new (.cells [s8, .slice (some ⟨t9, 0, some 0⟩) 28 28] false 1)
  generalize hb10 : h9.next = t10 at o10
  generalize hh10 : h9.new (.cells [s8, .slice (some ⟨t9, 0, some 0⟩) 28 28] false 1) = h10 at o10
  obtain ⟨s11, h11, A11, e11, a11, o11⟩ := join_ok (n := n) (P := [(s8, X8), (.slice (some ⟨t9, 0, some 0⟩) 28 28, List.replicate 28 0)]) (u := .slice (some ⟨t10, 0, some 0⟩) 2 2)
    (G := (t10, .cells [s8, .slice (some ⟨t9, 0, some 0⟩) 28 28] false 1) :: (t9, .cells (iz .u8 (List.replicate 28 0)) false 1) :: A8) (h := h10) (F := (t7, .cells (iz .u64 (Z.map fun (x : Nat) => (x : Int))) false 1) :: ((t, .cells c.sup false 0) :: F))
    ((lits (b := t10) (vs := [s8, .slice (some ⟨t9, 0, some 0⟩) 28 28])).mono fun x hx => by simp only [List.mem_singleton] at hx; subst hx; exact List.mem_cons_self ..)
    (by
      intro x hx
      simp only [List.mem_cons, List.not_mem_nil, or_false] at hx
      rcases hx with rfl | rfl
      · rw [x8l]; exact a8.sow.mono fun x hx => by simp [hx]
      · exact y9.mono fun x hx => by simp only [List.mem_singleton] at hx; subst hx; simp)
    (o10.to fun z => by simp only [cnt_append, cnt_cons, cnt_nil]; omega) (by simp [x8l]) (by simp) hn
  have hf11 : ([(s8, X8), ((.slice (some ⟨t9, 0, some 0⟩) 28 28 : Value), List.replicate 28 (0 : Int))] : List (Value × List Int)).flatMap (·.2) = X8 ++ List.replicate 28 0 := by simp
  rw [hf11] at a11
  have hY : (X8 ++ List.replicate 28 (0 : Int)).length = 60 := by simp [x8l]
  have hYb : Byt (X8 ++ List.replicate 28 (0 : Int)) := x8b.append byt_zeros
  have hYe : X8 ++ List.replicate 28 (0 : Int) = supH c := by
    rw [x8e, hZ]; exact cat_all (by omega) (by omega) (by omega) (by omega) (by omega) hnb hnl hnr hng hnc
  rw [hYe] at a11 hY hYb
  obtain ⟨Y, hYY⟩ : ∃ Y, Y = supH c := ⟨_, rfl⟩
  rw [← hYY] at a11 hY hYb
  -- the sum behind
  have o12 := o11.new (.cells [s11] false 1)
  generalize hb12 : h11.next = t12 at o12
  generalize hh12 : h11.new (.cells [s11] false 1) = h12 at o12
  have e13 := of_ok (n := n) (o12.get tabO (List.mem_cons_of_mem _ (List.mem_append_right _ (List.mem_append_right _ (List.mem_cons_of_mem _ (List.mem_cons_of_mem _ hm0)))))) hYb (s := s11) (u := .slice (some ⟨t12, 0, some 0⟩) 1 1) (G := (t12, .cells [s11] false 1) :: A11) (h := h12) (F := F)
    (a11.sow.mono fun x hx => List.mem_cons_of_mem _ hx) ((lits (b := t12) (vs := [s11])).mono fun x hx => by simp only [List.mem_singleton] at hx; subst hx; exact List.mem_cons_self ..) (o12.to fun z => by simp only [cnt_append, cnt_cons, List.cons_append]; omega) (by omega) hn
  have hcl := crc_lt hYb
  obtain ⟨s14, h14, A14, e14, a14, o14⟩ := oput_ok (n := n) hcl (h := h12) (F := A11 ++ F) (o12.to fun z => by simp only [cnt_append, cnt_cons]; omega) hn
  obtain ⟨s15, h15, A15, e15, a15, o15⟩ := a14.sow.app a11 (h := h14) (F := F) (o14.to fun z => by simp only [cnt_append]; omega) (by decide) (bytes := 1) (by omega)
  rw [hY] at a15
  refine ⟨s15, h15, A15, ?_, by rw [supB, ← hYY]; simpa [iz] using a15, o15.to fun z => by simp only [cnt_append]; omega⟩
  have f6 : fillL (List.replicate 6 (.int .u8 0)) [(0, 1, .int .u8 87), (1, 1, .int .u8 73), (2, 1, .int .u8 67), (3, 1, .int .u8 75), (4, 1, .int .u8 69), (5, 1, .int .u8 84)] = some (iz .u8 [87, 73, 67, 75, 69, 84]) := rfl
  have wb := w64 nb (by omega)
  have wl := w64 nl (by omega)
  have wr := w64 nr (by omega)
  have wg := w64 ng (by omega)
  have wc' := w64 nc (by omega)
  have l10 : lenB (.slice (some ⟨t7, 0, some 0⟩) 10 10) = some 10 := rfl
  have f11 : fillL [.slice none 0 0, .slice none 0 0] [(0, 1, s8), (1, 1, .slice (some ⟨t9, 0, some 0⟩) 28 28)] = some [s8, .slice (some ⟨t9, 0, some 0⟩) 28 28] := by obtain ⟨x, y, rfl⟩ := a8.form; rfl
  have f12 : fillL [.slice none 0 0] [(0, 1, s11)] = some [s11] := by obtain ⟨x, y, rfl⟩ := a11.form; rfl
  have w28 : IntKind.i64.wrap (60 - ((32 : Nat) : Int)) = ((28 : Nat) : Int) := by decide
  have ePad : f_octet_Pad n s8 60 h8 = some ((s11, (0, ())), h11) := by
    simp only [f_octet_Pad, show (decide ((60 : Int) < 0)) = false from rfl, cond_false, show (decide ((64 : Int) < 60)) = false from rfl, Option.bind_some, a8.lenB, show (decide ((60 : Int) < ((32 : Nat) : Int))) = false from rfl, w28, hb9, m9, bnd_eq, hh9, f11, hb10, hh10, e11, a11.notT, Bool.not_false, cond_true]
  rw [hnb] at x0
  rw [hnl] at x1
  rw [hnr] at x2
  rw [hng] at x3
  rw [hnc] at x4
  simp only [f_super_Encode, hco, sup_cell, cond_true, bnd_eq, nwA_eq, ht, hh1, l7, e2, Option.bind_some, decide_true, Bool.not_true, cond_false, fa_mk, Nat.zero_add, l5, ht2, hh3, s4, f6, hb5, hh5, mk, x0, x1, x2, x3, x4, x5, x6, wb, wl, wr, wg, wc', f7, hb7, hh7, l10, e8, ePad, f12, hb12, hh12, e13, w64 _ hcl, e14, e15, a15.notT, Bool.not_false]
end
end Go.Proofs.YtjdbmfhjccaggaaDoor
/- Save, Load, All of any configuration. -/
namespace Go.Proofs.YtjdbmfhjccaggaaDoor
open Go
set_option linter.unusedVariables false
set_option linter.unusedSimpArgs false
def deV (z : Int) (B : List Int) : List Int := if 0 ≤ z ∧ z < 64 then decV z B else List.replicate 32 0
def deE (z : Int) (B : List Int) : Int := if 0 ≤ z ∧ z < 64 then decE z B else 51
def Cf.wf (c : Cf) : Prop := (-9223372036854775808 ≤ c.b ∧ c.b ≤ 9223372036854775807) ∧ (-9223372036854775808 ≤ c.l ∧ c.l ≤ 9223372036854775807) ∧ (-9223372036854775808 ≤ c.r ∧ c.r ≤ 9223372036854775807)
structure Byts (ds : List (List Int)) (ws : List (Int × List Int)) : Prop where
  d : ∀ d ∈ ds, Byt d
  w : ∀ w ∈ ws, Byt w.2
def fitE (c : Cf) (N : Nat) : Int := if c.ok then (if (N : Int) = 1 + c.b + c.l then 0 else 40) else 3
def hasE (c : Cf) (N : Nat) (z : Int) : Int := if fitE c N = 0 then (if 0 ≤ z ∧ z < c.b then 0 else 51) else fitE c N
def svW (c : Cf) (N : Nat) (ws : List (Int × List Int)) (z : Int) (v : List Int) : List (Int × List Int) := if hasE c N z = 0 then ws ++ [(1 + z, enc z v)] else ws
def sec (ds : List (List Int)) (ws : List (Int × List Int)) (z : Int) : List Int := rdv ws (1 + z) (ds.getD (1 + z).toNat [])
def ldV (c : Cf) (ds : List (List Int)) (ws : List (Int × List Int)) (z : Int) : List Int := if hasE c ds.length z = 0 then decV z (sec ds ws z) else List.replicate 32 0
def ldE (c : Cf) (ds : List (List Int)) (ws : List (Int × List Int)) (z : Int) : Int := if hasE c ds.length z = 0 then decE z (sec ds ws z) else hasE c ds.length z
def fsE (c : Cf) (ds : List (List Int)) (ws : List (Int × List Int)) : Nat → Int
  | 0 => 0
  | j + 1 => if fsE c ds ws j = 0 then ldE c ds ws (j : Int) else fsE c ds ws j
def alE (c : Cf) (ds : List (List Int)) (ws : List (Int × List Int)) : Int := if fitE c ds.length = 0 then fsE c ds ws c.b.toNat else fitE c ds.length
def alV (c : Cf) (ds : List (List Int)) (ws : List (Int × List Int)) : List (List Int) := if alE c ds ws = 0 then (List.range c.b.toNat).map fun (i : Nat) => ldV c ds ws (i : Int) else []
section
variable {n m k p i : Nat} {s u : Value} {L X V v : List Int} {h : Heap} {F G A Lx : Ch} {c : Cf} {z : Int} {cs : List Value} {ds vals : List (List Int)} {ws : List (Int × List Int)}
theorem fit_b (hw : c.wf) (h : fitE c m = 0) : c.ok = true ∧ (m : Int) = 1 + c.b + c.l ∧ (1 ≤ c.b ∧ c.b ≤ 64) ∧ (2 ≤ c.l ∧ c.l ≤ 64) := by
  unfold fitE at h
  by_cases hk : c.ok = true
  · rw [if_pos hk] at h
    by_cases hn : (m : Int) = 1 + c.b + c.l
    · have := Cf.bounds hk hw.2.1
      exact ⟨hk, hn, this.1, this.2.1⟩
    · rw [if_neg hn] at h; cases h
  · rw [if_neg hk] at h; cases h
theorem has_b (hw : c.wf) (h : hasE c m z = 0) : fitE c m = 0 ∧ 0 ≤ z ∧ z < c.b := by
  unfold hasE at h
  by_cases hf : fitE c m = 0
  · rw [if_pos hf] at h
    by_cases hz : 0 ≤ z ∧ z < c.b
    · exact ⟨hf, hz⟩
    · rw [if_neg hz] at h; cases h
  · rw [if_neg hf] at h; exact absurd h hf
theorem sec_len (ho : Okd ds ws) (h : (1 + z).toNat < ds.length) : (sec ds ws z).length = 64 := by
  unfold sec
  refine rdv_len (fun w hw => by have := ho.w w hw; simpa [wc] using this) ?_
  rw [List.getD_eq_getElem?_getD, List.getElem?_eq_getElem h]
  have := ho.d _ (List.getElem_mem h)
  simpa using this
theorem sec_byt (hb : Byts ds ws) : Byt (sec ds ws z) := by
  have : ∀ (ws : List (Int × List Int)) (d : List Int), (∀ w ∈ ws, Byt w.2) → Byt d → Byt (rdv ws (1 + z) d) := by
    intro ws
    induction ws with
    | nil => intro d _ hd; exact hd
    | cons w ws ih =>
      intro d hw hd
      refine ih _ (fun x hx => hw x (List.mem_cons_of_mem _ hx)) ?_
      dsimp only
      split
      · exact hw w (List.mem_cons_self ..)
      · exact hd
  refine this ws _ hb.w ?_
  rw [List.getD_eq_getElem?_getD]
  cases he : ds[(1 + z).toNat]? with
  | none => intro z hz; cases hz
  | some d => exact hb.d d (List.mem_of_getElem? he)
theorem ldV_len : (ldV c ds ws z).length = 32 := by
  unfold ldV; split
  · exact decV_len
  · simp
theorem roA1 {t : Nat} {xs : List Value} {q : Bool} {es : Nat} (ho : Own h ((t, .cells xs q es) :: F)) : Own (hid h [] [t, t]) ((t, .cells xs true es) :: F) := by
  have hk : ∀ x ∈ F, (hid h [] [t, t]).get x.1 = h.get x.1 := fun x hx => by
    have hne := ho.notin x hx
    simp only at hne
    rw [get_hid, if_neg (by simp; exact hne), if_neg List.not_mem_nil]
  refine Own.cons (ho.tail.keep hk (by rw [next_hid]; exact Nat.le_refl _)) ?_ (by rw [next_hid]; exact ho.lt (t, .cells xs q es) (List.mem_cons_self ..)) ho.notin
  rw [get_hid, if_pos (by simp), if_neg List.not_mem_nil, ho.head]; rfl
theorem backA1 {h0 : Heap} {t : Nat} {xs : List Value} {q : Bool} {es : Nat} (ho : Own h ((t, .cells xs true es) :: F)) (hg : h0.get t = some (.cells xs q es)) : Own (h.putBack h0 [t, t]) ((t, .cells xs q es) :: F) := by
  have hk : ∀ x ∈ F, (h.putBack h0 [t, t]).get x.1 = h.get x.1 := fun x hx => by
    have hne := ho.notin x hx
    simp only at hne
    rw [Heap.get_putBack, if_neg (by simp; exact hne)]
  refine Own.cons (ho.tail.keep hk (by rw [Heap.next_putBack]; exact Nat.le_refl _)) ?_ (by rw [Heap.next_putBack]; exact ho.lt (t, .cells xs true es) (List.mem_cons_self ..)) ho.notin
  rw [Heap.get_putBack, if_pos (by simp)]; exact hg
theorem fits_ok (hd : Dk p ds ws Lx) (hN : ds.length ≤ 4096) (hw : c.wf) (ho : Own h (Lx ++ F)) : ∃ h', f_home_fits n (some ⟨p, 0, none⟩) (.agg ⟨c.cells⟩) h = some ((fitE c ds.length, ()), h') ∧ Own h' (Lx ++ F) := by
  have o1 := ho.new (.cells c.cells false 0)
  generalize ht : h.next = t at o1
  generalize hh1 : h.new (.cells c.cells false 0) = h1 at o1
  obtain ⟨_, _, _, _, _, l5⟩ := Cf.ld' (c := c) o1.head
  have e2 := config_ok (n := n) (c := c) o1
  have o2 := o1.new (.cells c.cells false 0)
  generalize hh2 : h1.new (.cells c.cells false 0) = h2 at e2 o2
  have hco : cellsOf (.agg ⟨c.cells⟩) = c.cells := rfl
  rcases Bool.eq_false_or_eq_true c.ok with hk | hk
  · obtain ⟨⟨b1, b2⟩, ⟨b3, b4⟩, _⟩ := Cf.bounds hk hw.2.1
    have he : c.e = 0 := by rw [Cf.e, hk]; rfl
    rw [he] at e2
    obtain ⟨l0, l1, _⟩ := Cf.ld' (c := c) (o2.get (t, .cells c.cells false 0) (by simp))
    have o3 : Own h2 ((t, .cells c.cells false 0) :: (Lx ++ F)) := o2.tail
    have o4 := roA1 o3
    have e5 := len_ok (n := n) (sp := none) hd (h := hid h2 [] [t, t]) (F := (t, .cells c.cells true 0) :: F) (o4.to fun x => by simp only [cnt_append, cnt_cons]; omega)
    have o6 := backA1 (h0 := h2) (q := false) o4 o3.head
    generalize hh6 : (hid h2 [] [t, t]).putBack h2 [t, t] = h6 at o6
    have hwr : IntKind.i64.wrap (IntKind.i64.wrap (1 + c.b) + c.l) = 1 + c.b + c.l := by
      have w0 : IntKind.i64.wrap (1 + c.b) = 1 + c.b := wrap_i64 (by omega) (by omega)
      rw [w0, wrap_i64 (by omega) (by omega)]
    refine ⟨h6, ?_, o6.tail⟩
    by_cases hn : (ds.length : Int) = 1 + c.b + c.l
    · rw [fitE, if_pos hk, if_pos hn]
      simp only [f_home_fits, hco, cf_cell, cond_true, bnd_eq, hh1, Option.isNone_some, cond_false, nwA_eq, ht, l5, e2, Option.bind_some, decide_true, Bool.not_true, fa_mk, Nat.zero_add, l0, l1, e5, List.nil_append, hh6, hwr, hn]
    · rw [fitE, if_pos hk, if_neg hn]
      simp only [f_home_fits, hco, cf_cell, cond_true, bnd_eq, hh1, Option.isNone_some, cond_false, nwA_eq, ht, l5, e2, Option.bind_some, decide_true, Bool.not_true, fa_mk, Nat.zero_add, l0, l1, e5, List.nil_append, hh6, hwr, hn, decide_false, Bool.not_false]
  · have he : c.e = 3 := by rw [Cf.e, hk]; rfl
    rw [he] at e2
    rw [fitE, hk, if_neg (by simp)]
    refine ⟨h2, ?_, o2.tail.tail⟩
    simp only [f_home_fits, hco, cf_cell, cond_true, bnd_eq, hh1, Option.isNone_some, cond_false, nwA_eq, ht, l5, e2, Option.bind_some, show (decide ((3 : Int) = 0)) = false from rfl, Bool.not_false]
theorem hhas_ok (hd : Dk p ds ws Lx) (hN : ds.length ≤ 4096) (hw : c.wf) (ho : Own h (Lx ++ F)) : ∃ h', f_home_has n (some ⟨p, 0, none⟩) (.agg ⟨c.cells⟩) z h = some ((hasE c ds.length z, ()), h') ∧ Own h' (Lx ++ F) := by
  have o1 := ho.new (.cells c.cells false 0)
  generalize ht : h.next = t at o1
  generalize hh1 : h.new (.cells c.cells false 0) = h1 at o1
  obtain ⟨_, _, _, _, _, l5⟩ := Cf.ld' (c := c) o1.head
  obtain ⟨h2, e2, o2⟩ := fits_ok (n := n) (c := c) hd hN hw (h := h1) (F := (t, .cells c.cells false 0) :: F) (o1.to fun x => by simp only [cnt_append, cnt_cons]; omega)
  obtain ⟨l0, _⟩ := Cf.ld' (c := c) (o2.get (t, .cells c.cells false 0) (by simp))
  have hco : cellsOf (.agg ⟨c.cells⟩) = c.cells := rfl
  refine ⟨h2, ?_, o2.to fun x => by simp only [cnt_append, cnt_cons]; omega⟩
  by_cases hf : fitE c ds.length = 0
  · rw [hf] at e2
    by_cases h0 : z < 0
    · rw [hasE, if_pos hf, if_neg (by omega)]
      simp only [f_home_has, hco, cf_cell, cond_true, bnd_eq, hh1, nwA_eq, ht, l5, e2, Option.bind_some, decide_true, Bool.not_true, cond_false, h0]
    · by_cases h1' : c.b ≤ z
      · rw [hasE, if_pos hf, if_neg (by omega)]
        simp only [f_home_has, hco, cf_cell, cond_true, bnd_eq, hh1, nwA_eq, ht, l5, e2, Option.bind_some, decide_true, decide_false, Bool.not_true, cond_false, h0, fa_mk, Nat.zero_add, l0, h1']
      · rw [hasE, if_pos hf, if_pos (by omega)]
        simp only [f_home_has, hco, cf_cell, cond_true, bnd_eq, hh1, nwA_eq, ht, l5, e2, Option.bind_some, decide_true, decide_false, Bool.not_true, cond_false, h0, fa_mk, Nat.zero_add, l0, h1']
  · rw [hasE, if_neg hf]
    have hd0 : decide (fitE c ds.length = 0) = false := decide_eq_false hf
    simp only [f_home_has, hco, cf_cell, cond_true, bnd_eq, hh1, nwA_eq, ht, l5, e2, Option.bind_some, hd0, Bool.not_false]
theorem save_ok (hd : Dk p ds ws Lx) (hN : ds.length ≤ 4096) (hcw : c.wf) (hv : v.length = 32) (hb : Byt v) (hm0 : tabO ∈ F) (ho : Own h (Lx ++ F)) (hW : ws.length ≤ 1000) (hn : 2000 ≤ n) :
    ∃ h' Lx', f_home_Save n (some ⟨p, 0, none⟩) (.agg ⟨c.cells⟩) z (.agg ⟨iz .u8 v⟩) h = some ((hasE c ds.length z, ()), h') ∧ Dk p ds (svW c ds.length ws z v) Lx' ∧ Own h' (Lx' ++ F) := by
  have o1 := ho.new (.cells c.cells false 0)
  generalize ht : h.next = t at o1
  generalize hh1 : h.new (.cells c.cells false 0) = h1 at o1
  have o2 := o1.new (.cells (iz .u8 v) false 0)
  generalize ht2 : h1.next = t2 at o2
  generalize hh2 : h1.new (.cells (iz .u8 v) false 0) = h2 at o2
  obtain ⟨_, _, _, _, _, l5⟩ := Cf.ld' (c := c) (o2.get (t, .cells c.cells false 0) (by simp))
  obtain ⟨h3, e3, o3⟩ := hhas_ok (n := n) (z := z) (c := c) hd hN hcw (h := h2) (F := (t2, .cells (iz .u8 v) false 0) :: (t, .cells c.cells false 0) :: F) (o2.to fun x => by simp only [cnt_append, cnt_cons]; omega)
  have hco : cellsOf (.agg ⟨c.cells⟩) = c.cells := rfl
  have hcv : cellsOf (.agg ⟨iz .u8 v⟩) = iz .u8 v := rfl
  by_cases hz : hasE c ds.length z = 0
  · obtain ⟨hf, hz0, hzb⟩ := has_b hcw hz
    obtain ⟨_, hnn, hbb, hlb⟩ := fit_b hcw hf
    rw [hz] at e3
    rw [hz, svW, if_pos hz]
    have l4 := arr_ld (o3.get (t2, .cells (iz .u8 v) false 0) (by simp)) hv
    have hF : tabO ∈ Lx ++ ((t2, AObj.cells (iz .u8 v) false 0) :: (t, .cells c.cells false 0) :: F) := List.mem_append_right _ (List.mem_cons_of_mem _ (List.mem_cons_of_mem _ hm0))
    obtain ⟨s5, h5, A5, e5, a5, o5⟩ := encode_ok (n := n) (k := z) (V := v) hz0 (by omega) hv hb hF o3 hn
    have hne : ∃ b k c, s5 = .slice (some b) k c := by
      have hl := a5.len
      generalize iz .u8 (enc z v) = xs at a5 hl
      cases a5 with
      | mk hp hl hr => exact ⟨_, _, _, rfl⟩
    have w6 : IntKind.i64.wrap (1 + z) = 1 + z := wrap_i64 (by omega) (by omega)
    obtain ⟨h6, L6, e6, d6, o6⟩ := write_ok (n := n) (sp := none) hd (u := s5) (X := enc z v) (i := 1 + z) (G := A5) (h := h5) (F := (t2, .cells (iz .u8 v) false 0) :: (t, .cells c.cells false 0) :: F) a5.sow (o5.to fun x => by simp only [cnt_append, cnt_cons]; omega) (by omega) (by omega) hW hne
    refine ⟨h6, L6, ?_, d6, o6.to fun x => by simp only [cnt_append, cnt_cons]; omega⟩
    simp only [f_home_Save, hco, cf_cell, hcv, iz_cell, cond_true, bnd_eq, hh1, ht2, hh2, nwA_eq, ht, l5, e3, Option.bind_some, decide_true, Bool.not_true, cond_false, l4, e5, w6, e6]
  · rw [svW, if_neg hz]
    have hd0 : decide (hasE c ds.length z = 0) = false := decide_eq_false hz
    refine ⟨h3, Lx, ?_, hd, o3.to fun x => by simp only [cnt_append, cnt_cons]; omega⟩
    simp only [f_home_Save, hco, cf_cell, hcv, iz_cell, cond_true, bnd_eq, hh1, hh2, nwA_eq, ht, l5, e3, Option.bind_some, hd0, Bool.not_false]
theorem tmp32 {b e : Nat} {w : List Int} {xs : List Value} (ho : Own h ((b, .cells xs false e) :: F)) (hx : xs.length = 32) (hw : w.length = 32) : ∃ h', stB 32 (.agg ⟨iz .u8 w⟩) h (some ⟨b, 0, none⟩) = some h' ∧ Own h' ((b, .cells (iz .u8 w) false e) :: F) ∧ ldA 32 h' (some ⟨b, 0, none⟩) = some (iz .u8 w) := by
  have h1 := stBA_of (sp := none) (o := 0) (sz := 32) (vs := iz .u8 w) ho.head (by simp; omega) iz_cell (by omega)
  have e1 : writeAt xs 0 (iz .u8 w) = iz .u8 w := by
    rw [writeAt_eq _ _ _ (by simp; omega)]
    rw [List.drop_of_length_le (by simp; omega)]; simp
  rw [e1] at h1
  have o1 := ho.put (.cells (iz .u8 w) false e)
  refine ⟨_, h1, o1, ?_⟩
  rw [ldA_of o1.head (by simp; omega), List.drop_zero, List.take_of_length_le (by simp; omega)]
theorem load_home (hd : Dk p ds ws Lx) (hN : ds.length ≤ 4096) (hcw : c.wf) (hB : Byts ds ws) (hm0 : tabO ∈ F) (ho : Own h (Lx ++ F)) (hW : ws.length ≤ 1000) (hn : 2000 ≤ n) :
    ∃ h', f_home_Load n (some ⟨p, 0, none⟩) (.agg ⟨c.cells⟩) z h = some ((.agg ⟨iz .u8 (ldV c ds ws z)⟩, (ldE c ds ws z, ())), h') ∧ Own h' (Lx ++ F) := by
  have o1 := ho.new (.cells c.cells false 0)
  generalize ht : h.next = t at o1
  generalize hh1 : h.new (.cells c.cells false 0) = h1 at o1
  have o2 := o1.new (.cells z32' false 0)
  generalize ht2 : h1.next = t2 at o2
  generalize hh2 : h1.new (.cells z32' false 0) = h2 at o2
  obtain ⟨_, _, _, _, _, l5⟩ := Cf.ld' (c := c) (o2.get (t, .cells c.cells false 0) (by simp))
  obtain ⟨h3, e3, o3⟩ := hhas_ok (n := n) (z := z) (c := c) hd hN hcw (h := h2) (F := (t2, .cells z32' false 0) :: (t, .cells c.cells false 0) :: F) (o2.to fun x => by simp only [cnt_append, cnt_cons]; omega)
  have hco : cellsOf (.agg ⟨c.cells⟩) = c.cells := rfl
  have hzz : List.replicate 32 (Value.int .u8 0) = z32' := rfl
  by_cases hz : hasE c ds.length z = 0
  · obtain ⟨hf, hz0, hzb⟩ := has_b hcw hz
    obtain ⟨_, hnn, hbb, hlb⟩ := fit_b hcw hf
    rw [hz] at e3
    rw [ldV, ldE, if_pos hz, if_pos hz]
    have w6 : IntKind.i64.wrap (1 + z) = (((1 + z).toNat : Nat) : Int) := by rw [wrap_i64 (by omega) (by omega)]; omega
    have hlt : (1 + z).toNat < ds.length := by omega
    obtain ⟨s7, h7, A7, e7, a7, o7⟩ := read_any (n := n) hd (i := (1 + z).toNat) (h := h3) o3 hlt hW hn
    have hsec : rdv ws (((1 + z).toNat : Nat) : Int) ds[(1 + z).toNat] = sec ds ws z := by
      rw [sec, List.getD_eq_getElem?_getD, List.getElem?_eq_getElem hlt]
      congr 1; omega
    rw [hsec] at a7
    have hsl := sec_len hd.okd (z := z) hlt
    have hsb := sec_byt hB (z := z)
    generalize sec ds ws z = R at a7 hsl hsb
    obtain ⟨h8, e8, o8⟩ := decode_ok (n := n) (k := z) (B := R) (s := s7) (G := A7) hz0 (by omega) hsb (by rw [hsl]; exact a7.sow) (by rw [hsl]; exact a7.cap) (h := h7) (F := Lx ++ ((t2, .cells z32' false 0) :: (t, .cells c.cells false 0) :: F)) (List.mem_append_right _ (List.mem_append_right _ (List.mem_cons_of_mem _ (List.mem_cons_of_mem _ hm0)))) o7 hn
    have o8' : Own h8 ((t2, .cells z32' false 0) :: (Lx ++ F)) := o8.to fun x => by simp only [cnt_append, cnt_cons]; omega
    obtain ⟨h9, s9, o9, l9⟩ := tmp32 (w := decV z R) o8' (by decide) decV_len
    refine ⟨h9, ?_, o9.tail⟩
    simp only [f_home_Load, hco, cf_cell, cond_true, bnd_eq, hh1, hzz, ht2, hh2, nwA_eq, ht, l5, e3, Option.bind_some, decide_true, Bool.not_true, cond_false, w6, e7, e8, s9, l9]
  · rw [ldV, ldE, if_neg hz, if_neg hz]
    have hd0 : decide (hasE c ds.length z = 0) = false := decide_eq_false hz
    have f0 : fillL z32' [] = some (iz .u8 (List.replicate 32 0)) := rfl
    have o3' : Own h3 ((t2, .cells z32' false 0) :: (Lx ++ F)) := o3.to fun x => by simp only [cnt_append, cnt_cons]; omega
    obtain ⟨h9, s9, o9, l9⟩ := tmp32 (w := List.replicate 32 0) o3' (by decide) (by simp)
    refine ⟨h9, ?_, o9.tail⟩
    simp only [f_home_Load, hco, cf_cell, cond_true, bnd_eq, hh1, hzz, ht2, hh2, nwA_eq, ht, l5, e3, Option.bind_some, hd0, Bool.not_false, f0, s9, l9]
end
end Go.Proofs.YtjdbmfhjccaggaaDoor
/- All, of any configuration. -/
namespace Go.Proofs.YtjdbmfhjccaggaaDoor
open Go
set_option linter.unusedVariables false
set_option linter.unusedSimpArgs false
section
variable {n m k p i : Nat} {s u : Value} {L X V v : List Int} {h : Heap} {F G A Lx : Ch} {c : Cf} {z : Int} {cs : List Value} {ds vals : List (List Int)} {ws : List (Int × List Int)}
def vls (c : Cf) (ds : List (List Int)) (ws : List (Int × List Int)) (j : Nat) : List (List Int) := (List.range j).map fun (i : Nat) => ldV c ds ws (i : Int)
theorem vls_len {j : Nat} : (vls c ds ws j).length = j := by simp [vls]
theorem vls_snoc {j : Nat} : vls c ds ws (j + 1) = vls c ds ws j ++ [ldV c ds ws (j : Int)] := by simp [vls, List.range_succ]
theorem fsE_ne {j k : Nat} (hj : fsE c ds ws j ≠ 0) (hk : j ≤ k) : fsE c ds ws k = fsE c ds ws j := by
  induction k with
  | zero => have : j = 0 := by omega
            subst this; rfl
  | succ k ih =>
    by_cases e : j = k + 1
    · subst e; rfl
    · have := ih (by omega)
      rw [fsE, this, if_neg hj]
theorem fill32 {w : List Int} (hw : w.length = 32) : fillL z32' [(0, 32, .agg ⟨iz .u8 w⟩)] = some (iz .u8 w) := by
  have h1 : cellsOf (.agg ⟨iz .u8 w⟩) = iz .u8 w := rfl
  have hl : (iz .u8 w).length = 32 := by simp; omega
  simp only [fillL, h1, iz_cell]
  rw [hl]
  have h3 : writeAt z32' 0 (iz .u8 w) = iz .u8 w := by rw [writeAt_eq _ _ _ (by rw [hl]; decide)]; rw [List.drop_of_length_le (by rw [hl]; decide)]; simp
  rw [h3]; rfl
theorem all_home (hd : Dk p ds ws Lx) (hN : ds.length ≤ 4096) (hcw : c.wf) (hB : Byts ds ws) (hm0 : tabO ∈ F) (ho : Own h (Lx ++ F)) (hW : ws.length ≤ 1000) (hn : 2000 ≤ n) :
    ∃ s h' A, f_home_All n (some ⟨p, 0, none⟩) (.agg ⟨c.cells⟩) h = some ((s, (alE c ds ws, ())), h') ∧ Slc 32 s (alV c ds ws).length ((alV c ds ws).flatMap (iz .u8)) A ∧ Own h' (A ++ (Lx ++ F)) := by
  have o1 := ho.new (.cells c.cells false 0)
  generalize ht : h.next = t at o1
  generalize hh1 : h.new (.cells c.cells false 0) = h1 at o1
  obtain ⟨_, _, _, _, _, l5⟩ := Cf.ld' (c := c) o1.head
  obtain ⟨h2, e2, o2⟩ := fits_ok (n := n) (c := c) hd hN hcw (h := h1) (F := (t, .cells c.cells false 0) :: F) (o1.to fun x => by simp only [cnt_append, cnt_cons]; omega)
  obtain ⟨l0, _⟩ := Cf.ld' (c := c) (o2.get (t, .cells c.cells false 0) (by simp))
  have hco : cellsOf (.agg ⟨c.cells⟩) = c.cells := rfl
  by_cases hf : fitE c ds.length = 0
  · obtain ⟨_, hnn, hbb, hlb⟩ := fit_b hcw hf
    obtain ⟨nb, hnb⟩ : ∃ x : Nat, c.b = x := ⟨c.b.toNat, by omega⟩
    have htn : c.b.toNat = nb := by omega
    rw [hf] at e2
    obtain ⟨r, e, q⟩ := loopT_up (f := fun a => f_home_All_L16 n h (some ⟨p, 0, none⟩) c.b a.1.1 a.1.2.1 a.2)
      (fun j (a : (Value × Int × Unit) × Heap) => a.1.2.1 = (j : Int) ∧ fsE c ds ws j = 0 ∧ ∃ A, Slc 32 a.1.1 j ((vls c ds ws j).flatMap (iz .u8)) A ∧ Own a.2 (A ++ (Lx ++ ((t, .cells c.cells false 0) :: F))))
      (fun r => (fsE c ds ws nb = 0 ∧ ∃ s' h' A, r = .inl ((s', ()), h') ∧ Slc 32 s' nb ((vls c ds ws nb).flatMap (iz .u8)) A ∧ Own h' (A ++ (Lx ++ ((t, .cells c.cells false 0) :: F)))) ∨
        (fsE c ds ws nb ≠ 0 ∧ ∃ h', r = .inr ((.slice none 0 0, (fsE c ds ws nb, ())), h') ∧ Own h' (Lx ++ ((t, .cells c.cells false 0) :: F)))) (N := nb) (k := n) (j := 0) (a := ((.slice none 0 0, (0, ())), h2)) (by omega) (by omega)
      ⟨rfl, rfl, [], .nil, o2⟩
      (fun j a hj hi => by
        obtain ⟨⟨v0, i0, _⟩, hq⟩ := a
        obtain ⟨e0, i0', A, i1, i2⟩ := hi
        have e0 : i0 = (j : Int) := e0
        subst e0
        have i1 : Slc 32 v0 j _ A := i1
        have i2 : Own hq _ := i2
        have hlt : (j : Int) < c.b := by omega
        obtain ⟨_, _, _, _, _, l8⟩ := Cf.ld' (c := c) (i2.get (t, .cells c.cells false 0) (by simp))
        obtain ⟨h9, e9, o9⟩ := load_home (n := n) (z := (j : Int)) (c := c) hd hN hcw hB (h := hq) (F := A ++ ((t, .cells c.cells false 0) :: F)) (List.mem_append_right _ (List.mem_cons_of_mem _ hm0)) (i2.to fun x => by simp only [cnt_append, cnt_cons]; omega) hW hn
        have hvl := ldV_len (c := c) (ds := ds) (ws := ws) (z := (j : Int))
        have hfs : fsE c ds ws (j + 1) = ldE c ds ws (j : Int) := by rw [fsE, if_pos i0']
        obtain ⟨h10, e10, o10⟩ := arr_tmp o9 hvl
        generalize hb10 : h9.next = t10 at e10 o10
        generalize hh10 : h9.new (.cells z32' false 0) = h10' at e10
        have hz : List.replicate 32 (Value.int .u8 0) = z32' := rfl
        by_cases he : ldE c ds ws (j : Int) = 0
        · have l12 := arr_ld o10.head hvl
          obtain ⟨s14, h14, A14, e14, a14, o14⟩ := i1.push (new := iz .u8 (ldV c ds ws (j : Int))) (h := h10) (F := (t10, .cells (iz .u8 (ldV c ds ws (j : Int))) false 0) :: (Lx ++ ((t, .cells c.cells false 0) :: F))) (o10.to fun x => by simp only [cnt_append, cnt_cons]; omega) (by decide) (by simp; omega) (bytes := 32) (by omega)
          rw [he] at e9
          refine .inl ⟨((s14, (((j + 1 : Nat) : Int), ())), h14), ?_, rfl, by rw [hfs, he], A14, ?_, o14.to fun x => by simp only [cnt_append, cnt_cons]; omega⟩
          · simp only [f_home_All_L16, hlt, decide_true, cond_true, nwA_eq, ht, l8, Option.bind_some, e9, bnd_eq, hz, hb10, hh10, e10, Bool.not_true, cond_false, l12, fill32 hvl, e14, wrap_succ (show j < 4611686018427387904 by omega)]
          · rw [vls_snoc, List.flatMap_append]; simpa using a14
        · have hd0 : decide (ldE c ds ws (j : Int) = 0) = false := decide_eq_false he
          have hfn : fsE c ds ws nb = ldE c ds ws (j : Int) := by
            rw [fsE_ne (j := j + 1) (by rw [hfs]; exact he) (by omega), hfs]
          refine .inr ⟨.inr ((.slice none 0 0, (ldE c ds ws (j : Int), ())), h10), ?_, .inr ⟨by rw [hfn]; exact he, h10, by rw [hfn], o10.to fun x => by simp only [cnt_append, cnt_cons]; omega⟩⟩
          simp only [f_home_All_L16, hlt, decide_true, cond_true, nwA_eq, ht, l8, Option.bind_some, e9, bnd_eq, hz, hb10, hh10, e10, hd0, Bool.not_false])
      (fun a hi => by
        obtain ⟨⟨v0, i0, _⟩, hq⟩ := a
        obtain ⟨e0, i0', A, i1, i2⟩ := hi
        have e0 : i0 = (nb : Int) := e0
        subst e0
        have hlt : ¬ (nb : Int) < c.b := by omega
        exact ⟨.inl ((v0, ()), hq), by simp only [f_home_All_L16, hlt, decide_false, cond_false], .inl ⟨i0', v0, hq, A, rfl, i1, i2⟩⟩)
    have e' : f_home_All_C17 n h (some ⟨p, 0, none⟩) h2 = some r := by
      simp only [f_home_All_C17, nwA_eq, ht, fa_mk, Nat.zero_add, l0, Option.bind_some]
      exact e
    rcases q with ⟨hE, s', h', A, rfl, a3, o3⟩ | ⟨hE, h', rfl, o3⟩
    · have hal : alE c ds ws = 0 := by rw [alE, if_pos hf, htn, hE]
      have hav : alV c ds ws = vls c ds ws nb := by rw [alV, if_pos hal, htn]; rfl
      rw [hal, hav, vls_len]
      refine ⟨s', h', A, ?_, a3, o3.to fun x => by simp only [cnt_append, cnt_cons]; omega⟩
      simp only [f_home_All, hco, cf_cell, cond_true, bnd_eq, hh1, nwA_eq, ht, l5, e2, Option.bind_some, decide_true, Bool.not_true, cond_false, e', thenB_inl, a3.notT, Bool.not_false]
    · have hal : alE c ds ws = fsE c ds ws nb := by rw [alE, if_pos hf, htn]
      have hav : alV c ds ws = [] := by rw [alV, if_neg (by rw [hal]; exact hE)]
      rw [hal, hav]
      refine ⟨.slice none 0 0, h', [], ?_, .nil, o3.to fun x => by simp only [cnt_append, cnt_cons, cnt_nil]; omega⟩
      simp only [f_home_All, hco, cf_cell, cond_true, bnd_eq, hh1, nwA_eq, ht, l5, e2, Option.bind_some, decide_true, Bool.not_true, cond_false, e', thenB_inr]
  · have hal : alE c ds ws = fitE c ds.length := by rw [alE, if_neg hf]
    have hav : alV c ds ws = [] := by rw [alV, if_neg (by rw [hal]; exact hf)]
    have hd0 : decide (fitE c ds.length = 0) = false := decide_eq_false hf
    rw [hal, hav]
    refine ⟨.slice none 0 0, h2, [], ?_, .nil, o2.to fun x => by simp only [cnt_append, cnt_cons, cnt_nil]; omega⟩
    simp only [f_home_All, hco, cf_cell, cond_true, bnd_eq, hh1, nwA_eq, ht, l5, e2, Option.bind_some, hd0, Bool.not_false]
end
end Go.Proofs.YtjdbmfhjccaggaaDoor
/- Lists of values that share no memory. -/
namespace Go.Proofs.YtjdbmfhjccaggaaDoor
open Go
set_option linter.unusedVariables false
set_option linter.unusedSimpArgs false
theorem Dn.vs {es j : Nat} {mk : Nat → List Value} {xs ds : List Ax} (hd : Dn es mk xs ds j) (hj : j = xs.length) : ds.map Ax.v = xs.map Ax.v := by
  subst hj
  refine List.ext_getElem (by simp [hd.len]) fun i h1 h2 => ?_
  rw [List.getElem_map, List.getElem_map]
  exact (hd.d i (by simpa using h1) (by simpa using h2)).1
def mk08v (i : Nat) : List Int := IntKind.u8.wrap (IntKind.i64.wrap ((i : Int) + 1)) :: List.replicate 31 0
def gr08v (i : Nat) : List Int := IntKind.u8.wrap (IntKind.i64.wrap ((i : Int) + 1)) :: 1 :: List.replicate 30 0
def mk08 (i : Nat) : List Value := iz .u8 (mk08v i)
def gr08 (i : Nat) : List Value := iz .u8 (gr08v i)
theorem mk08_len {i : Nat} : (mk08 i).length = 32 := rfl
theorem gr08_len {i : Nat} : (gr08 i).length = 32 := rfl
theorem mk08_cell {i : Nat} : (cellsOf (.agg ⟨mk08 i⟩)).all isCell = true := iz_cell
theorem mk08_same {i : Nat} : Go.Proofs.YtjdbmfhjccaggaaDoor.sameL (mk08 i) (mk08 i) = true := sameL_int
theorem gr08_same {i : Nat} : Go.Proofs.YtjdbmfhjccaggaaDoor.sameL (gr08 i) (gr08 i) = true := sameL_int
theorem mk08_fill {i : Nat} : fillL (List.replicate 32 (.int .u8 0)) [(0, 1, .int .u8 (IntKind.u8.wrap (IntKind.i64.wrap ((i : Int) + 1))))] = some (mk08 i) := rfl
theorem gr08_fill {i : Nat} : fillL (List.replicate 32 (.int .u8 0)) [(0, 1, .int .u8 (IntKind.u8.wrap (IntKind.i64.wrap ((i : Int) + 1)))), (1, 1, .int .u8 1)] = some (gr08 i) := rfl
theorem gr08_fill2 {i : Nat} : fillL (List.replicate 32 (.int .u8 0)) [(0, 32, .agg ⟨gr08 i⟩)] = some (gr08 i) := fill32 (w := gr08v i) rfl
theorem mk08_eq {i : Nat} {h : Heap} : eqVals h (.agg (List.replicate 32 false)) (.agg ⟨mk08 i⟩) (.agg ⟨mk08 i⟩) = some true := by
  have := eq_ok (h := h) (A := mk08v i) (B := mk08v i) (m := 32) rfl rfl
  rwa [decide_eq_true rfl] at this
theorem gr08_eq {i : Nat} {h : Heap} : eqVals h (.agg (List.replicate 32 false)) (.agg ⟨gr08 i⟩) (.agg ⟨gr08 i⟩) = some true := by
  have := eq_ok (h := h) (A := gr08v i) (B := gr08v i) (m := 32) rfl rfl
  rwa [decide_eq_true rfl] at this
section
variable {n B : Nat} {u : Value} {U F : Ch} {h : Heap} {xs : List Ax}
theorem apart8_ok (hu : Slc 1 u xs.length (xs.map Ax.v) U) (hx : ∀ x ∈ xs, Slc 32 x.v x.m x.cs x.A ∧ x.m ≤ B) (ho : Own h (U ++ (xs.flatMap Ax.A ++ F))) (hB : (B + 70) * 32 ≤ 140737488355328) (hN : xs.length ≤ 100000000000) (hn : B + 100 ≤ n) (hn2 : xs.length + 100 ≤ n) :
    ∃ h', f_w8_apart n u h = some ((true, ()), h') ∧ Own h' (U ++ F) := by
  have o0 : Own (clrH h) (U ++ (xs.flatMap Ax.A ++ F)) := ⟨ho.get, ho.nodup, ho.lt⟩
  have hul := hu.lenB
  obtain ⟨h1, ds, e1, d1, o1, s1⟩ := marks_gen (n := n) (es := 32) (r := ()) (r2 := ()) (fin := fun i a => f_w8_apart_L14 n u (i : Int) a.1.1 a.2) (f := fun a => f_w8_apart_L16 n u a.1.1 a.2) (V := fun i => .agg ⟨mk08 i⟩) (B := B)
    hu hx o0 rfl (fun i => mk08_len) (fun i => mk08_cell)
    (fun i v m k h1 h2 q q' hi hl hk g1 g2 g3 g4 => by
      have hlt : (k : Int) < (m : Int) := by omega
      simp only [f_w8_apart_L14, g1, g2, hl, Option.bind_some, hlt, decide_true, cond_true, mk08_fill, g3, g4])
    (fun i v m h1 q hi hl g1 g2 => by
      have hlt : ¬ (m : Int) < (m : Int) := by omega
      simp only [f_w8_apart_L14, g1, g2, hl, Option.bind_some, hlt, decide_false, cond_false])
    (fun i h1 h2 hi e => by
      have hlt : (i : Int) < (xs.length : Int) := by omega
      simp only [f_w8_apart_L16, hul, Option.bind_some, hlt, decide_true, cond_true]
      rw [e]; rfl)
    (fun h1 => by
      have hlt : ¬ (xs.length : Int) < (xs.length : Int) := by omega
      simp only [f_w8_apart_L16, hul, Option.bind_some, hlt, decide_false, cond_false])
    (by omega) (by omega) (by omega) (by omega)
  have hdl : ds.length = xs.length := d1.len
  have hvs := d1.vs rfl
  rw [← hvs, ← hdl] at hu
  rw [← hdl] at hN hn2 hul
  have hds : ∀ (i : Nat) (h1 : i < ds.length), Slc 32 ds[i].v ds[i].m (cw (mk08 i) (gr08 i) ds[i].m 0) ds[i].A ∧ ds[i].m ≤ B := by
    intro i h1
    obtain ⟨a1, a2, a3, a4⟩ := d1.d i h1 (by omega)
    refine ⟨?_, by rw [a2]; exact (hx _ (List.getElem_mem _)).2⟩
    rw [a3] at a4
    rw [cw_zero]; exact a4
  have hd1 : ShD h1 := fun e he => by rw [s1] at he; cases he
  obtain ⟨lg, h2, Lg, gs, e2, l2, g2, o2, d2⟩ := grows_gen (n := n) (es := 32) (M := 70) (B := B) (bytes := 32) (mk := mk08) (gr := gr08) (fin := fun i a => f_w8_apart_L36 n (i : Int) a.1.1 a.1.2.1 a.1.2.2.1 a.2) (f := fun a => f_w8_apart_L42 n u a.1.1 a.1.2.1 a.2)
    hu hds o1 hd1 (by decide) (fun i => mk08_len) (fun i => gr08_len) (fun c hc => Nat.le_trans (Nat.mul_le_mul_right 32 hc) hB) hN (by decide) (by decide) (by omega) (by omega)
    (fun i k lg x x' lg' h h1 h2 hk g1 c1 c2 g2 => by
      have hlt : (k : Int) < 70 := by omega
      have hl2 : (k : Int) < 16 := by omega
      have f2 := fill1 (d := .slice none 0 0) c1 c2
      simp only [f_w8_apart_L36, hlt, hl2, decide_true, cond_true, gr08_fill, gr08_fill2, Option.bind_some, bnd_eq, g1, f2, g2])
    (fun i k lg x x' h h1 hk hk2 g1 => by
      have hlt : (k : Int) < 70 := by omega
      have hl2 : ¬ (k : Int) < 16 := by omega
      simp only [f_w8_apart_L36, hlt, hl2, decide_true, decide_false, cond_true, cond_false, gr08_fill, gr08_fill2, Option.bind_some, bnd_eq, g1])
    (fun i lg x h => rfl)
    (fun i lg v lg1 x1 lg2 h h1 h2 q hi g1 g2 g3 c1 c2 g4 => by
      have hlt : (i : Int) < (ds.length : Int) := by omega
      have f2 := fill1 (d := .slice none 0 0) c1 c2
      simp only [f_w8_apart_L42, hul, Option.bind_some, hlt, decide_true, cond_true, g1, g2]
      rw [g3]
      simp only [Option.bind_some, f2, bnd_eq, g4])
    (fun lg h => by
      have hlt : ¬ (ds.length : Int) < (ds.length : Int) := by omega
      simp only [f_w8_apart_L42, hul, Option.bind_some, hlt, decide_false, cond_false])
  -- looked at
  have oU : Own h2 (U ++ (Lg ++ (gs.flatMap Gp.G ++ F))) := o2.to fun z => by simp only [cnt_append]; omega
  have inner : ∀ (i : Nat) (hi : i < ds.length), f_w8_apart_C82 n u ((lg, ()), h2) (i : Int) h2 = some (.inl ((), h2)) := by
    intro i hi
    have hgi : i < gs.length := by rw [g2.len]; exact hi
    have hy := List.getElem?_eq_getElem hgi
    have hxx := List.getElem?_eq_getElem hi
    have hvi : (ds.map Ax.v)[i]? = some ds[i].v := by rw [List.getElem?_map, hxx]; rfl
    obtain ⟨q, r1, r2⟩ := sl_at hu oU d2 hvi
    have hm := (hds i hi).2
    have hlv := (hds i hi).1.lenB
    have oG : Own h2 (gs[i].G ++ []) := o2.to fun z => by
      have : cnt z gs[i].G ≤ cnt z (gs.flatMap Gp.G) := cnt_sublist (List.sublist_flatten_of_mem (L := gs.map Gp.G) (List.mem_map_of_mem (List.getElem_mem hgi)))
      simp only [cnt_append, cnt_nil]; omega
    have k1 : f_w8_apart_C61 n u (i : Int) h2 = some (.inl ((), h2)) := by
      refine look1 (f := fun a => f_w8_apart_L60 n u (i : Int) a.1.1 a.2) (g2.k i _ _ hy hxx) rfl oG mk08_len mk08_same gr08_same (fun k q' hk e1 e2 => ?_) ?_ (by omega) (by omega)
      · have hlt : (k : Int) < (ds[i].m : Int) := by omega
        simp only [f_w8_apart_L60, r1, r2, hlv, Option.bind_some, hlt, decide_true, cond_true, e1, e2, mk08_fill, mk08_eq, Bool.not_true, cond_false]
      · have hlt : ¬ (ds[i].m : Int) < (ds[i].m : Int) := by omega
        simp only [f_w8_apart_L60, r1, r2, hlv, Option.bind_some, hlt, decide_false, cond_false]
    have k2 : ∀ (g : Nat), g < 17 → f_w8_apart_C79 n u ((lg, ()), h2) (i : Int) (g : Int) h2 = some (.inl ((), h2)) := by
      intro g hg
      have hv17 := g2.vs i _ hy
      have hw : gs[i].vs[g]? = some (gs[i].vs[g]'(by omega)) := List.getElem?_eq_getElem (by omega)
      have hat := (flat17_at g2.vs hy hg).trans hw
      generalize gs[i].vs[g]'(by omega) = w at hw hat
      obtain ⟨q3, t1, t2⟩ := sl_at l2 (F := gs.flatMap Gp.G ++ (U ++ F)) (h := h2) o2 d2 hat
      have hkp := g2.g i _ _ hy hxx g w hw
      have hlw := hkp.lenB
      have hcc : cc 70 g ≤ 70 := by unfold cc; split <;> omega
      have w1 : IntKind.i64.wrap (IntKind.i64.wrap (17 * (i : Int)) + (g : Int)) = ((17 * i + g : Nat) : Int) := by
        have w0 : IntKind.i64.wrap (17 * (i : Int)) = 17 * (i : Int) := wrap_i64 (by omega) (by omega)
        rw [w0, wrap_i64 (by omega) (by omega)]; omega
      simp only [f_w8_apart_C79, w1, t1, t2, r1, r2, hlv, Option.bind_some]
      refine look2 (f := fun a => f_w8_apart_L78 n (i : Int) w a.1.1 a.2) hkp oG mk08_len gr08_len mk08_same gr08_same (fun k q' hk e1 e2 => ?_) ?_ (by omega) (by omega)
      · have hlt : (k : Int) < ((ds[i].m + cc 70 g : Nat) : Int) := by omega
        simp only [f_w8_apart_L78, hlw, Option.bind_some, hlt, decide_true, cond_true, e1, e2, gr08_fill, gr08_eq, Bool.not_true, cond_false]
      · have hlt : ¬ ((ds[i].m + cc 70 g : Nat) : Int) < ((ds[i].m + cc 70 g : Nat) : Int) := by omega
        simp only [f_w8_apart_L78, hlw, Option.bind_some, hlt, decide_false, cond_false]
    have k3 : loopT (fun a => f_w8_apart_L81 n u ((lg, ()), h2) (i : Int) a.1.1 a.2) n (((0 : Int), ()), h2) = some (.inl ((), h2)) := by
      obtain ⟨x, e, q⟩ := loopT_up (f := fun a => f_w8_apart_L81 n u ((lg, ()), h2) (i : Int) a.1.1 a.2) (fun k (a : (Int × Unit) × Heap) => a = (((k : Int), ()), h2)) (fun x => x = .inl ((), h2)) (N := 17) (k := n) (j := 0) (a := ((0, ()), h2)) (by omega) (by omega) rfl
        (fun k a hk hi => by
          subst hi
          have hlt : (k : Int) < 17 := by omega
          exact .inl ⟨_, by simp only [f_w8_apart_L81, hlt, decide_true, cond_true, k2 k hk, thenB_inl, wrap_succ (show k < 4611686018427387904 by omega)], rfl⟩)
        (fun a hi => by subst hi; exact ⟨_, rfl, rfl⟩)
      rw [e, q]
    simp only [f_w8_apart_C82, k1, thenB_inl, k3]
  refine ⟨h2, ?_, o2.to fun z => by simp only [cnt_append]; omega⟩
  have e3 : loopT (fun a => f_w8_apart_L84 n u ((lg, ()), h2) a.1.1 a.2) n (((0 : Int), ()), h2) = some ((true, ()), h2) := by
    obtain ⟨x, e, q⟩ := loopT_up (f := fun a => f_w8_apart_L84 n u ((lg, ()), h2) a.1.1 a.2) (fun k (a : (Int × Unit) × Heap) => a = (((k : Int), ()), h2)) (fun x => x = ((true, ()), h2)) (N := ds.length) (k := n) (j := 0) (a := ((0, ()), h2)) (by omega) (by omega) rfl
      (fun k a hk hi => by
        subst hi
        have hlt : (k : Int) < (ds.length : Int) := by omega
        exact .inl ⟨_, by simp only [f_w8_apart_L84, hul, Option.bind_some, hlt, decide_true, cond_true, inner k hk, thenB_inl, wrap_succ (show k < 4611686018427387904 by omega)], rfl⟩)
      (fun a hi => by
        subst hi
        have hlt : ¬ (ds.length : Int) < (ds.length : Int) := by omega
        exact ⟨_, by simp only [f_w8_apart_L84, hul, Option.bind_some, hlt, decide_false, cond_false], rfl⟩)
    rw [e, q]
  have e1 : loopT (fun a => f_w8_apart_L16 n u a.1.1 a.2) n (((0 : Int), ()), clrH h) = some ((), h1) := e1
  simp only [f_w8_apart, bnd_eq, e1, Option.bind_some, e2, e3]
end
end Go.Proofs.YtjdbmfhjccaggaaDoor
/- HdI: put together from Hb1 Hb3w Hb4. -/
namespace Go.Proofs.YtjdbmfhjccaggaaDoor
open Go
set_option linter.unusedVariables false
set_option linter.unusedSimpArgs false
/- ==== from Hb1 -/
def stp (x : Nat) : Nat := if x % 2 = 1 then (x / 2) ^^^ 3988292384 else x / 2
theorem stp_xor {x y : Nat} : stp (x ^^^ y) = stp x ^^^ stp y := by
  have h1 : (x ^^^ y) % 2 = (x % 2) ^^^ (y % 2) := Nat.xor_mod_two_pow (n := 1)
  have h2 : (x ^^^ y) / 2 = (x / 2) ^^^ (y / 2) := Nat.xor_div_two_pow (n := 1)
  unfold stp
  rw [h1, h2]
  have hx : x % 2 = 0 ∨ x % 2 = 1 := by omega
  have hy : y % 2 = 0 ∨ y % 2 = 1 := by omega
  rcases hx with hx | hx <;> rcases hy with hy | hy <;> simp only [hx, hy]
  · rfl
  · show (x / 2 ^^^ y / 2) ^^^ 3988292384 = x / 2 ^^^ (y / 2 ^^^ 3988292384)
    rw [Nat.xor_assoc]
  · show (x / 2 ^^^ y / 2) ^^^ 3988292384 = (x / 2 ^^^ 3988292384) ^^^ (y / 2)
    rw [Nat.xor_assoc, Nat.xor_assoc, Nat.xor_comm (y / 2)]
  · show x / 2 ^^^ y / 2 = (x / 2 ^^^ 3988292384) ^^^ (y / 2 ^^^ 3988292384)
    rw [Nat.xor_assoc, ← Nat.xor_assoc 3988292384, Nat.xor_comm 3988292384, Nat.xor_assoc (y / 2), Nat.xor_self, Nat.xor_zero]
theorem low4 (x : Nat) : x = (x / 16 * 16) ^^^ (x % 16) := by
  have m : ((x / 16 * 16) ^^^ (x % 16)) % 16 = (x / 16 * 16) % 16 ^^^ (x % 16) % 16 := Nat.xor_mod_two_pow (n := 4)
  have d : ((x / 16 * 16) ^^^ (x % 16)) / 16 = (x / 16 * 16) / 16 ^^^ (x % 16) / 16 := Nat.xor_div_two_pow (n := 4)
  have e1 : x / 16 * 16 % 16 = 0 := by omega
  have e2 : x % 16 % 16 = x % 16 := by omega
  have e3 : x / 16 * 16 / 16 = x / 16 := by omega
  have e4 : x % 16 / 16 = 0 := by omega
  rw [e1, e2, Nat.zero_xor] at m
  rw [e3, e4, Nat.xor_zero] at d
  omega
theorem stp_hi {y : Nat} : stp (stp (stp (stp (y * 16)))) = y := by
  have e : ∀ z : Nat, stp (z * 2) = z := fun z => by
    unfold stp; rw [if_neg (by omega)]; omega
  rw [show y * 16 = y * 8 * 2 by omega, e, show y * 8 = y * 4 * 2 by omega, e, show y * 4 = y * 2 * 2 by omega, e, e]
theorem stp_lo {i : Nat} (hi : i < 16) : stp (stp (stp (stp i))) = tabN.getD i 0 := by
  have : ∀ i : Fin 16, stp (stp (stp (stp i.1))) = tabN.getD i.1 0 := by decide
  exact this ⟨i, hi⟩
theorem stp4 {x : Nat} : stp (stp (stp (stp x))) = hf x := by
  conv => lhs; rw [low4 x]
  rw [stp_xor, stp_xor, stp_xor, stp_xor, stp_hi, stp_lo (Nat.mod_lt _ (by decide)), hf, Nat.xor_comm]
theorem stp_lt {x : Nat} (hx : x < 4294967296) : stp x < 4294967296 := by
  unfold stp; split
  · exact Nat.xor_lt_two_pow (n := 32) (by omega) (by decide)
  · omega
def stps (x : Nat) : Nat → Nat
  | 0 => x
  | k + 1 => stp (stps x k)
theorem stps8 {x : Nat} : stps x 8 = hf (hf x) := by
  show stp (stp (stp (stp (stp (stp (stp (stp x))))))) = _
  rw [stp4, stp4]
theorem stps_lt {x : Nat} (hx : x < 4294967296) : ∀ {k : Nat}, stps x k < 4294967296 := by
  intro k
  induction k with
  | zero => exact hx
  | succ k ih => exact stp_lt ih
/- ==== from Hb3w -/
theorem Slc.appZ {es n : Nat} {s : Value} {cs zs : List Value} {A F : Ch} {h : Heap} (hs : Slc es s n cs A) (ho : Own h (A ++ F)) (hes : 1 ≤ es) {m : Nat} (hz : zs.length = es) (hm : m ≤ 140737488355328) {bytes : Nat} {kk : IntKind} (hb : (n + m) * bytes ≤ 140737488355328) :
    ∃ s' h' A', appendZK h bytes es zs s (.int kk (m : Int)) = some (s', h') ∧ Slc es s' (n + m) (cs ++ (List.replicate m zs).flatten) A' ∧ Own h' (A' ++ F) := by
  obtain ⟨a, c, s', h', A', rfl, e1, e2, e3⟩ := hs.appL (new := (List.replicate m zs).flatten) (m := m) ho hes (by rw [rep_len, hz]) hb
  refine ⟨s', h', A', ?_, e2, e3⟩
  show (bif Nat.ble m 140737488355328 then appendL h bytes es a n c m ((List.replicate m zs).flatten) else none) = _
  rw [Nat.ble_eq_true_of_le hm, cond_true, e1]
section
variable {n k : Nat} {s u : Value} {L B V : List Int} {h : Heap} {F G : Ch} {z : Int}
theorem le_snoc {j x : Nat} : le x (j + 1) = le x j ++ [((x / 256 ^ j % 256 : Nat) : Int)] := by
  apply List.ext_getElem?
  intro i
  by_cases hi : i < j
  · rw [le_get (by omega), List.getElem?_append_left (by rw [le_len]; exact hi), le_get hi]
  · by_cases hj : i = j
    · subst hj
      rw [le_get (by omega), List.getElem?_append_right (by rw [le_len]; exact Nat.le_refl _), le_len, Nat.sub_self]; rfl
    · rw [List.getElem?_eq_none (by rw [le_len]; omega), List.getElem?_eq_none (by rw [List.length_append, le_len]; simp; omega)]
theorem wrap_u64' {x : Nat} (hx : x < 4294967296) : IntKind.u64.wrap (x : Int) = (x : Int) := by
  have : (x : Int) % 18446744073709551616 = x := Int.emod_eq_of_lt (by omega) (by omega)
  simpa [IntKind.wrap, IntKind.signed, IntKind.bits] using this
theorem rnumberw_ok {x w : Nat} (hw : w ≤ 8) (hx : x < 4294967296) (ho : Own h F) (hn : 100 ≤ n) : ∃ s h' A, f_r8_number n (x : Int) (w : Int) h = some ((s, ()), h') ∧ Slc 1 s w (iz .u8 (le x w)) A ∧ Own h' (A ++ F) := by
  obtain ⟨⟨⟨s', _⟩, h'⟩, e, A, q1, q2⟩ := loopT_up (f := fun a => f_r8_number_L7 n (w : Int) a.1.1 a.1.2.1 a.1.2.2.1 a.2)
    (fun j (a : (Int × Value × Int × Unit) × Heap) => a.1.1 = ((x / 256 ^ j : Nat) : Int) ∧ a.1.2.2.1 = (j : Int) ∧ ∃ A, Slc 1 a.1.2.1 j (iz .u8 (le x j)) A ∧ Own a.2 (A ++ F))
    (fun r => ∃ A, Slc 1 r.1.1 w (iz .u8 (le x w)) A ∧ Own r.2 (A ++ F)) (N := w) (k := n) (j := 0) (a := (((x : Int), (.slice none 0 0, (0, ()))), h)) (by omega) (by omega)
    ⟨by simp, rfl, [], .nil, ho⟩
    (fun j a hj hi => by
      obtain ⟨⟨v0, v, i0, _⟩, h1⟩ := a
      obtain ⟨e0, e1, A, i1, i2⟩ := hi
      have e0 : v0 = ((x / 256 ^ j : Nat) : Int) := e0
      have e1 : i0 = (j : Int) := e1
      subst e0 e1
      have i1 : Slc 1 v j _ A := i1
      have i2 : Own h1 _ := i2
      have hlt : (j : Int) < (w : Int) := by omega
      obtain ⟨y, hy⟩ : ∃ y, y = x / 256 ^ j := ⟨_, rfl⟩
      have hyx : y ≤ x := by rw [hy]; exact Nat.div_le_self _ _
      have w1 : IntKind.u8.wrap (Int.tmod ((x / 256 ^ j : Nat) : Int) 256) = ((y % 256 : Nat) : Int) := by
        rw [← hy, show Int.tmod (y : Int) 256 = ((y % 256 : Nat) : Int) from rfl, wrap_u8, Nat.mod_mod]
      have w2 : IntKind.u64.wrap (Int.tdiv ((x / 256 ^ j : Nat) : Int) 256) = ((x / 256 ^ (j + 1) : Nat) : Int) := by
        rw [← hy, show Int.tdiv (y : Int) 256 = ((y / 256 : Nat) : Int) from rfl, wrap_u64' (by omega), hy, Nat.div_div_eq_div_mul, Nat.pow_succ]
      obtain ⟨v2, h2, A2, g1, g2, g3⟩ := i1.push (new := [.int .u8 ((y % 256 : Nat) : Int)]) i2 (by decide) rfl (bytes := 1) (by omega)
      have f1 : fillL [.int .u8 0] [(0, 1, .int .u8 ((y % 256 : Nat) : Int))] = some [.int .u8 ((y % 256 : Nat) : Int)] := rfl
      refine .inl ⟨((((x / 256 ^ (j + 1) : Nat) : Int), (v2, (((j + 1 : Nat) : Int), ()))), h2), ?_, rfl, rfl, A2, ?_, g3⟩
      · simp only [f_r8_number_L7, hlt, decide_true, cond_true, w1, f1, Option.bind_some, bnd_eq, g1, w2, wrap_succ (show j < 4611686018427387904 by omega)]
      · rw [le_snoc, ← hy]; simpa [iz] using g2)
    (fun a hi => by
      obtain ⟨⟨v0, v, i0, _⟩, h1⟩ := a
      obtain ⟨e0, e1, A, i1, i2⟩ := hi
      have e1 : i0 = (w : Int) := e1
      subst e1
      have i1 : Slc 1 v w _ A := i1
      exact ⟨((v, ()), h1), by simp only [f_r8_number_L7, show (decide ((w : Int) < (w : Int))) = false from decide_eq_false (by omega), cond_false, i1.notT, Bool.not_false, cond_true, Option.map_some], A, i1, i2⟩)
  exact ⟨s', h', A, e, q1, q2⟩
theorem rnumber_ok {x : Nat} (hx : x < 4294967296) (ho : Own h F) (hn : 100 ≤ n) : ∃ s h' A, f_r8_number n (x : Int) 4 h = some ((s, ()), h') ∧ Slc 1 s 4 (iz .u8 (le x 4)) A ∧ Own h' (A ++ F) := by
  obtain ⟨⟨⟨s', _⟩, h'⟩, e, A, q1, q2⟩ := loopT_up (f := fun a => f_r8_number_L7 n 4 a.1.1 a.1.2.1 a.1.2.2.1 a.2)
    (fun j (a : (Int × Value × Int × Unit) × Heap) => a.1.1 = ((x / 256 ^ j : Nat) : Int) ∧ a.1.2.2.1 = (j : Int) ∧ ∃ A, Slc 1 a.1.2.1 j (iz .u8 (le x j)) A ∧ Own a.2 (A ++ F))
    (fun r => ∃ A, Slc 1 r.1.1 4 (iz .u8 (le x 4)) A ∧ Own r.2 (A ++ F)) (N := 4) (k := n) (j := 0) (a := (((x : Int), (.slice none 0 0, (0, ()))), h)) (by omega) (by omega)
    ⟨by simp, rfl, [], .nil, ho⟩
    (fun j a hj hi => by
      obtain ⟨⟨v0, v, i0, _⟩, h1⟩ := a
      obtain ⟨e0, e1, A, i1, i2⟩ := hi
      have e0 : v0 = ((x / 256 ^ j : Nat) : Int) := e0
      have e1 : i0 = (j : Int) := e1
      subst e0 e1
      have i1 : Slc 1 v j _ A := i1
      have i2 : Own h1 _ := i2
      have hlt : (j : Int) < 4 := by omega
      obtain ⟨y, hy⟩ : ∃ y, y = x / 256 ^ j := ⟨_, rfl⟩
      have hyx : y ≤ x := by rw [hy]; exact Nat.div_le_self _ _
      have w1 : IntKind.u8.wrap (Int.tmod ((x / 256 ^ j : Nat) : Int) 256) = ((y % 256 : Nat) : Int) := by
        rw [← hy, show Int.tmod (y : Int) 256 = ((y % 256 : Nat) : Int) from rfl, wrap_u8, Nat.mod_mod]
      have w2 : IntKind.u64.wrap (Int.tdiv ((x / 256 ^ j : Nat) : Int) 256) = ((x / 256 ^ (j + 1) : Nat) : Int) := by
        rw [← hy, show Int.tdiv (y : Int) 256 = ((y / 256 : Nat) : Int) from rfl, wrap_u64' (by omega), hy, Nat.div_div_eq_div_mul, Nat.pow_succ]
      obtain ⟨v2, h2, A2, g1, g2, g3⟩ := i1.push (new := [.int .u8 ((y % 256 : Nat) : Int)]) i2 (by decide) rfl (bytes := 1) (by omega)
      have f1 : fillL [.int .u8 0] [(0, 1, .int .u8 ((y % 256 : Nat) : Int))] = some [.int .u8 ((y % 256 : Nat) : Int)] := rfl
      refine .inl ⟨((((x / 256 ^ (j + 1) : Nat) : Int), (v2, (((j + 1 : Nat) : Int), ()))), h2), ?_, rfl, rfl, A2, ?_, g3⟩
      · simp only [f_r8_number_L7, hlt, decide_true, cond_true, w1, f1, Option.bind_some, bnd_eq, g1, w2, wrap_succ (show j < 4611686018427387904 by omega)]
      · rw [le_snoc, ← hy]; simpa [iz] using g2)
    (fun a hi => by
      obtain ⟨⟨v0, v, i0, _⟩, h1⟩ := a
      obtain ⟨e0, e1, A, i1, i2⟩ := hi
      have e1 : i0 = ((4 : Nat) : Int) := e1
      subst e1
      have i1 : Slc 1 v 4 _ A := i1
      exact ⟨((v, ()), h1), by simp only [f_r8_number_L7, show (decide (((4 : Nat) : Int) < 4)) = false from rfl, cond_false, i1.notT, Bool.not_false, cond_true, Option.map_some], A, i1, i2⟩)
  exact ⟨s', h', A, e, q1, q2⟩
theorem rpush_ok {x c : Nat} (hx : x < 4294967296) (hc : c < 256) (hn : 100 ≤ n) : f_r2_Push n (x : Int) (c : Int) h = some ((((psh x c : Nat) : Int), ()), h) := by
  have w1 : IntKind.u32.wrap (c : Int) = (c : Int) := by
    have : (c : Int) % 4294967296 = c := Int.emod_eq_of_lt (by omega) (by omega)
    simpa [IntKind.wrap, IntKind.signed, IntKind.bits] using this
  have hl : x ^^^ c < 4294967296 := Nat.xor_lt_two_pow (n := 32) hx (by omega)
  obtain ⟨r, e, q⟩ := loopT_up (f := fun a => f_r2_Push_L6 n a.1.1 a.1.2.1 a.2)
    (fun j (a : (Int × Int × Unit) × Heap) => a = ((((stps (x ^^^ c) j : Nat) : Int), ((j : Int), ())), h)) (fun r => r = ((((stps (x ^^^ c) 8 : Nat) : Int), ()), h)) (N := 8) (k := n) (j := 0) (a := ((((x ^^^ c : Nat) : Int), (0, ())), h)) (by omega) (by omega) rfl
    (fun j a hj hi => by
      subst hi
      have hlt : (j : Int) < 8 := by omega
      have hyl := stps_lt hl (k := j)
      generalize hy : stps (x ^^^ c) j = y at hyl
      have hs : stps (x ^^^ c) (j + 1) = stp y := by rw [← hy]; rfl
      rw [hs]
      have t1 : Int.tmod (y : Int) 2 = ((y % 2 : Nat) : Int) := rfl
      have t2 : IntKind.u32.wrap (Int.tdiv (y : Int) 2) = ((y / 2 : Nat) : Int) := by
        rw [show Int.tdiv (y : Int) 2 = ((y / 2 : Nat) : Int) from rfl, wrap_u32 (by omega) (by omega)]
      by_cases ho : y % 2 = 1
      · have x1 := xor_b (a := y / 2) (b := 3988292384) (by omega) (by decide)
        have x1 : bitB .xor .u32 ((y / 2 : Nat) : Int) .u32 3988292384 = some (((y / 2) ^^^ 3988292384 : Nat) : Int) := x1
        have es : stp y = (y / 2) ^^^ 3988292384 := by rw [stp, if_pos ho]
        have hc : ((y % 2 : Nat) : Int) = 1 := by omega
        refine .inl ⟨((((stp y : Nat) : Int), (((j + 1 : Nat) : Int), ())), h), ?_, rfl⟩
        simp only [f_r2_Push_L6, hlt, decide_true, cond_true, t1, hc, t2, x1, Option.bind_some, es, wrap_succ (show j < 4611686018427387904 by omega)]
      · have es : stp y = y / 2 := by rw [stp, if_neg ho]
        have hc : ¬ ((y % 2 : Nat) : Int) = 1 := by omega
        refine .inl ⟨((((stp y : Nat) : Int), (((j + 1 : Nat) : Int), ())), h), ?_, rfl⟩
        simp only [f_r2_Push_L6, hlt, decide_true, cond_true, t1, hc, decide_false, cond_false, t2, Option.bind_some, es, wrap_succ (show j < 4611686018427387904 by omega)])
    (fun a hi => by subst hi; exact ⟨_, rfl, rfl⟩)
  rw [stps8] at q
  simp only [f_r2_Push, w1, xor_b hx (show c < 4294967296 by omega), Option.bind_some]
  exact e.trans (by rw [q]; rfl)
theorem rof_ok (hL : Byt L) (hr : Rds h 1 s L.length (iz .u8 L)) (hlen : L.length ≤ 1000) (hn : 2000 ≤ n) : f_r2_Of n s h = some ((((crc L : Nat) : Int), ()), h) := by
  obtain ⟨r, e, q⟩ := loopT_up (f := fun a => f_r2_Of_L7 n s a.1.1 a.1.2.1 a.2)
    (fun j (a : (Int × Int × Unit) × Heap) => a = ((((crcs (L.take j) 4294967295 : Nat) : Int), ((j : Int), ())), h)) (fun r => r = ((((crcs L 4294967295 : Nat) : Int), ()), h)) (N := L.length) (k := n) (j := 0) (a := (((4294967295 : Int), (0, ())), h)) (by omega) (by omega) rfl
    (fun j a hj hi => by
      subst hi
      have hlt : (j : Int) < (L.length : Int) := by omega
      obtain ⟨q, e1, e2⟩ := hr.int hj
      have hb := hL _ (List.getElem_mem hj)
      obtain ⟨c, hc⟩ : ∃ c : Nat, L[j] = (c : Int) := ⟨L[j].toNat, by omega⟩
      have hc2 : c < 256 := by omega
      have hx := crcs_lt (L := L.take j) (x := 4294967295) (fun z hz => hL z (List.mem_of_mem_take hz)) (by decide)
      have e3 := rpush_ok (n := n) (h := h) hx hc2 (by omega)
      have e4 : psh (crcs (L.take j) 4294967295) c = crcs (L.take (j + 1)) 4294967295 := by
        rw [take_snoc hj, crcs_append, hc]; simp [crcs]
      rw [e4] at e3
      rw [hc] at e2
      refine .inl ⟨((((crcs (L.take (j + 1)) 4294967295 : Nat) : Int), (((j + 1 : Nat) : Int), ())), h), ?_, rfl⟩
      simp only [f_r2_Of_L7, hr.lenB, Option.bind_some, hlt, decide_true, cond_true, e1, e2, e3, wrap_succ (show j < 4611686018427387904 by omega)])
    (fun a hi => by
      subst hi
      have hlt : ¬ (L.length : Int) < (L.length : Int) := by omega
      rw [List.take_length]
      exact ⟨_, by simp only [f_r2_Of_L7, hr.lenB, Option.bind_some, hlt, decide_false, cond_false], rfl⟩)
  have hx := crcs_lt (L := L) (x := 4294967295) hL (by decide)
  have x1 := xor_b (b := 4294967295) hx (by decide)
  have x1 : bitB .xor .u32 ((crcs L 4294967295 : Nat) : Int) .u32 4294967295 = some ((crcs L 4294967295 ^^^ 4294967295 : Nat) : Int) := x1
  simp only [f_r2_Of, e, q, Option.bind_some, x1, crc, Nat.xor_comm]
theorem rsummed_ok (hL : Byt L) (hs : Sow 1 s L.length (iz .u8 L) G) (ho : Own h (G ++ F)) (hlen : L.length ≤ 900) (hn : 2000 ≤ n) :
    ∃ s' h' A, f_r8_Summed n s h = some ((s', ()), h') ∧ Slc 1 s' (L.length + 4) (iz .u8 (L ++ le (crc L) 4)) A ∧ Own h' (A ++ (G ++ F)) := by
  have o1 := ho.new (.cells [] false 1)
  have hs0 : Slc 1 (.slice (some ⟨h.next, 0, some 0⟩) 0 0) 0 [] [(h.next, .cells ([] ++ ([] ++ [])) false 1)] := .mk rfl rfl rfl
  generalize hb : h.next = b at hs0 o1
  generalize hh1 : h.new (.cells [] false 1) = h1 at o1
  obtain ⟨s2, h2, A2, e2, a2, o2⟩ := hs.app hs0 (F := F) (h := h1) (o1.to fun x => by simp only [cnt_append, cnt_cons, cnt_nil, List.nil_append, List.append_nil]; omega) (by decide) (bytes := 1) (by omega)
  have a2 : Slc 1 s2 L.length (iz .u8 L) A2 := by simpa using a2
  have e3 := rof_ok (n := n) hL (hs.rds (h := h2) (F := A2 ++ F) (o2.to fun x => by simp only [cnt_append]; omega)) (by omega) hn
  have hcl := crc_lt hL
  obtain ⟨s4, h4, A4, e4, a4, o4⟩ := rnumber_ok (n := n) hcl (h := h2) o2 (by omega)
  obtain ⟨s5, h5, A5, e5, a5, o5⟩ := a4.sow.app a2 (h := h4) (F := G ++ F) (o4.to fun x => by simp only [cnt_append]; omega) (by decide) (bytes := 1) (by omega)
  refine ⟨s5, h5, A5, ?_, by simpa [iz] using a5, o5.to fun x => by simp only [cnt_append]; omega⟩
  simp only [f_r8_Summed, fill0, Option.bind_some, bnd_eq, hb, hh1, e2, e3, wrap_u64' hcl, e4, e5, a5.notT, Bool.not_false, cond_true]
theorem rencode_ok (h1 : 0 ≤ z) (h2 : z < 64) (hV : V.length = 32) (hb : Byt V) (ho : Own h F) (hn : 2000 ≤ n) :
    ∃ s h' A, f_r8_Encode n z (.agg ⟨iz .u8 V⟩) h = some ((s, (0, ())), h') ∧ Slc 1 s 64 (iz .u8 (enc z V)) A ∧ Own h' (A ++ F) := by
  have o1 := ho.new (.cells (iz .u8 V) false 0)
  generalize hb0 : h.next = b0 at o1
  generalize hh0 : h.new (.cells (iz .u8 V) false 0) = h0 at o1
  have o2 := o1.new (.cells (iz .u8 [72, 79, 77, 69]) false 1)
  generalize hb1 : h0.next = b1 at o2
  generalize hh1 : h0.new (.cells (iz .u8 [72, 79, 77, 69]) false 1) = ha at o2
  have mk : markSK ha (.slice (some ⟨b1, 0, some 0⟩) 4 4) = some (.slice (some ⟨b1, 0, some 0⟩) 4 4, ha.put b1 (.cells (iz .u8 [72, 79, 77, 69]) false 1)) := by
    simp only [markSK, o2.head]; rfl
  have o3 := o2.put (.cells (iz .u8 [72, 79, 77, 69]) false 1)
  generalize hhb : ha.put b1 (.cells (iz .u8 [72, 79, 77, 69]) false 1) = hbb at o3 mk
  have y1 : Slc 1 (.slice (some ⟨b1, 0, some 0⟩) 4 4) 4 (iz .u8 [72, 79, 77, 69]) [(b1, .cells ([] ++ (iz .u8 [72, 79, 77, 69] ++ [])) false 1)] := .mk rfl rfl rfl
  have wz : IntKind.u8.wrap z = z := by
    have : z % 256 = z := Int.emod_eq_of_lt h1 (by omega)
    simpa [IntKind.wrap, IntKind.signed, IntKind.bits] using this
  have o4 := o3.new (.cells (iz .u8 [1, z]) false 1)
  have y2 : Slc 1 (.slice (some ⟨hbb.next, 0, some 0⟩) 2 2) 2 (iz .u8 [1, z]) [(hbb.next, .cells ([] ++ (iz .u8 [1, z] ++ [])) false 1)] := .mk rfl rfl rfl
  generalize hb2 : hbb.next = b2 at o4 y2
  generalize hhc : hbb.new (.cells (iz .u8 [1, z]) false 1) = hc at o4
  obtain ⟨s5, h5, A5, e5, a5, o5⟩ := y2.sow.app y1 (h := hc) (F := (b0, .cells (iz .u8 V) false 0) :: F) (o4.to fun x => by simp only [cnt_append, cnt_cons, cnt_nil, List.nil_append, List.append_nil]; omega) (by decide) (bytes := 1) (by omega)
  obtain ⟨s6, h6, A6, e6, a6, o6⟩ := a5.appZ (m := 22) (zs := [.int .u8 0]) (kk := .i64) (bytes := 1) (h := h5) (F := (b0, .cells (iz .u8 V) false 0) :: F) (o5.to fun x => by simp only [cnt_append, cnt_cons, cnt_nil, List.nil_append, List.append_nil]; omega) (by decide) rfl (by omega) (by omega)
  have ar : ∀ H : Heap, sliceArrK H 32 1 none none (.pointer (some ⟨b0, 0, none⟩)) = some (.slice (some ⟨b0, 0, some 0⟩) 32 32, H) := fun H => rfl
  have sv : Sow 1 (.slice (some ⟨b0, 0, some 0⟩) 32 32) 32 (iz .u8 V) [(b0, .cells (iz .u8 V) false 0)] := by
    have := Sow.piece (b := b0) (off := 0) (sp := some 0) (n := 32) (c := 32) (cs := iz .u8 V) (ro := false) (e := 0) (by simp [iz, hV])
    rw [List.drop_zero, List.take_of_length_le (by simp [iz, hV])] at this
    exact this
  obtain ⟨s7, h7, A7, e7, a7, o7⟩ := sv.app a6 (h := h6) (F := F) (o6.to fun x => by simp only [cnt_append, cnt_cons, cnt_nil]; omega) (by decide) (bytes := 1) (by omega)
  have hH : iz .u8 [72, 79, 77, 69] ++ iz .u8 [1, z] ++ (List.replicate 22 [Value.int .u8 0]).flatten ++ iz .u8 V = iz .u8 (encH z V) := by
    simp [encH, iz]
  rw [hH] at a7
  have hel := encH_len (k := z) hV
  have a7 : Slc 1 s7 (encH z V).length (iz .u8 (encH z V)) A7 := by rw [hel]; exact a7
  obtain ⟨s8, h8, A8, e8, a8, o8⟩ := rsummed_ok (n := n) (encH_byt h1 h2 hb) a7.sow (h := h7) (F := (b0, .cells (iz .u8 V) false 0) :: F) (o7.to fun x => by simp only [cnt_append, cnt_cons, cnt_nil]; omega) (by omega) hn
  rw [hel] at a8
  refine ⟨s8, h8, A8, ?_, a8, o8.to fun x => by simp only [cnt_append, cnt_cons]; omega⟩
  have hco : cellsOf (.agg ⟨iz .u8 V⟩) = iz .u8 V := rfl
  have c0 : ¬ z < 0 := by omega
  have c1 : ¬ 64 ≤ z := by omega
  have f1 : fillL (List.replicate 4 (.int .u8 0)) [(0, 1, .int .u8 72), (1, 1, .int .u8 79), (2, 1, .int .u8 77), (3, 1, .int .u8 69)] = some (iz .u8 [72, 79, 77, 69]) := rfl
  have f2 : fillL [.int .u8 0, .int .u8 0] [(0, 1, .int .u8 1), (1, 1, .int .u8 z)] = some (iz .u8 [1, z]) := rfl
  have e6 : appendZK h5 1 1 [.int .u8 0] s5 (.int .i64 22) = some (s6, h6) := e6
  simp only [f_r8_Encode, hco, iz_cell, cond_true, bnd_eq, hb0, hh0, c0, c1, decide_false, cond_false, Option.bind_some, f1, hb1, hh1, mk, wz, f2, hb2, hhc, e5, e6, nwA_eq, ar, e7, e8, a8.notT, Bool.not_false]
end
/- ==== from Hb4 -/
theorem str_inj : ∀ {A B : List Int}, Byt A → Byt B → A.map (fun n => UInt8.ofNat n.toNat) = B.map (fun n => UInt8.ofNat n.toNat) → A = B := by
  intro A
  induction A with
  | nil => intro B _ _ h; cases B with
    | nil => rfl
    | cons b B => cases h
  | cons a A ih =>
    intro B hA hB h
    cases B with
    | nil => cases h
    | cons b B =>
      simp only [List.map_cons, List.cons.injEq] at h
      have ha := hA a (List.mem_cons_self ..)
      have hb := hB b (List.mem_cons_self ..)
      have h1 := congrArg UInt8.toNat h.1
      rw [UInt8.toNat_ofNat_of_lt' (by show a.toNat < 256; omega), UInt8.toNat_ofNat_of_lt' (by show b.toNat < 256; omega)] at h1
      rw [ih (fun z hz => hA z (List.mem_cons_of_mem _ hz)) (fun z hz => hB z (List.mem_cons_of_mem _ hz)) h.2, show a = b by omega]
theorem str_neq {h : Heap} {A B : List Int} (hA : Byt A) (hB : Byt B) (hne : A ≠ B) : binsT .bool h .neq (.string (strOfInts A)) (.string (strOfInts B)) = some true := by
  have : (List.map (fun n => UInt8.ofNat n.toNat) A == List.map (fun n => UInt8.ofNat n.toNat) B) = false := by
    rw [beq_eq_false_iff_ne]
    exact fun h => hne (str_inj hA hB h)
  simp [binsT, binsK, strOp, Ty.prj, strOfInts, this]
section
variable {n k : Nat} {s u : Value} {L B V X : List Int} {h : Heap} {F G A : Ch} {z : Int}
theorem z32i : List.replicate 32 (Value.int .u8 0) = iz .u8 (List.replicate 32 0) := rfl
theorem rdecode_z (hB : Byt B) (hs : Sow 1 s B.length (iz .u8 B) G) (ho : Own h (G ++ F)) (hn : 2000 ≤ n) :
    ∃ h', f_r8_Decode n s z h = some ((.agg ⟨iz .u8 (deV z B)⟩, (deE z B, ())), h') ∧ Own h' (G ++ F) := by
  have o1 := ho.new (.cells (iz .u8 (List.replicate 32 0)) false 0)
  generalize hb0 : h.next = b0 at o1
  generalize hh0 : h.new (.cells (iz .u8 (List.replicate 32 0)) false 0) = h0 at o1
  have o2 := o1.new (.cells (iz .u8 (List.replicate 32 0)) false 0)
  generalize hb1 : h0.next = b1 at o2
  generalize hh1 : h0.new (.cells (iz .u8 (List.replicate 32 0)) false 0) = h1 at o2
  have f0 : fillL (iz .u8 (List.replicate 32 0)) [] = some (iz .u8 (List.replicate 32 0)) := rfl
  have lz : ldA 32 h1 (some ⟨b1, 0, none⟩) = some (iz .u8 (List.replicate 32 0)) := by rw [ldA_of o2.head (by simp), List.drop_zero, List.take_of_length_le (by simp)]
  have o2' : Own h1 ((b0, .cells (iz .u8 (List.replicate 32 0)) false 0) :: ((b1, .cells (iz .u8 (List.replicate 32 0)) false 0) :: (G ++ F))) := o2.to fun x => by simp only [cnt_append, cnt_cons]; omega
  obtain ⟨h2, s2, o3, l2⟩ := tmp32 (w := List.replicate 32 0) o2' (by simp) (by simp)
  by_cases hz : 0 ≤ z ∧ z < 64
  · have c0 : ¬ z < 0 := by omega
    have c1 : ¬ 64 ≤ z := by omega
    rw [deV, deE, if_pos hz, if_pos hz]
    have hr := hs.rds (h := h1) (F := (b1, .cells (iz .u8 (List.replicate 32 0)) false 0) :: (b0, .cells (iz .u8 (List.replicate 32 0)) false 0) :: F) (o2.to fun x => by simp only [cnt_append, cnt_cons]; omega)
    by_cases hl : B.length = 64
    · -- the middle is copied
      have hml := midV_len hl
      have c2 : decide ((B.length : Int) = 64) = true := decide_eq_true (by omega)
      obtain ⟨⟨r, h3⟩, e3, q3⟩ := loopT_up (f := fun a => f_r8_Decode_L16 n s h0 a.1.1 a.2)
        (fun j (a : (Int × Unit) × Heap) => a.1 = ((j : Int), ()) ∧ Own a.2 ((b1, .cells (iz .u8 ((midV B).take j ++ List.replicate (32 - j) 0)) false 0) :: ((b0, .cells (iz .u8 (List.replicate 32 0)) false 0) :: (G ++ F))))
        (fun r => Own r.2 ((b1, .cells (iz .u8 (midV B)) false 0) :: ((b0, .cells (iz .u8 (List.replicate 32 0)) false 0) :: (G ++ F)))) (N := 32) (k := n) (j := 0) (a := ((0, ()), h1)) (by omega) (by omega)
        ⟨rfl, by simpa using o2⟩
        (fun j a hj hi => by
          obtain ⟨⟨v0, _⟩, h1⟩ := a
          obtain ⟨e0, i1⟩ := hi
          cases e0
          have i1 : Own h1 _ := i1
          have hlt : (j : Int) < 32 := by omega
          have hr := hs.rds (h := h1) (F := (b1, .cells (iz .u8 ((midV B).take j ++ List.replicate (32 - j) 0)) false 0) :: (b0, .cells (iz .u8 (List.replicate 32 0)) false 0) :: F) (i1.to fun x => by simp only [cnt_append, cnt_cons]; omega)
          obtain ⟨q, e1, e2⟩ := hr.int (i := 28 + j) (by omega)
          have hw : IntKind.i64.wrap (28 + (j : Int)) = ((28 + j : Nat) : Int) := by rw [wrap_i64 (by omega) (by omega)]; omega
          have hix : ixA 32 1 (some ⟨b1, 0, none⟩) (j : Int) = some ⟨b1, 0 + j * 1, none⟩ := by
            show (bif Nat.blt j 32 then some (⟨b1, 0 + j * 1, none⟩ : Addr) else none) = _
            rw [show Nat.blt j 32 = true from Nat.ble_eq_true_of_le hj]; rfl
          rw [Nat.zero_add, Nat.mul_one] at hix
          have s5 := stB1_of (sp := none) (o := j) (v := .int .u8 B[28 + j]) i1.head rfl rfl (by simp; omega)
          have o5 := i1.put (.cells ((iz .u8 ((midV B).take j ++ List.replicate (32 - j) 0)).set j (.int .u8 B[28 + j])) false 0)
          have e6 : (iz .u8 ((midV B).take j ++ List.replicate (32 - j) 0)).set j (.int .u8 B[28 + j]) = iz .u8 ((midV B).take (j + 1) ++ List.replicate (32 - (j + 1)) 0) := by
            rw [iz_set]
            congr 1
            have hjm : j < (midV B).length := by omega
            have hv : B[28 + j]'(by omega) = (midV B)[j] := by simp [midV]
            rw [take_snoc hjm, hv, show 32 - j = (32 - (j + 1)) + 1 by omega, List.replicate_succ]
            rw [List.set_append_right _ _ (by rw [List.length_take]; omega), List.length_take, Nat.min_eq_left (by omega), Nat.sub_self, List.set_cons_zero, List.append_assoc]; rfl
          rw [e6] at s5 o5
          exact .inl ⟨_, by simp only [f_r8_Decode_L16, hlt, decide_true, cond_true, hw, e1, e2, Option.bind_some, nwA_eq, hb1, hix, s5]; rfl, by rw [wrap_succ (show j < 4611686018427387904 by omega)], o5⟩)
        (fun a hi => by
          obtain ⟨⟨v0, _⟩, h1⟩ := a
          obtain ⟨e0, i1⟩ := hi
          cases e0
          have i1 : Own h1 _ := i1
          rw [Nat.sub_self, List.replicate_zero, List.append_nil, List.take_of_length_le (by omega)] at i1
          exact ⟨((), h1), rfl, i1⟩)
      have q3 : Own h3 _ := q3
      have l3 : ldA 32 h3 (some ⟨b1, 0, none⟩) = some (iz .u8 (midV B)) := by rw [ldA_of q3.head (by simp; omega), List.drop_zero, List.take_of_length_le (by simp; omega)]
      obtain ⟨s4, h4, A4, e4, a4, o4⟩ := rencode_ok (n := n) hz.1 hz.2 hml (midV_byt hB) q3 hn
      have o4' : Own h4 ((b0, .cells (iz .u8 (List.replicate 32 0)) false 0) :: (A4 ++ ((b1, .cells (iz .u8 (midV B)) false 0) :: (G ++ F)))) := o4.to fun x => by simp only [cnt_append, cnt_cons]; omega
      have t1 := (a4.rds o4).str
      have t2 := (hs.rds (h := h4) (F := A4 ++ ((b1, .cells (iz .u8 (midV B)) false 0) :: (b0, .cells (iz .u8 (List.replicate 32 0)) false 0) :: F)) (o4.to fun x => by simp only [cnt_append, cnt_cons]; omega)).str
      by_cases he : enc z (midV B) = B
      · have hE : decE z B = 0 := by rw [decE, if_pos hl, if_pos he]
        have hVv : decV z B = midV B := by rw [decV, if_pos hE]
        rw [hE, hVv]
        rw [he] at t1
        have l4 : ldA 32 h4 (some ⟨b1, 0, none⟩) = some (iz .u8 (midV B)) := by rw [ldA_of (o4'.get (b1, .cells (iz .u8 (midV B)) false 0) (by simp)) (by simp; omega), List.drop_zero, List.take_of_length_le (by simp; omega)]
        obtain ⟨h5, s5, o5, l5⟩ := tmp32 (w := midV B) o4' (by simp) hml
        refine ⟨h5, ?_, o5.to fun x => by simp only [cnt_append, cnt_cons]; omega⟩
        simp only [f_r8_Decode, z32i, bnd_eq, hb0, hh0, hb1, hh1, c0, c1, decide_false, cond_false, Option.bind_some, hr.lenB, c2, Bool.not_true, e3, nwA_eq, l3, e4, t1, t2, str_eq rfl, l4, s5, l5]
      · have hE : decE z B = 80 := by rw [decE, if_pos hl, if_neg he]
        have hVv : decV z B = List.replicate 32 0 := by rw [decV, hE, if_neg (by decide)]
        rw [hE, hVv]
        have hne : binsT .bool h4 .neq (.string (strOfInts (enc z (midV B)))) (.string (strOfInts B)) = some true := str_neq (enc_byt hz.1 hz.2 (midV_byt hB)) hB he
        obtain ⟨h5, s5, o5, l5⟩ := tmp32 (w := List.replicate 32 0) o4' (by simp) (by simp)
        refine ⟨h5, ?_, o5.to fun x => by simp only [cnt_append, cnt_cons]; omega⟩
        simp only [f_r8_Decode, z32i, bnd_eq, hb0, hh0, hb1, hh1, c0, c1, decide_false, cond_false, Option.bind_some, hr.lenB, c2, Bool.not_true, e3, nwA_eq, l3, e4, t1, t2, hne, cond_true, f0, s5, l5]
    · have hE : decE z B = 2 := by rw [decE, if_neg hl]
      have hVv : decV z B = List.replicate 32 0 := by rw [decV, hE, if_neg (by decide)]
      rw [hE, hVv]
      have c2 : decide ((B.length : Int) = 64) = false := decide_eq_false (by omega)
      refine ⟨h2, ?_, o3.to fun x => by simp only [cnt_append, cnt_cons]; omega⟩
      simp only [f_r8_Decode, z32i, bnd_eq, hb0, hh0, hb1, hh1, c0, c1, decide_false, cond_false, Option.bind_some, hr.lenB, c2, Bool.not_false, cond_true, nwA_eq, lz, s2, l2]
  · rw [deV, deE, if_neg hz, if_neg hz]
    refine ⟨h2, ?_, o3.to fun x => by simp only [cnt_append, cnt_cons]; omega⟩
    by_cases h0' : z < 0
    · simp only [f_r8_Decode, z32i, bnd_eq, hb0, hh0, hb1, hh1, h0', decide_true, cond_true, Option.bind_some, nwA_eq, lz, s2, l2]
    · have c1 : 64 ≤ z := by omega
      simp only [f_r8_Decode, z32i, bnd_eq, hb0, hh0, hb1, hh1, h0', decide_false, cond_false, c1, decide_true, cond_true, Option.bind_some, nwA_eq, lz, s2, l2]
end
end Go.Proofs.YtjdbmfhjccaggaaDoor
