import Derived.Test.YtdlfdieehioolaaDoorLScanFinds
import Derived.Test.YtdlfdieehioolaaDoorS58
import Derived.Test.YtdlfdieehioolaaDoorAgZ
/- HdA: put together from HoAll. -/
namespace Go.Proofs.YtdlfdieehioolaaDoor
open Go
set_option linter.unusedVariables false
set_option linter.unusedSimpArgs false
/- ==== from HoAll -/
def tabN : List Nat := [0, 498536548, 997073096, 651767980, 1994146192, 1802195444, 1303535960, 1342533948, 3988292384, 4027552580, 3604390888, 3412177804, 2607071920, 2262029012, 2685067896, 3183342108]
def hf (x : Nat) : Nat := tabN.getD (x % 16) 0 ^^^ (x / 16)
def psh (x c : Nat) : Nat := hf (hf (x ^^^ c))
def crcs (L : List Int) (x : Nat) : Nat := L.foldl (fun x z => psh x z.toNat) x
def crc (L : List Int) : Nat := 4294967295 ^^^ crcs L 4294967295
def Byt (L : List Int) : Prop := ∀ z ∈ L, 0 ≤ z ∧ z < 256
theorem wrap_u32 {x : Int} (h1 : 0 ≤ x) (h2 : x < 4294967296) : IntKind.u32.wrap x = x := by
  have : x % 4294967296 = x := Int.emod_eq_of_lt h1 h2
  simpa [IntKind.wrap, IntKind.signed, IntKind.bits] using this
theorem xor_b {a b : Nat} (ha : a < 4294967296) (hb : b < 4294967296) : bitB .xor .u32 (a : Int) .u32 (b : Int) = some ((a ^^^ b : Nat) : Int) := by
  have h1 : a ^^^ b < 2 ^ 32 := Nat.xor_lt_two_pow (n := 32) ha hb
  have e1 : ((a : Int) % 2 ^ 32).toNat = a := by omega
  have e2 : ((b : Int) % 2 ^ 32).toNat = b := by omega
  have e : bitB .xor .u32 (a : Int) .u32 (b : Int) = some (IntKind.u32.wrap (((((a : Int) % 2 ^ 32).toNat ^^^ ((b : Int) % 2 ^ 32).toNat : Nat)) : Int)) := rfl
  rw [e, e1, e2, wrap_u32 (by omega) (by omega)]
theorem and_b {a : Nat} (ha : a < 4294967296) : bitB .and .u32 (a : Int) .u32 15 = some ((a % 16 : Nat) : Int) := by
  have e1 : ((a : Int) % 2 ^ 32).toNat = a := by omega
  have e2 : a &&& 15 = a % 16 := Nat.and_two_pow_sub_one_eq_mod a 4
  have e : bitB .and .u32 (a : Int) .u32 15 = some (IntKind.u32.wrap (((((a : Int) % 2 ^ 32).toNat &&& ((15 : Int) % 2 ^ 32).toNat : Nat)) : Int)) := rfl
  have e3 : ((15 : Int) % 2 ^ 32).toNat = 15 := by decide
  rw [e, e1, e3, e2, wrap_u32 (by omega) (by omega)]
theorem shr_b {a : Nat} : bitB .shr .u32 (a : Int) .u64 4 = some ((a / 16 : Nat) : Int) := by
  have e : bitB .shr .u32 (a : Int) .u64 4 = some ((a : Int).fdiv (2 ^ (min 4 32))) := rfl
  rw [e, Int.fdiv_eq_ediv_of_nonneg _ (by decide)]
  rfl
theorem not_b {a : Nat} (ha : a < 4294967296) : unB .xor .u32 (a : Int) = some ((4294967295 ^^^ a : Nat) : Int) := by
  have e : unB .xor .u32 (a : Int) = bitB .xor .u32 ((4294967295 : Nat) : Int) .u32 (a : Int) := rfl
  rw [e, xor_b (by decide) ha]
theorem tab_lt : ∀ i : Nat, tabN.getD i 0 < 4294967296 := by
  intro i
  by_cases hi : i < 16
  · have : ∀ j : Fin 16, tabN.getD j.1 0 < 4294967296 := by decide
    exact this ⟨i, hi⟩
  · rw [List.getD_eq_getElem?_getD, List.getElem?_eq_none (by simp [tabN]; omega)]; decide
theorem hf_lt {x : Nat} (hx : x < 4294967296) : hf x < 4294967296 := by
  have h2 : x / 16 < 2 ^ 32 := by omega
  exact Nat.xor_lt_two_pow (n := 32) (tab_lt _) h2
theorem psh_lt {x c : Nat} (hx : x < 4294967296) (hc : c < 256) : psh x c < 4294967296 := hf_lt (hf_lt (Nat.xor_lt_two_pow (n := 32) hx (by omega)))
theorem crcs_lt : ∀ {L : List Int} {x : Nat}, Byt L → x < 4294967296 → crcs L x < 4294967296 := by
  intro L
  induction L with
  | nil => intro x _ hx; exact hx
  | cons z L ih =>
    intro x hL hx
    have hz := hL z (List.mem_cons_self ..)
    exact ih (fun y hy => hL y (List.mem_cons_of_mem _ hy)) (psh_lt hx (by omega))
theorem crcs_append {A B : List Int} {x : Nat} : crcs (A ++ B) x = crcs B (crcs A x) := by simp [crcs]
section
variable {n : Nat} {h : Heap} {F G : Ch} {s u : Value} {L : List Int}
theorem tab_ld (hg : h.get 1 = some (.cells tab0.cells true 0)) {i : Nat} (hi : i < 16) : ixA 16 1 (some ⟨1, 0, none⟩) (i : Int) = some ⟨1, i, none⟩ ∧ ldT (.int .u32) h (some ⟨1, i, none⟩) = some ((tabN.getD i 0 : Nat) : Int) := by
  constructor
  · show (bif Nat.blt i 16 then _ else none) = _
    rw [show Nat.blt i 16 = true from Nat.ble_eq_true_of_le hi]; simp
  · rw [ldT_of hg]
    have : ∀ j : Fin 16, ((tab0.cells)[j.1]?).bind (Ty.int .u32).prj = some ((tabN.getD j.1 0 : Nat) : Int) := by decide
    exact this ⟨i, hi⟩
theorem push_ok (hg : h.get 1 = some (.cells tab0.cells true 0)) {x c : Nat} (hx : x < 4294967296) (hc : c < 256) : f_sum_push n (x : Int) (c : Int) h = some ((((psh x c : Nat) : Int), ()), h) := by
  have w1 : IntKind.u32.wrap (c : Int) = (c : Int) := by
    have : (c : Int) % 4294967296 = c := Int.emod_eq_of_lt (by omega) (by omega)
    simpa [IntKind.wrap, IntKind.signed, IntKind.bits] using this
  have l1 : x ^^^ c < 4294967296 := Nat.xor_lt_two_pow (n := 32) hx (by omega)
  obtain ⟨a1, a2⟩ := tab_ld hg (i := (x ^^^ c) % 16) (Nat.mod_lt _ (by decide))
  have l2 := hf_lt l1
  obtain ⟨b1, b2⟩ := tab_ld hg (i := hf (x ^^^ c) % 16) (Nat.mod_lt _ (by decide))
  have x1 := xor_b (tab_lt ((x ^^^ c) % 16)) (show (x ^^^ c) / 16 < 4294967296 by omega)
  have x2 := xor_b (tab_lt (hf (x ^^^ c) % 16)) (show hf (x ^^^ c) / 16 < 4294967296 by omega)
  have e1 : tabN.getD ((x ^^^ c) % 16) 0 ^^^ (x ^^^ c) / 16 = hf (x ^^^ c) := rfl
  have e2 : tabN.getD (hf (x ^^^ c) % 16) 0 ^^^ hf (x ^^^ c) / 16 = psh x c := rfl
  rw [e1] at x1
  rw [e2] at x2
  simp only [f_sum_push, w1, xor_b hx (show c < 4294967296 by omega), Option.bind_some, and_b l1, a1, a2, shr_b, x1, and_b l2, b1, b2, x2]
theorem of_ok {F : Ch} (hg : h.get 1 = some (.cells tab0.cells true 0)) (hL : Byt L) (hs : Sow 1 s L.length (iz .u8 L) G) (hu : Sow 1 u 1 [s] G) (ho : Own h (G ++ F)) (hlen : L.length ≤ 1000) (hn : 2000 ≤ n) :
    f_sum_Of n u h = some ((((crc L : Nat) : Int), ()), h) := by
  have rs : Rds h 1 s L.length (iz .u8 L) := hs.rds ho
  have ru : Rds h 1 u 1 [s] := hu.rds ho
  obtain ⟨a, a1, a2⟩ := ru.ix 0 (by decide)
  have a1 : ixB 1 u 0 = some a := a1
  have lda : ldT .any h (some a) = some s := by rw [a2.ldT0 (v := s) (by simp)]; rfl
  have hbt : ∀ j, Byt (L.take j) := fun j z hz => hL z (List.mem_of_mem_take hz)
  obtain ⟨r, e1, rfl⟩ := loopT_up (f := fun a : (Int × Int × Unit) × Heap => f_sum_Of_L13 n s L.length a.1.1 a.1.2.1 a.2)
    (I := fun j a => a = ((((crcs (L.take j) 4294967295 : Nat) : Int), (j : Int), ()), h)) (Q := fun r => r = ((((crcs L 4294967295 : Nat) : Int), ()), h)) (N := L.length) (k := n) (j := 0) (a := ((4294967295, 0, ()), h)) (by omega) (Nat.zero_le _) rfl (by
      rintro j a hj rfl
      obtain ⟨q, b1, b2⟩ := rs.int (L := L) hj
      have hz := hL _ (List.getElem_mem hj)
      obtain ⟨c, hc⟩ : ∃ c : Nat, L[j] = (c : Int) := ⟨L[j].toNat, by omega⟩
      rw [hc] at b2
      have e := push_ok (n := n) hg (x := crcs (L.take j) 4294967295) (c := c) (crcs_lt (hbt j) (by decide)) (by omega)
      have hcs : crcs (L.take (j + 1)) 4294967295 = psh (crcs (L.take j) 4294967295) c := by rw [take_snoc hj, crcs_append, hc]; rfl
      have hlt : (j : Int) < (L.length : Int) := by omega
      refine .inl ⟨_, ?_, rfl⟩
      simp only [f_sum_Of_L13, hlt, decide_true, cond_true, b1, b2, Option.bind_some, e, wrap_succ (j := j) (by omega), hcs]) (by
      rintro a rfl
      exact ⟨_, by simp [f_sum_Of_L13], rfl⟩)
  have e1' : loopT (fun a : (Int × Int × Unit) × Heap => f_sum_Of_L13 n s L.length a.1.1 a.1.2.1 a.2) n ((4294967295, 0, ()), h) = some ((((crcs L 4294967295 : Nat) : Int), ()), h) := e1
  obtain ⟨m, rfl⟩ : ∃ m, n = m + 2 := ⟨n - 2, by omega⟩
  have hw : IntKind.i64.wrap (0 + 1) = 1 := by decide
  have st1 : f_sum_Of_L15 (m + 2) u 1 4294967295 0 h = some (.inl ((((crcs L 4294967295 : Nat) : Int), (1, ())), h)) := by
    have : (0 : Int) < ((1 : Nat) : Int) := by omega
    simp only [f_sum_Of_L15, this, decide_true, cond_true, a1, lda, Option.bind_some, rs.lenB, e1', hw]
  have st2 : f_sum_Of_L15 (m + 2) u 1 ((crcs L 4294967295 : Nat) : Int) 1 h = some (.inr ((((crcs L 4294967295 : Nat) : Int), ()), h)) := by
    simp [f_sum_Of_L15]
  have hx := not_b (crcs_lt (x := 4294967295) hL (by decide))
  simp only [f_sum_Of, ru.lenB, Option.bind_some, loopT, st1, st2, hx]
  rfl
end
end Go.Proofs.YtdlfdieehioolaaDoor
/- Homes: parts side by side, numbers as bytes. -/
namespace Go.Proofs.YtdlfdieehioolaaDoor
set_option linter.unusedVariables false
set_option linter.unusedSimpArgs false
section
variable {n : Nat} {h : Heap} {F G : Ch} {s u : Value} {L : List Int}
theorem join_ok {P : List (Value × List Int)} (hu : Sow 1 u P.length (P.map (·.1)) G) (hp : ∀ x ∈ P, Sow 1 x.1 x.2.length (iz .u8 x.2) G) (ho : Own h (G ++ F)) (hlen : (P.flatMap (·.2)).length ≤ 1000000) (hP : P.length ≤ 10) (hn : 2000 ≤ n) :
    ∃ s h' A, f_octet_Join n u h = some ((s, ()), h') ∧ Slc 1 s (P.flatMap (·.2)).length (iz .u8 (P.flatMap (·.2))) A ∧ Own h' (A ++ (G ++ F)) := by
  have ru : Rds h 1 u P.length (P.map (·.1)) := hu.rds ho
  obtain ⟨⟨⟨s, _⟩, h'⟩, e1, A, g1, g2⟩ := loopT_up (f := fun a : (Value × Int × Unit) × Heap => f_octet_Join_L7 n u P.length a.1.1 a.1.2.1 a.2)
    (I := fun j a => a.1.2.1 = (j : Int) ∧ ∃ A, Slc 1 a.1.1 ((P.take j).flatMap (·.2)).length (iz .u8 ((P.take j).flatMap (·.2))) A ∧ Own a.2 (A ++ (G ++ F)))
    (Q := fun r => ∃ A, Slc 1 r.1.1 (P.flatMap (·.2)).length (iz .u8 (P.flatMap (·.2))) A ∧ Own r.2 (A ++ (G ++ F))) (N := P.length) (k := n) (j := 0) (a := ((.slice none 0 0, 0, ()), h)) (by omega) (Nat.zero_le _) ⟨rfl, [], .nil, ho⟩ (by
      rintro j ⟨⟨v, z, _⟩, hh⟩ hj ⟨rfl, A, l1, ow⟩
      have ow : Own hh (A ++ (G ++ F)) := ow
      have ru : Rds hh 1 u P.length (P.map (·.1)) := hu hh fun x hx => ow.get x (by simp [hx])
      obtain ⟨a, a1, a2⟩ := ru.ix j hj
      have lda : ldT .any hh (some a) = some P[j].1 := by
        rw [a2.ldT0 (v := P[j].1) (by rw [Nat.mul_one, List.getElem?_take, if_pos (by omega), List.getElem?_drop, Nat.add_zero, List.getElem?_map, List.getElem?_eq_getElem hj]; rfl)]; rfl
      have hfl : (P.take (j + 1)).flatMap (·.2) = (P.take j).flatMap (·.2) ++ P[j].2 := by rw [take_snoc hj, List.flatMap_append]; simp
      have hle : ((P.take (j + 1)).flatMap (·.2)).length ≤ (P.flatMap (·.2)).length := by
        conv => rhs; rw [← List.take_append_drop (j + 1) P, List.flatMap_append, List.length_append]
        omega
      rw [hfl, List.length_append] at hle
      obtain ⟨s', h2, A2, e2, l2, o2⟩ := (hp _ (List.getElem_mem hj)).app l1 ow (by decide) (bytes := 1) (by omega)
      have hlt : (j : Int) < (P.length : Int) := by omega
      refine .inl ⟨((s', ((j + 1 : Nat) : Int), ()), h2), ?_, rfl, A2, ?_, o2⟩
      · simp only [f_octet_Join_L7, hlt, decide_true, cond_true, a1, lda, Option.bind_some, e2, wrap_succ (j := j) (by omega)]
      · rw [hfl, List.length_append, iz_append]; exact l2) (by
      rintro ⟨⟨v, z, _⟩, hh⟩ ⟨rfl, A, l1, ow⟩
      rw [List.take_length] at l1
      refine ⟨((v, ()), hh), ?_, A, l1, ow⟩
      have : isTuple v = false := l1.notT
      simp [f_octet_Join_L7, this])
  exact ⟨s, h', A, by simp only [f_octet_Join, ru.lenB, Option.bind_some]; exact e1, g1, g2⟩
def le : Nat → Nat → List Int
  | _, 0 => []
  | x, j + 1 => ((x % 256 : Nat) : Int) :: le (x / 256) j
theorem le_len : ∀ {j x : Nat}, (le x j).length = j := by
  intro j
  induction j with
  | zero => intro x; rfl
  | succ j ih => intro x; simp [le, ih]
theorem le_byt : ∀ {j x : Nat}, Byt (le x j) := by
  intro j
  induction j with
  | zero => intro x z hz; cases hz
  | succ j ih =>
    intro x z hz
    rcases List.mem_cons.1 hz with rfl | hz
    · omega
    · exact ih z hz
theorem le_get : ∀ {j x i : Nat}, i < j → (le x j)[i]? = some ((x / 256 ^ i % 256 : Nat) : Int) := by
  intro j
  induction j with
  | zero => intro x i hi; omega
  | succ j ih =>
    intro x i hi
    cases i with
    | zero => simp [le]
    | succ i =>
      simp only [le, List.getElem?_cons_succ]
      rw [ih (by omega), Nat.div_div_eq_div_mul, Nat.pow_succ, Nat.mul_comm]
theorem shr8_b {a : Nat} : bitB .shr .u64 (a : Int) .u64 8 = some ((a / 256 : Nat) : Int) := by
  have e : bitB .shr .u64 (a : Int) .u64 8 = some ((a : Int).fdiv (2 ^ (min 8 64))) := rfl
  rw [e, Int.fdiv_eq_ediv_of_nonneg _ (by decide)]
  rfl
theorem wrap_u8 {x : Nat} : IntKind.u8.wrap (x : Int) = ((x % 256 : Nat) : Int) := by
  have : IntKind.u8.wrap (x : Int) = (x : Int) % 256 := by simp [IntKind.wrap, IntKind.signed, IntKind.bits]
  rw [this]; omega
theorem oput_ok {x : Nat} (hx : x < 4294967296) (ho : Own h F) (hn : 2000 ≤ n) : ∃ s h' A, f_octet_Put n (x : Int) 4 h = some ((s, 0, ()), h') ∧ Slc 1 s 4 (iz .u8 (le x 4)) A ∧ Own h' (A ++ F) := by
  have m1 := mkSl_of (nx := h.next) (bytes := 1) (es := 1) (zs := [.int .u8 0]) (k := .i64) (k' := .i64) (l := 4) (c := 4) (by decide) (by decide) (by decide)
  have o1 := ho.new (.cells ((List.replicate 4 [Value.int .u8 0]).flatten) false 1)
  generalize hb : h.next = b at m1 o1
  generalize hh1 : h.new (.cells ((List.replicate 4 [Value.int .u8 0]).flatten) false 1) = h1 at o1
  have l0 : Slc 1 (.slice (some ⟨b, 0, some 0⟩) 4 4) 4 (iz .u8 [0, 0, 0, 0]) [(b, .cells ([] ++ (iz .u8 [0, 0, 0, 0] ++ [])) false 1)] := .mk rfl rfl rfl
  have o1 : Own h1 ([(b, .cells ([] ++ (iz .u8 [0, 0, 0, 0] ++ [])) false 1)] ++ F) := o1
  obtain ⟨q0, h2, A2, a1, a2, a3, o2⟩ := slc_set1 l0 o1 (i := 0) (by decide) (v := .int .u8 ((x % 256 : Nat) : Int)) rfl rfl
  obtain ⟨q1, h3, A3, b1, b2, b3, o3⟩ := slc_set1 a3 o2 (i := 1) (by decide) (v := .int .u8 ((x / 256 % 256 : Nat) : Int)) rfl rfl
  obtain ⟨q2, h4, A4, c1, c2, c3, o4⟩ := slc_set1 b3 o3 (i := 2) (by decide) (v := .int .u8 ((x / 256 / 256 % 256 : Nat) : Int)) rfl rfl
  obtain ⟨q3, h5, A5, d1, d2, d3, o5⟩ := slc_set1 c3 o4 (i := 3) (by decide) (v := .int .u8 ((x / 256 / 256 / 256 % 256 : Nat) : Int)) rfl rfl
  refine ⟨_, h5, A5, ?_, d3, o5⟩
  obtain ⟨m, rfl⟩ : ∃ m, n = m + 6 := ⟨n - 6, by omega⟩
  have m1' : mkSl b 1 1 [.int .u8 0] (.int .i64 4) (.int .i64 4) = some (.slice (some ⟨b, 0, some 0⟩) 4 4, .cells ((List.replicate 4 [Value.int .u8 0]).flatten) false 1) := m1
  have a1 : ixB 1 (.slice (some ⟨b, 0, some 0⟩) 4 4) 0 = some q0 := a1
  have b1 : ixB 1 (.slice (some ⟨b, 0, some 0⟩) 4 4) 1 = some q1 := b1
  have c1 : ixB 1 (.slice (some ⟨b, 0, some 0⟩) 4 4) 2 = some q2 := c1
  have d1 : ixB 1 (.slice (some ⟨b, 0, some 0⟩) 4 4) 3 = some q3 := d1
  have s0 : f_octet_Put_L10 (m + 6) (.slice (some ⟨b, 0, some 0⟩) 4 4, .cells ((List.replicate 4 [Value.int .u8 0]).flatten) false 1) 4 (x : Int) 0 h1 = some (.inl ((((x / 256 : Nat) : Int), (1, ())), h2)) := by
    have h0 : (0 : Int) < ((4 : Nat) : Int) := by omega
    have w : IntKind.i64.wrap (0 + 1) = 1 := by decide
    simp only [f_octet_Put_L10, h0, decide_true, cond_true, a1, Option.bind_some, wrap_u8, a2, shr8_b, w]
  have s1 : f_octet_Put_L10 (m + 6) (.slice (some ⟨b, 0, some 0⟩) 4 4, .cells ((List.replicate 4 [Value.int .u8 0]).flatten) false 1) 4 ((x / 256 : Nat) : Int) 1 h2 = some (.inl ((((x / 256 / 256 : Nat) : Int), (2, ())), h3)) := by
    have h0 : (1 : Int) < ((4 : Nat) : Int) := by omega
    have w : IntKind.i64.wrap (1 + 1) = 2 := by decide
    simp only [f_octet_Put_L10, h0, decide_true, cond_true, b1, Option.bind_some, wrap_u8, b2, shr8_b, w]
  have s2 : f_octet_Put_L10 (m + 6) (.slice (some ⟨b, 0, some 0⟩) 4 4, .cells ((List.replicate 4 [Value.int .u8 0]).flatten) false 1) 4 ((x / 256 / 256 : Nat) : Int) 2 h3 = some (.inl ((((x / 256 / 256 / 256 : Nat) : Int), (3, ())), h4)) := by
    have h0 : (2 : Int) < ((4 : Nat) : Int) := by omega
    have w : IntKind.i64.wrap (2 + 1) = 3 := by decide
    simp only [f_octet_Put_L10, h0, decide_true, cond_true, c1, Option.bind_some, wrap_u8, c2, shr8_b, w]
  have s3 : f_octet_Put_L10 (m + 6) (.slice (some ⟨b, 0, some 0⟩) 4 4, .cells ((List.replicate 4 [Value.int .u8 0]).flatten) false 1) 4 ((x / 256 / 256 / 256 : Nat) : Int) 3 h4 = some (.inl ((((x / 256 / 256 / 256 / 256 : Nat) : Int), (4, ())), h5)) := by
    have h0 : (3 : Int) < ((4 : Nat) : Int) := by omega
    have w : IntKind.i64.wrap (3 + 1) = 4 := by decide
    simp only [f_octet_Put_L10, h0, decide_true, cond_true, d1, Option.bind_some, wrap_u8, d2, shr8_b, w]
  have hz : x / 256 / 256 / 256 / 256 = 0 := by omega
  rw [hz] at s3
  have s4 : f_octet_Put_L10 (m + 6) (.slice (some ⟨b, 0, some 0⟩) 4 4, .cells ((List.replicate 4 [Value.int .u8 0]).flatten) false 1) 4 ((0 : Nat) : Int) 4 h5 = some (.inr ((0, ()), h5)) := by
    simp [f_octet_Put_L10]
  have g1 : (1 : Int) ≤ 4 := by decide
  have g2 : (4 : Int) ≤ 8 := by decide
  have hl : lenB (.slice (some ⟨b, 0, some 0⟩) 4 4) = some 4 := rfl
  have ht : isTuple (.slice (some ⟨b, 0, some 0⟩) 4 4) = false := rfl
  simp only [f_octet_Put, f_octet_may, g1, g2, decide_true, cond_true, Option.bind_some, Bool.not_true, cond_false, hb, m1', bnd_eq, hh1, hl, loopT, s0, s1, s2, s3, s4, ht, Bool.not_false]
end
end Go.Proofs.YtdlfdieehioolaaDoor
/- Homes: Encode. -/
namespace Go.Proofs.YtdlfdieehioolaaDoor
set_option linter.unusedVariables false
set_option linter.unusedSimpArgs false
def encH (k : Int) (V : List Int) : List Int := [72, 79, 77, 69, 1, k] ++ (List.replicate 22 0 ++ V)
def enc (k : Int) (V : List Int) : List Int := encH k V ++ le (crc (encH k V)) 4
section
variable {n : Nat} {h : Heap} {F G : Ch} {s u : Value} {L V : List Int} {k : Int}
theorem encH_len (hV : V.length = 32) : (encH k V).length = 60 := by simp [encH, hV]
theorem enc_len (hV : V.length = 32) : (enc k V).length = 64 := by simp [enc, encH_len hV, le_len]
theorem encH_byt (h1 : 0 ≤ k) (h2 : k < 64) (hV : Byt V) : Byt (encH k V) := by
  intro z hz
  simp only [encH, List.mem_append, List.mem_cons, List.not_mem_nil, or_false, List.mem_replicate] at hz
  rcases hz with (rfl | rfl | rfl | rfl | rfl | rfl) | ⟨_, rfl⟩ | hz
  all_goals first | omega | exact hV z hz
theorem enc_byt (h1 : 0 ≤ k) (h2 : k < 64) (hV : Byt V) : Byt (enc k V) := by
  intro z hz
  rcases List.mem_append.1 hz with hz | hz
  · exact encH_byt h1 h2 hV z hz
  · exact le_byt z hz
theorem crc_lt (hL : Byt L) : crc L < 4294967296 := Nat.xor_lt_two_pow (n := 32) (by decide) (crcs_lt hL (by decide))
abbrev tabO : Nat × AObj := (1, .cells tab0.cells true 0)
theorem lits {b : Nat} {vs : List Value} : Sow 1 (.slice (some ⟨b, 0, some 0⟩) vs.length vs.length) vs.length vs [(b, .cells vs false 1)] := by
  have := (Slc.mk (es := 1) (b := b) (off := 0) (sp := some 0) (n := vs.length) (c := vs.length) (pre := []) (cs := vs) (rest := []) rfl (by simp) (by simp)).sow
  simpa using this
theorem encode_ok (h1 : 0 ≤ k) (h2 : k < 64) (hV : V.length = 32) (hb : Byt V) (hm : tabO ∈ F) (ho : Own h F) (hn : 2000 ≤ n) :
    ∃ s h' A, f_home_Encode n k (.agg ⟨iz .u8 V⟩) h = some ((s, 0, ()), h') ∧ Slc 1 s 64 (iz .u8 (enc k V)) A ∧ Own h' (A ++ F) := by
  have o1 := ho.new (.cells (iz .u8 V) false 0)
  generalize hb0 : h.next = b0 at o1
  generalize hh0 : h.new (.cells (iz .u8 V) false 0) = h0 at o1
  have o2 := o1.new (.cells (iz .u8 [72, 79, 77, 69]) false 1)
  generalize hb1 : h0.next = b1 at o2
  generalize hh1 : h0.new (.cells (iz .u8 [72, 79, 77, 69]) false 1) = ha at o2
  have mk : markSK ha (.slice (some ⟨b1, 0, some 0⟩) 4 4) = some (.slice (some ⟨b1, 0, some 0⟩) 4 4, ha.put b1 (.cells (iz .u8 [72, 79, 77, 69]) false 1)) := by
    simp only [markSK, o2.head]; rfl
  have o3 := o2.put (.cells (iz .u8 [72, 79, 77, 69]) false 1)
  generalize hhb : ha.put b1 (.cells (iz .u8 [72, 79, 77, 69]) false 1) = hbb at o3 mk
  have o4 := o3.new (.cells (iz .u8 [1, k]) false 1)
  generalize hb2 : hbb.next = b2 at o4
  generalize hhc : hbb.new (.cells (iz .u8 [1, k]) false 1) = hc at o4
  have o5 := o4.new (.cells [.slice (some ⟨b1, 0, some 0⟩) 4 4, .slice (some ⟨b2, 0, some 0⟩) 2 2] false 1)
  generalize hb3 : hc.next = b3 at o5
  generalize hhd : hc.new (.cells [.slice (some ⟨b1, 0, some 0⟩) 4 4, .slice (some ⟨b2, 0, some 0⟩) 2 2] false 1) = hd at o5
  have sl : ∀ (b : Nat) (L : List Int), Sow 1 (.slice (some ⟨b, 0, some 0⟩) L.length L.length) L.length (iz .u8 L) [(b, .cells (iz .u8 L) false 1)] := fun b L => by
    have := lits (b := b) (vs := iz .u8 L)
    simpa [iz] using this
  obtain ⟨s9, he, A9, e9, l9, o6⟩ := join_ok (n := n) (P := [(.slice (some ⟨b1, 0, some 0⟩) 4 4, [72, 79, 77, 69]), (.slice (some ⟨b2, 0, some 0⟩) 2 2, [1, k])]) (u := .slice (some ⟨b3, 0, some 0⟩) 2 2)
    (G := [(b3, .cells [.slice (some ⟨b1, 0, some 0⟩) 4 4, .slice (some ⟨b2, 0, some 0⟩) 2 2] false 1), (b2, .cells (iz .u8 [1, k]) false 1), (b1, .cells (iz .u8 [72, 79, 77, 69]) false 1)]) (h := hd) (F := (b0, .cells (iz .u8 V) false 0) :: F)
    ((lits (b := b3) (vs := [.slice (some ⟨b1, 0, some 0⟩) 4 4, .slice (some ⟨b2, 0, some 0⟩) 2 2])).mono fun x hx => by simp only [List.mem_singleton] at hx; subst hx; exact List.mem_cons_self ..) (by
      intro x hx
      simp only [List.mem_cons, List.not_mem_nil, or_false] at hx
      rcases hx with rfl | rfl
      · exact (sl b1 [72, 79, 77, 69]).mono (by simp)
      · exact (sl b2 [1, k]).mono (by simp)) o5 (by simp) (by simp) hn
  have hf9 : ([((.slice (some ⟨b1, 0, some 0⟩) 4 4 : Value), ([72, 79, 77, 69] : List Int)), (.slice (some ⟨b2, 0, some 0⟩) 2 2, [1, k])] : List (Value × List Int)).flatMap (·.2) = [72, 79, 77, 69, 1, k] := rfl
  rw [hf9] at l9
  have o7 : Own he (A9 ++ ((b0, .cells (iz .u8 V) false 0) :: F)) := o6.to fun x => by simp only [cnt_append, cnt_cons, cnt_nil]; omega
  have m1 := mkSl_of (nx := he.next) (bytes := 1) (es := 1) (zs := [.int .u8 0]) (k := .i64) (k' := .i64) (l := 22) (c := 22) (by decide) (by decide) (by decide)
  have o8 := o7.new (.cells (iz .u8 (List.replicate 22 0)) false 1)
  have hz22 : (List.replicate 22 [Value.int .u8 0]).flatten = iz .u8 (List.replicate 22 0) := rfl
  rw [hz22] at m1
  generalize hb4 : he.next = b4 at o8 m1
  generalize hhf : he.new (.cells (iz .u8 (List.replicate 22 0)) false 1) = hf at o8
  have ar : ∀ H : Heap, sliceArrK H 32 1 none none (.pointer (some ⟨b0, 0, none⟩)) = some (.slice (some ⟨b0, 0, some 0⟩) 32 32, H) := fun H => rfl
  have o9 := o8.new (.cells [s9, .slice (some ⟨b4, 0, some 0⟩) 22 22, .slice (some ⟨b0, 0, some 0⟩) 32 32] false 1)
  generalize hb5 : hf.next = b5 at o9
  generalize hhg : hf.new (.cells [s9, .slice (some ⟨b4, 0, some 0⟩) 22 22, .slice (some ⟨b0, 0, some 0⟩) 32 32] false 1) = hg at o9
  have sv : Sow 1 (.slice (some ⟨b0, 0, some 0⟩) 32 32) V.length (iz .u8 V) [(b0, .cells (iz .u8 V) false 0)] := by
    have := Sow.piece (b := b0) (off := 0) (sp := some 0) (n := 32) (c := 32) (cs := iz .u8 V) (ro := false) (e := 0) (by simp [iz, hV])
    rw [List.drop_zero, List.take_of_length_le (by simp [iz, hV])] at this
    rw [hV]; exact this
  obtain ⟨s16, hi, A16, e16, l16, o10⟩ := join_ok (n := n) (P := [(s9, [72, 79, 77, 69, 1, k]), (.slice (some ⟨b4, 0, some 0⟩) 22 22, List.replicate 22 0), (.slice (some ⟨b0, 0, some 0⟩) 32 32, V)]) (u := .slice (some ⟨b5, 0, some 0⟩) 3 3)
    (G := (b5, .cells [s9, .slice (some ⟨b4, 0, some 0⟩) 22 22, .slice (some ⟨b0, 0, some 0⟩) 32 32] false 1) :: (b4, .cells (iz .u8 (List.replicate 22 0)) false 1) :: (b0, .cells (iz .u8 V) false 0) :: A9) (h := hg) (F := F)
    ((lits (b := b5) (vs := [s9, .slice (some ⟨b4, 0, some 0⟩) 22 22, .slice (some ⟨b0, 0, some 0⟩) 32 32])).mono fun x hx => by simp only [List.mem_singleton] at hx; subst hx; exact List.mem_cons_self ..) (by
      intro x hx
      simp only [List.mem_cons, List.not_mem_nil, or_false] at hx
      rcases hx with rfl | rfl | rfl
      · exact l9.sow.mono fun x hx => by simp [hx]
      · exact (sl b4 (List.replicate 22 0)).mono (by simp)
      · exact sv.mono (by simp)) (o9.to fun x => by simp only [cnt_append, cnt_cons, cnt_nil]; omega) (by simp [hV]) (by simp) hn
  have hf16 : ([(s9, ([72, 79, 77, 69, 1, k] : List Int)), (.slice (some ⟨b4, 0, some 0⟩) 22 22, List.replicate 22 0), (.slice (some ⟨b0, 0, some 0⟩) 32 32, V)] : List (Value × List Int)).flatMap (·.2) = encH k V := by
    simp only [List.flatMap_cons, List.flatMap_nil, List.append_nil, encH]
  rw [hf16, encH_len hV] at l16
  have o11 : Own hi (A16 ++ F) := o10.to fun x => by simp only [cnt_append, cnt_cons, cnt_nil]; omega
  have o12 := o11.new (.cells [s16] false 1)
  generalize hb6 : hi.next = b6 at o12
  generalize hhj : hi.new (.cells [s16] false 1) = hj at o12
  have hbt := encH_byt h1 h2 hb
  have e19 := of_ok (n := n) (o12.get tabO (List.mem_cons_of_mem _ (List.mem_append_right _ hm))) (L := encH k V) (s := s16) (u := .slice (some ⟨b6, 0, some 0⟩) 1 1) (G := (b6, .cells [s16] false 1) :: A16) (h := hj) (F := F) hbt (by rw [encH_len hV]; exact l16.sow.mono fun x hx => by simp [hx]) ((lits (b := b6) (vs := [s16])).mono fun x hx => by simp only [List.mem_singleton] at hx; subst hx; exact List.mem_cons_self ..) (o12.to fun x => by simp only [cnt_append, cnt_cons, cnt_nil]; omega) (by rw [encH_len hV]; omega) hn
  have hw64 : IntKind.u64.wrap ((crc (encH k V) : Nat) : Int) = ((crc (encH k V) : Nat) : Int) := wrap_u64 (by omega) (by have := crc_lt hbt; omega)
  obtain ⟨s20, hk', A20, e20, l20, o13⟩ := oput_ok (n := n) (crc_lt hbt) o12.tail hn
  have o14 := o13.new (.cells [s16, s20] false 1)
  generalize hb7 : hk'.next = b7 at o14
  generalize hhl : hk'.new (.cells [s16, s20] false 1) = hl at o14
  obtain ⟨s23, hm, A23, e23, l23, o15⟩ := join_ok (n := n) (P := [(s16, encH k V), (s20, le (crc (encH k V)) 4)]) (u := .slice (some ⟨b7, 0, some 0⟩) 2 2) (G := (b7, .cells [s16, s20] false 1) :: (A16 ++ A20)) (h := hl) (F := F)
    ((lits (b := b7) (vs := [s16, s20])).mono fun x hx => by simp only [List.mem_singleton] at hx; subst hx; exact List.mem_cons_self ..) (by
      intro x hx
      simp only [List.mem_cons, List.not_mem_nil, or_false] at hx
      rcases hx with rfl | rfl
      · show Sow 1 s16 (encH k V).length _ _
        rw [encH_len hV]; exact l16.sow.mono fun x hx => by simp [hx]
      · show Sow 1 s20 (le _ 4).length _ _
        rw [le_len]; exact l20.sow.mono fun x hx => by simp [hx]) (o14.to fun x => by simp only [cnt_append, cnt_cons, cnt_nil]; omega) (by simp [encH_len hV, le_len]) (by simp) hn
  have hf23 : ([(s16, encH k V), (s20, le (crc (encH k V)) 4)] : List (Value × List Int)).flatMap (·.2) = enc k V := by
    simp only [List.flatMap_cons, List.flatMap_nil, List.append_nil, enc]
  rw [hf23, enc_len hV] at l23
  refine ⟨s23, hm, A23, ?_, l23, o15.to fun x => by simp only [cnt_append, cnt_cons, cnt_nil]; omega⟩
  have c1 : (cellsOf (.agg ⟨iz .u8 V⟩)).all isCell = true := iz_cell
  have c2 : cellsOf (.agg ⟨iz .u8 V⟩) = iz .u8 V := rfl
  have wk : IntKind.u8.wrap k = k := by
    have : k % 256 = k := Int.emod_eq_of_lt (by omega) (by omega)
    simpa [IntKind.wrap, IntKind.signed, IntKind.bits] using this
  have f1 : fillL (List.replicate 4 (.int .u8 0)) [(0, 1, .int .u8 72), (1, 1, .int .u8 79), (2, 1, .int .u8 77), (3, 1, .int .u8 69)] = some (iz .u8 [72, 79, 77, 69]) := rfl
  have f2 : fillL [.int .u8 0, .int .u8 0] [(0, 1, .int .u8 1), (1, 1, .int .u8 k)] = some (iz .u8 [1, k]) := rfl
  have f3 : fillL [.slice none 0 0, .slice none 0 0] [(0, 1, .slice (some ⟨b1, 0, some 0⟩) 4 4), (1, 1, .slice (some ⟨b2, 0, some 0⟩) 2 2)] = some [.slice (some ⟨b1, 0, some 0⟩) 4 4, .slice (some ⟨b2, 0, some 0⟩) 2 2] := rfl
  have f4 : fillL [.slice none 0 0, .slice none 0 0, .slice none 0 0] [(0, 1, s9), (1, 1, .slice (some ⟨b4, 0, some 0⟩) 22 22), (2, 1, .slice (some ⟨b0, 0, some 0⟩) 32 32)] = some [s9, .slice (some ⟨b4, 0, some 0⟩) 22 22, .slice (some ⟨b0, 0, some 0⟩) 32 32] := by
    obtain ⟨a, c, rfl⟩ := l9.form; rfl
  have f5 : fillL [.slice none 0 0] [(0, 1, s16)] = some [s16] := by obtain ⟨a, c, rfl⟩ := l16.form; rfl
  have f6 : fillL [.slice none 0 0, .slice none 0 0] [(0, 1, s16), (1, 1, s20)] = some [s16, s20] := by
    obtain ⟨a, c, rfl⟩ := l16.form
    obtain ⟨a, c, rfl⟩ := l20.form; rfl
  have w22 : IntKind.i64.wrap (28 - ((6 : Nat) : Int)) = ((22 : Nat) : Int) := by decide
  have hl9 : lenB s9 = some 6 := l9.lenB
  simp only [f_home_Encode, c1, iz_cell, cond_true, c2, bnd_eq, hh0, f_home_block, h1, decide_true, h2, Option.bind_some, Bool.not_true, cond_false, f1, hb1, hh1, mk, wk, f2, hhc, hb2, f3, hhd, hb3, e9, hl9, w22, hb4, m1, hhf]
  simp only [ar, nwA_eq, hb0, Option.bind_some, f4, bnd_eq, hhg, hb5, e16, f5, hhj, hb6, e19, hw64, e20, f6, hhl, hb7, e23, l23.notT, Bool.not_false, cond_true]
end
end Go.Proofs.YtdlfdieehioolaaDoor
/- Homes: Decode. -/
namespace Go.Proofs.YtdlfdieehioolaaDoor
set_option linter.unusedVariables false
set_option linter.unusedSimpArgs false
section
variable {n : Nat} {h : Heap} {F G : Ch} {s u : Value} {L V B : List Int} {k : Int}
theorem eq_ok {A : List Int} {m : Nat} (ha : A.length = m) (hb : B.length = m) : eqVals h (.agg (List.replicate m false)) (.agg ⟨iz .u8 A⟩) (.agg ⟨iz .u8 B⟩) = some (decide (A = B)) := by
  have := eqCells_iz (k := .u8) ha hb
  exact this
end
end Go.Proofs.YtdlfdieehioolaaDoor
/- HomeBack. -/
namespace Go.Proofs.YtdlfdieehioolaaDoor
set_option linter.unusedVariables false
set_option linter.unusedSimpArgs false
section
variable {n : Nat} {h : Heap} {F G : Ch} {s u3 : Value} {L V B : List Int} {k m : Int}
abbrev tabP : Nat × AObj := (0, .cells tab1.cells true 0)
end
end Go.Proofs.YtdlfdieehioolaaDoor
/- HdB: put together from SxA Sx1 Sx2 Sx5 Sx7 Sx8 Sx10. -/
namespace Go.Proofs.YtdlfdieehioolaaDoor
open Go
set_option linter.unusedVariables false
set_option linter.unusedSimpArgs false
/- ==== from SxA -/
/- ==== from Sk1 -/
def wc (w : Int × List Int) : List Value := .int .i64 w.1 :: iz .u8 w.2
structure Okd (ds : List (List Int)) (ws : List (Int × List Int)) : Prop where
  d : ∀ d ∈ ds, (iz .u8 d).length = 64
  w : ∀ w ∈ ws, (wc w).length = 65
  r : ∀ w ∈ ws, 0 ≤ w.1 ∧ w.1 < ds.length
def Dk (p : Nat) (ds : List (List Int)) (ws : List (Int × List Int)) (L : Ch) : Prop :=
  ∃ sd sw A B, Slc 64 sd ds.length (ds.flatMap (iz .u8)) A ∧ Slc 65 sw ws.length (ws.flatMap wc) B ∧ Okd ds ws ∧ L = (p, .cells [sd, sw] false 0) :: (A ++ B)
section
variable {n p : Nat} {sp : Option Nat} {ds : List (List Int)} {ws : List (Int × List Int)} {L F G : Ch} {h : Heap} {i : Int} {s u : Value} {X : List Int}
theorem asked_ok (hd : Dk p ds ws L) (ho : Own h (L ++ F)) (h0 : 0 ≤ i) (h1 : i < ds.length) : f_sector_Disk_asked n (some ⟨p, 0, sp⟩) i h = some ((0, ()), h) := by
  obtain ⟨sd, sw, A, B, a1, a2, a3, rfl⟩ := hd
  have hg := ho.head
  have e1 : ¬ i < 0 := by omega
  have e2 : ¬ (ds.length : Int) ≤ i := by omega
  simp [f_sector_Disk_asked, ldT_of hg, a1.lenB, e1, e2]
theorem write_ok (hd : Dk p ds ws L) (hu : Sow 1 u 64 (iz .u8 X) G) (ho : Own h (L ++ (G ++ F))) (h0 : 0 ≤ i) (h1 : i < ds.length) (hlen : ws.length ≤ 1000) (hne : ∃ b k c, u = .slice (some b) k c) :
    ∃ h' L', f_sector_Disk_Write n (some ⟨p, 0, sp⟩) i u h = some ((0, ()), h') ∧ Dk p ds (ws ++ [(i, X)]) L' ∧ Own h' (L' ++ (G ++ F)) := by
  have ha := asked_ok (n := n) (sp := sp) hd ho h0 h1
  obtain ⟨sd, sw, A, B, a1, a2, a3, rfl⟩ := hd
  have hg := ho.head
  have hr := hu.rds (h := h) (F := (p, .cells [sd, sw] false 0) :: (A ++ B ++ F)) (ho.to fun x => by simp only [cnt_append, cnt_cons, cnt_nil]; omega)
  obtain ⟨b, k, c, rfl⟩ := hne
  obtain rfl : k = 64 := by have := hr.lenB; simpa using this
  have hX : (iz .u8 X).length = 64 := hr.len
  obtain ⟨a', c', e', src⟩ := hr.src
  cases e'
  have src' : readCells h b.block b.off 64 = some (iz .u8 X) := src
  have hld : ldA 64 h (some ⟨b.block, b.off, none⟩) = some (iz .u8 X) := src'
  have f1 : fillL (.int .i64 0 :: List.replicate 64 (.int .u8 0)) [(0, 1, .int .i64 i), (1, 64, .agg ⟨iz .u8 X⟩)] = some (wc (i, X)) := by
    have c1 : (Nat.beq (cellsOf (.agg ⟨iz .u8 X⟩)).length 64 && Nat.ble (1 + 64) (writeAt (.int .i64 0 :: List.replicate 64 (.int .u8 0)) 0 [.int .i64 i]).length && (cellsOf (.agg ⟨iz .u8 X⟩)).all isCell) = true := by
      show (Nat.beq (iz .u8 X).length 64 && true && (iz .u8 X).all isCell) = true
      rw [hX, iz_cell]; rfl
    show (bif (Nat.beq (cellsOf (.agg ⟨iz .u8 X⟩)).length 64 && Nat.ble (1 + 64) (writeAt (.int .i64 0 :: List.replicate 64 (.int .u8 0)) 0 [.int .i64 i]).length && (cellsOf (.agg ⟨iz .u8 X⟩)).all isCell) then some (writeAt (writeAt (.int .i64 0 :: List.replicate 64 (.int .u8 0)) 0 [.int .i64 i]) 1 (iz .u8 X)) else none) = _
    rw [c1, cond_true]
    show some (writeAt (.int .i64 i :: List.replicate 64 (.int .u8 0)) 1 (iz .u8 X)) = _
    rw [writeAt_tail (by rw [hX]; rfl)]; rfl
  have hwc : (wc (i, X)).length = 65 := by simp only [wc, List.length_cons, hX]
  have hwa : (wc (i, X)).all isCell = true := by simp only [wc, List.all_cons, iz_cell]; rfl
  have f2 : fillL (.int .i64 0 :: List.replicate 64 (.int .u8 0)) [(0, 65, .agg ⟨wc (i, X)⟩)] = some (wc (i, X)) := by
    show (bif (Nat.beq (wc (i, X)).length 65 && true && (wc (i, X)).all isCell) then some (writeAt (.int .i64 0 :: List.replicate 64 (.int .u8 0)) 0 (wc (i, X))) else none) = _
    rw [hwc, hwa]
    show some (writeAt _ 0 _) = _
    rw [writeAt_all (by rw [hwc]; rfl)]
  obtain ⟨s', h1', B', e1, e2, e3⟩ := a2.push (new := wc (i, X)) (F := (p, .cells [sd, sw] false 0) :: (A ++ (G ++ F))) (ho.to fun x => by simp only [cnt_append, cnt_cons, cnt_nil, List.cons_append]; omega) (by decide) hwc (bytes := 72) (by omega)
  have e4 : Own h1' ((p, .cells [sd, sw] false 0) :: (A ++ B' ++ (G ++ F))) := e3.to fun x => by simp only [cnt_append, cnt_cons, cnt_nil]; omega
  refine ⟨_, _, ?_, ⟨sd, s', A, B', a1, by simpa using e2, ⟨a3.d, fun w hw => ?_, fun w hw => ?_⟩, rfl⟩, e4.put (.cells [sd, s'] false 0)⟩
  · simp only [f_sector_Disk_Write, ha, Option.bind_some, decide_true, Bool.not_true, cond_false, lenB_slice]
    rw [show (!decide (((64 : Nat) : Int) = 64)) = false from rfl, cond_false]
    have ar : arrB h 64 (.slice (some b) 64 c) = some (some ⟨b.block, b.off, none⟩) := rfl
    simp only [ldT_of hg, fa_mk, Nat.zero_add, Option.bind_some, ar, hld, bnd_eq]
    have g1 := f1; have g2 := f2
    simp only [List.replicate] at g1 g2
    simp [g1, g2, e1, stB1_of e4.head e2.cellsOf e2.isCell]
  · rcases List.mem_append.1 hw with hw | hw
    · exact a3.w w hw
    · simp only [List.mem_singleton] at hw; subst hw; exact hwc
  · rcases List.mem_append.1 hw with hw | hw
    · exact a3.r w hw
    · simp only [List.mem_singleton] at hw; subst hw; exact ⟨h0, h1⟩
end
/- ==== from Sk2 -/
theorem iz_rep {k : IntKind} {m : Nat} {z : Int} : iz k (List.replicate m z) = List.replicate m (.int k z) := by simp [iz]
/- ==== from Sk3 -/
def ak (P : Nat → Bool) (ws : List (Int × List Int)) : Nat → List (List Int) → List (List Int)
  | 0, ds => ds
  | j + 1, ds => if P j then (match ws[j]? with | some w => (ak P ws j ds).set w.1.toNat w.2 | none => ak P ws j ds) else ak P ws j ds
section
variable {P : Nat → Bool} {ws : List (Int × List Int)} {ds : List (List Int)} {j : Nat}
theorem ak_succ (hj : j < ws.length) : ak P ws (j + 1) ds = if P j then (ak P ws j ds).set ws[j].1.toNat ws[j].2 else ak P ws j ds := by
  simp only [ak, List.getElem?_eq_getElem hj]
theorem ak_len : (ak P ws j ds).length = ds.length := by
  induction j with
  | zero => rfl
  | succ j ih =>
    simp only [ak]
    split
    · split
      · rw [List.length_set, ih]
      · exact ih
    · exact ih
theorem ak_ok (hd : Okd ds ws) : ∀ d ∈ ak P ws j ds, (iz .u8 d).length = 64 := by
  induction j with
  | zero => exact hd.d
  | succ j ih =>
    simp only [ak]
    split
    · split
      · rename_i w hw
        intro d hm
        rcases List.mem_or_eq_of_mem_set hm with hm | rfl
        · exact ih d hm
        · have := hd.w w (List.mem_of_getElem? hw)
          simpa [wc] using this
      · exact ih
    · exact ih
end
abbrev z65 : List Value := .int .i64 0 :: List.replicate 64 (.int .u8 0)
section
variable {n p t j : Nat} {sp : Option Nat} {ds : List (List Int)} {ws : List (Int × List Int)} {L F G A B : Ch} {h : Heap} {i : Int} {s u sd sw : Value} {X : List Int} {w : Int × List Int}
theorem temp_ok (a2 : Slc 65 sw ws.length (ws.flatMap wc) B) (hk : Okd ds ws) (ho : Own h (B ++ F)) (hj : j < ws.length) :
    ∃ q h', ixB 65 sw (j : Int) = some q ∧ ldA 65 h (some q) = some (wc ws[j]) ∧ stB 65 (.agg ⟨wc ws[j]⟩) (h.new (.cells z65 false 0)) (some ⟨h.next, 0, none⟩) = some h' ∧ Own h' ((h.next, .cells (wc ws[j]) false 0) :: (B ++ F)) := by
  obtain ⟨q, e1, e2⟩ := (a2.rds ho).ix j hj
  rw [flat_get hk.w hj] at e2
  have hl := hk.w _ (List.getElem_mem hj)
  have hc : (wc ws[j]).all isCell = true := by simp only [wc, List.all_cons, iz_cell]; rfl
  have e3 := e2.ldA0 (k := 65) (by rw [hl]; exact Nat.le_refl _)
  rw [List.take_of_length_le (by omega)] at e3
  have o1 := ho.new (.cells z65 false 0)
  refine ⟨q, _, e1, e3, ?_, o1.put (.cells (wc ws[j]) false 0)⟩
  rw [stBA_of o1.head hl hc (by simp), writeAt_all (by rw [hl]; simp)]
theorem apply_ok (a1 : Slc 64 sd ds.length (ds.flatMap (iz .u8)) A) (hd : ∀ d ∈ ds, (iz .u8 d).length = 64) (hw : (wc w).length = 65) (h0 : 0 ≤ w.1) (h1 : w.1 < ds.length)
    (ho : Own h ((t, .cells (wc w) false 0) :: (p, .cells [sd, sw] false 0) :: (A ++ F))) :
    ∃ q h' A', ldT .any h (some ⟨p, 0, none⟩) = some sd ∧ ldT (.int .i64) h (some ⟨t, 0, none⟩) = some w.1 ∧ ldA 64 h (some ⟨t, 1, none⟩) = some (iz .u8 w.2) ∧ ixB 64 sd w.1 = some q ∧ stB 64 (.agg ⟨iz .u8 w.2⟩) h (some q) = some h' ∧
      Slc 64 sd ds.length ((ds.set w.1.toNat w.2).flatMap (iz .u8)) A' ∧ Own h' ((p, .cells [sd, sw] false 0) :: (A' ++ F)) := by
  have hl : (iz .u8 w.2).length = 64 := by simpa [wc] using hw
  have hi : w.1.toNat < ds.length := by omega
  obtain ⟨q, h', A', e1, e2, e3, e4⟩ := slc_set a1 (F := (p, .cells [sd, sw] false 0) :: F) (ho.to fun x => by simp only [cnt_append, cnt_cons]; omega) hi hl iz_cell
  rw [flat_set hd hl hi] at e3
  rw [Int.toNat_of_nonneg h0] at e1
  refine ⟨q, h', A', ?_, ?_, ?_, e1, e2, e3, e4.to fun x => by simp only [cnt_append, cnt_cons]; omega⟩
  · rw [ldT_of ho.tail.head]; rfl
  · rw [ldT_of ho.head]; simp [wc]
  · rw [ldA_of ho.head (by rw [hw]; exact Nat.le_refl _)]
    simp only [wc, List.drop_succ_cons, List.drop_zero]
    rw [List.take_of_length_le (by rw [hl]; exact Nat.le_refl _)]
theorem flush_ok (hd : Dk p ds ws L) (ho : Own h (L ++ F)) (hlen : ws.length ≤ 1000) (hn : 2000 ≤ n) :
    ∃ h' L', f_sector_Disk_Flush n (some ⟨p, 0, sp⟩) h = some (((ws.length : Int), (0, ())), h') ∧ Dk p (ak (fun _ => true) ws ws.length ds) [] L' ∧ Own h' (L' ++ F) := by
  obtain ⟨sd, sw, A, B, a1, a2, a3, rfl⟩ := hd
  have hg := ho.head
  obtain ⟨⟨x, h'⟩, e, A', q1, q2⟩ := loopT_up (f := fun a => f_sector_Disk_Flush_L15 n (some ⟨p, 0, sp⟩) sw ws.length a.1.1 a.2)
    (fun j (a : (Int × Unit) × Heap) => a.1.1 = (j : Int) ∧ ∃ A', Slc 64 sd ds.length ((ak (fun _ => true) ws j ds).flatMap (iz .u8)) A' ∧ Own a.2 ((p, .cells [sd, sw] false 0) :: (A' ++ (B ++ F))))
    (fun r => ∃ A', Slc 64 sd ds.length ((ak (fun _ => true) ws ws.length ds).flatMap (iz .u8)) A' ∧ Own r.2 ((p, .cells [sd, sw] false 0) :: (A' ++ (B ++ F)))) (N := ws.length) (k := n) (j := 0) (a := ((0, ()), h)) (by omega) (by omega)
    ⟨rfl, A, a1, ho.to fun x => by simp only [cnt_append, cnt_cons, List.cons_append]; omega⟩
    (fun j a hj hi => by
      obtain ⟨⟨v, _⟩, h1⟩ := a
      obtain ⟨rfl, A1, hs1, o1⟩ := hi
      have o1 : Own h1 _ := o1
      have hlt : (j : Int) < (ws.length : Int) := by omega
      obtain ⟨q, h2, e1, e2, e3, o2⟩ := temp_ok (F := (p, .cells [sd, sw] false 0) :: (A1 ++ F)) a2 a3 (o1.to fun x => by simp only [cnt_append, cnt_cons]; omega) hj
      generalize ht : h1.next = t at e3 o2
      have hw := a3.r _ (List.getElem_mem hj)
      rw [← ak_len (P := fun _ => true) (ws := ws) (j := j)] at hs1
      obtain ⟨q', h3, A3, g1, g2, g3, g4, g5, g6, o3⟩ := apply_ok (F := B ++ F) (sw := sw) (p := p) (t := t) hs1 (ak_ok a3) (a3.w _ (List.getElem_mem hj)) hw.1 (by rw [ak_len]; exact hw.2) (o2.to fun x => by simp only [cnt_append, cnt_cons]; omega)
      rw [ak_len] at g6
      refine .inl ⟨((((j + 1 : Nat) : Int), ()), h3), ?_, rfl, A3, by rw [ak_succ hj, if_pos rfl]; exact g6, o3⟩
      simp only [z65, List.replicate] at e3
      simp only [f_sector_Disk_Flush_L15, hlt, decide_true, cond_true, e1, e2, Option.bind_some, bnd_eq, nwA_eq, ht, e3, fa_mk, Nat.zero_add, g1, g2, g3, g4, g5, wrap_succ (show j < 4611686018427387904 by omega)])
    (fun a hi => by
      obtain ⟨⟨v, _⟩, h1⟩ := a
      obtain ⟨rfl, A1, hs1, o1⟩ := hi
      exact ⟨((), h1), by simp [f_sector_Disk_Flush_L15], A1, hs1, o1⟩)
  have o2 : Own h' _ := q2
  refine ⟨_, _, ?_, ⟨sd, .slice none 0 0, A', [], by rw [ak_len]; exact q1, .nil, ⟨ak_ok a3, fun _ h => absurd h List.not_mem_nil, fun _ h => absurd h List.not_mem_nil⟩, rfl⟩, (o2.put (.cells [sd, .slice none 0 0] false 0)).to fun x => by simp only [cnt_append, cnt_cons, cnt_nil, List.cons_append]; omega⟩
  have e' : loopT (fun a => f_sector_Disk_Flush_L15 n (some ⟨p, 0, sp⟩) sw ws.length a.1.1 a.2) n ((0, ()), h) = some (x, h') := e
  simp [f_sector_Disk_Flush, ldT_of hg, a2.lenB, e', ldT_of o2.head, stB1_of o2.head (v := .slice none 0 0) rfl rfl]
end
/- ==== from Sk4 -/
theorem flat_rep1 {z : Value} {m : Nat} : (List.replicate m [z]).flatten = List.replicate m z := by
  induction m with
  | zero => rfl
  | succ m ih => simp [List.replicate_succ, ih]
/- ==== from Sk5 -/
/- slices.Clone, of any elements -/
section
variable {n m : Nat} {h : Heap} {s : Value} {cs : List Value} {G F : Ch}
theorem clone1_ok (hr : Sow 1 s m cs G) (ho : Own h (G ++ F)) (hlen : m ≤ 1000000) :
    ∃ s' h' A', f_slices_Clone_byte_byte n s h = some ((s', ()), h') ∧ Slc 1 s' m cs A' ∧ Own h' (A' ++ (G ++ F)) := by
  obtain ⟨a, c, hf, hsrc⟩ := (hr.rds ho).src
  have hcl := (hr.rds ho).len
  subst hf
  cases a with
  | none =>
    have h1 : (some [] : Option (List Value)) = some cs := hsrc
    cases h1
    obtain rfl : m = 0 := by simp at hcl; omega
    exact ⟨.slice none 0 0, h, [], by simp [f_slices_Clone_byte_byte, eqVals_slice_nil], .nil, ho⟩
  | some p =>
    have o1 := ho.new (.cells [] false 1)
    have hs : Slc 1 (.slice (some ⟨h.next, 0, some 0⟩) 0 0) 0 [] [(h.next, .cells ([] ++ ([] ++ [])) false 1)] := .mk rfl rfl rfl
    obtain ⟨s', h', A', e1, e2, e3⟩ := hr.app hs (F := F) o1 (by decide) (bytes := 1) (by omega)
    refine ⟨s', h', A', ?_, by simpa using e2, e3⟩
    have := e2.notT
    simp [f_slices_Clone_byte_byte, eqVals_slice_nil, e1, this]
end
/- ==== from Sk6 -/
section
variable {n p k i es m : Nat} {sp : Option Nat} {ds : List (List Int)} {ws : List (Int × List Int)} {L F G A B : Ch} {h : Heap} {s u : Value} {X K : List Int} {cs : List Value}
theorem slc_part (hs : Slc es s n cs A) (hi : i < n) (sp : Option Nat) : ∃ q, ixB es s (i : Int) = some q ∧ Sow 1 (.slice (some ⟨q.block, q.off, sp⟩) es es) es ((cs.drop (i * es)).take es) A := by
  cases hs with
  | nil => omega
  | @mk' b off sp' _ c pre _ rest hp hl hr =>
    subst hp
    have h1 : (i + 1) * es ≤ n * es := Nat.mul_le_mul_right es hi
    rw [Nat.add_mul, Nat.one_mul] at h1
    refine ⟨⟨b, pre.length + i * es, none⟩, ?_, ?_⟩
    · show (bif Nat.blt i n then _ else none) = _
      rw [show Nat.blt i n = true from Nat.ble_eq_true_of_le hi]; rfl
    · have := Sow.piece (b := b) (off := pre.length + i * es) (n := es) (c := es) (sp := sp) (cs := pre ++ (cs ++ rest)) (ro := false) (e := es) (by simp; omega)
      rwa [← List.drop_drop, List.drop_left, List.drop_append_of_le_length (by omega), List.take_append_of_le_length (by simp; omega)] at this
end
/- ==== from Sx1 -/
def rdv (ws : List (Int × List Int)) (i : Int) (d : List Int) : List Int := ws.foldl (fun a w => if w.1 = i then w.2 else a) d
theorem rdv_snoc {ws : List (Int × List Int)} {w : Int × List Int} {i : Int} {d : List Int} : rdv (ws ++ [w]) i d = if w.1 = i then w.2 else rdv ws i d := by simp [rdv]
theorem rdv_len {ws : List (Int × List Int)} {i : Int} {d : List Int} (hw : ∀ w ∈ ws, w.2.length = 64) (hd : d.length = 64) : (rdv ws i d).length = 64 := by
  induction ws generalizing d with
  | nil => exact hd
  | cons w ws ih =>
    show (rdv ws i (if w.1 = i then w.2 else d)).length = 64
    refine ih (fun w' h => hw w' (List.mem_cons_of_mem _ h)) ?_
    split
    · exact hw w (List.mem_cons_self ..)
    · exact hd
section
variable {n p i m : Nat} {sp : Option Nat} {ds : List (List Int)} {ws : List (Int × List Int)} {L F G A B : Ch} {h : Heap} {z : Int} {s u : Value} {X K : List Int} {cs : List Value}
theorem asked_bad (hd : Dk p ds ws L) (ho : Own h (L ++ F)) (hz : z < 0 ∨ (ds.length : Int) ≤ z) : f_sector_Disk_asked n (some ⟨p, 0, sp⟩) z h = some ((40, ()), h) := by
  obtain ⟨sd, sw, A, B, a1, a2, a3, rfl⟩ := hd
  have hg := ho.head
  by_cases h0 : z < 0
  · simp [f_sector_Disk_asked, h0]
  · have h1 : (ds.length : Int) ≤ z := by omega
    simp [f_sector_Disk_asked, ldT_of hg, a1.lenB, h0, h1]
theorem write_bad (hd : Dk p ds ws L) (ho : Own h (L ++ F)) (hz : z < 0 ∨ (ds.length : Int) ≤ z) : f_sector_Disk_Write n (some ⟨p, 0, sp⟩) z u h = some ((40, ()), h) := by
  have ha := asked_bad (n := n) (sp := sp) hd ho hz
  simp [f_sector_Disk_Write, ha]
theorem write_len (hd : Dk p ds ws L) (ho : Own h (L ++ F)) (h0 : 0 ≤ z) (h1 : z < ds.length) (hl : lenB u = some m) (hm : m ≠ 64) : f_sector_Disk_Write n (some ⟨p, 0, sp⟩) z u h = some ((2, ()), h) := by
  have ha := asked_ok (n := n) (sp := sp) hd ho h0 h1
  have : ¬ (m : Int) = 64 := by omega
  simp [f_sector_Disk_Write, ha, hl, this]
theorem len_ok (hd : Dk p ds ws L) (ho : Own h (L ++ F)) : f_sector_Disk_Len n (some ⟨p, 0, sp⟩) h = some (((ds.length : Int), ()), h) := by
  obtain ⟨sd, sw, A, B, a1, a2, a3, rfl⟩ := hd
  have hg := ho.head
  simp [f_sector_Disk_Len, ldT_of hg, a1.lenB]
theorem read_bad (hd : Dk p ds ws L) (ho : Own h (L ++ F)) (hz : z < 0 ∨ (ds.length : Int) ≤ z) :
    ∃ h', f_sector_Disk_Read n (some ⟨p, 0, none⟩) z h = some ((.slice none 0 0, (40, ())), h') ∧ Own h' (L ++ F) := by
  have o1 := ho.new (.cells [.int .i64 z] false 0)
  generalize hb0 : h.next = b0 at o1
  generalize hh1 : h.new (.cells [.int .i64 z] false 0) = h1 at o1
  have o2 := o1.new (.cells [.slice none 0 0] false 0)
  generalize hb1 : h1.next = b1 at o2
  generalize hh2 : h1.new (.cells [.slice none 0 0] false 0) = h2 at o2
  have o3 := o2.new (.cells [.int .i64 0] false 0)
  generalize hb2 : h2.next = b2 at o3
  generalize hh3 : h2.new (.cells [.int .i64 0] false 0) = h3 at o3
  have ha := asked_bad (n := n) (sp := none) hd (F := (b2, .cells [.int .i64 0] false 0) :: (b1, .cells [.slice none 0 0] false 0) :: (b0, .cells [.int .i64 z] false 0) :: F) (h := h3) (o3.to fun x => by simp only [cnt_append, cnt_cons]; omega) hz
  have l0 : ldT (.int .i64) h3 (some ⟨b0, 0, none⟩) = some z := by rw [ldT_of (o3.get (b0, .cells [.int .i64 z] false 0) (by simp))]; simp
  have o7 : Own h3 ((b1, .cells [.slice none 0 0] false 0) :: (b2, .cells [.int .i64 0] false 0) :: (L ++ F)) := o3.to fun x => by simp only [cnt_append, cnt_cons]; omega
  have e6 := stB1_of (sp := none) (o := 0) (v := .slice none 0 0) o7.head rfl rfl (by decide)
  have o8 := o7.put (.cells [.slice none 0 0] false 0)
  simp only [List.set_cons_zero] at e6
  generalize hh7 : h3.put b1 (.cells [.slice none 0 0] false 0) = h7 at e6 o8
  have o9 : Own h7 ((b2, .cells [.int .i64 0] false 0) :: (b1, .cells [.slice none 0 0] false 0) :: (L ++ F)) := o8.to fun x => by simp only [cnt_append, cnt_cons]; omega
  have e7 := stB1_of (sp := none) (o := 0) (v := .int .i64 40) o9.head rfl rfl (by decide)
  have o10 := o9.put (.cells [.int .i64 40] false 0)
  simp only [List.set_cons_zero] at e7
  generalize hh8 : h7.put b2 (.cells [.int .i64 40] false 0) = h8 at e7 o10
  have l7 : ldT .any h8 (some ⟨b1, 0, none⟩) = some (.slice none 0 0) := by rw [ldT_of (o10.get (b1, .cells [.slice none 0 0] false 0) (by simp))]; rfl
  have l8 : ldT (.int .i64) h8 (some ⟨b2, 0, none⟩) = some 40 := by rw [ldT_of o10.head]; rfl
  refine ⟨h8, ?_, o10.tail.tail⟩
  simp only [f_sector_Disk_Read, bnd_eq, hh1, hh2, hh3, nwA_eq, hb0, hb1, hb2, l0, Option.bind_some, ha]
  simp [e6, e7, l7, l8, isTuple]
theorem read_any (hd : Dk p ds ws L) (ho : Own h (L ++ F)) (hi : i < ds.length) (hW : ws.length ≤ 1000) (hn : 2000 ≤ n) :
    ∃ s h' A', f_sector_Disk_Read n (some ⟨p, 0, none⟩) (i : Int) h = some ((s, (0, ())), h') ∧ Slc 1 s 64 (iz .u8 (rdv ws i ds[i])) A' ∧ Own h' (A' ++ (L ++ F)) := by
  have o1 := ho.new (.cells [.int .i64 (i : Int)] false 0)
  generalize hb0 : h.next = b0 at o1
  generalize hh1 : h.new (.cells [.int .i64 (i : Int)] false 0) = h1 at o1
  have o2 := o1.new (.cells [.slice none 0 0] false 0)
  generalize hb1 : h1.next = b1 at o2
  generalize hh2 : h1.new (.cells [.slice none 0 0] false 0) = h2 at o2
  have o3 := o2.new (.cells [.int .i64 0] false 0)
  generalize hb2 : h2.next = b2 at o3
  generalize hh3 : h2.new (.cells [.int .i64 0] false 0) = h3 at o3
  have ha := asked_ok (n := n) (sp := none) (i := (i : Int)) hd (F := (b2, .cells [.int .i64 0] false 0) :: (b1, .cells [.slice none 0 0] false 0) :: (b0, .cells [.int .i64 (i : Int)] false 0) :: F) (h := h3) (o3.to fun x => by simp only [cnt_append, cnt_cons]; omega) (by omega) (by omega)
  obtain ⟨sd, sw, A, B, a1, a2, a3, rfl⟩ := hd
  have g3 := o3.get (p, .cells [sd, sw] false 0) (by simp)
  have l1 : ldT .any h3 (some ⟨p, 1, none⟩) = some sw := by rw [ldT_of g3]; rfl
  have l0 : ldT (.int .i64) h3 (some ⟨b0, 0, none⟩) = some (i : Int) := by rw [ldT_of (o3.get (b0, .cells [.int .i64 (i : Int)] false 0) (by simp))]; simp
  have o4 := o3.new (.cells [sw] false 0)
  generalize hb3 : h3.next = b3 at o4
  generalize hh4 : h3.new (.cells [sw] false 0) = h4 at o4
  have o5 := o4.hole.hole
  generalize hh5 : h4.hole.hole = h5 at o5
  have lw : ldT .any h5 (some ⟨b3, 0, none⟩) = some sw := by rw [ldT_of o5.head]; rfl
  have hl0 : lenB sw = some ws.length := a2.lenB
  have hcs := a2.cellsOf
  have hbw : f_slices_Backward_sector_waiting_sector_waiting n sw h3 = some ((((some ⟨b3, 0, none⟩), ()), ()), h4) := by
    have : ([sw] : List Value).all isCell = true := by simp [a2.isCell]
    simp only [f_slices_Backward_sector_waiting_sector_waiting, hcs, this, cond_true, bnd_eq, hh4, nwA_eq, hb3]
  have hw : IntKind.i64.wrap ((ws.length : Int) - 1) = (ws.length : Int) - 1 := wrap_i64 (by omega) (by omega)
  -- the writes, the last one first
  let Fr : Ch := (p, .cells [sd, sw] false 0) :: (A ++ (B ++ F))
  let C0 : Ch := [(b0, .cells [.int .i64 (i : Int)] false 0), (b3, .cells [sw] false 0)]
  obtain ⟨⟨h6, c6⟩, e6, q6⟩ := loopT_up (f := fun a => f_slices_Backward_sector_waiting_sector_waiting_1_L8 (V := Heap × Nat) (fun v => v.1) (fun v h => (h, v.2)) (fun a v => f_sector_Disk_Read_B23 n h h1 h2 a.1 a.2.1 v) n (some ⟨b3, 0, none⟩) a.1.1 a.2)
    (fun j (a : (Int × Unit) × (Heap × Nat)) => a.1.1 = (ws.length : Int) - 1 - j ∧ a.2.2 = 0 ∧ rdv (ws.take (ws.length - j)) i ds[i] = rdv ws i ds[i] ∧ Own a.2.1 ((b2, .cells [.int .i64 0] false 0) :: (b1, .cells [.slice none 0 0] false 0) :: (C0 ++ Fr)))
    (fun r => (r.2 = 0 ∧ rdv ws i ds[i] = ds[i] ∧ Own r.1 ((b2, .cells [.int .i64 0] false 0) :: (b1, .cells [.slice none 0 0] false 0) :: (C0 ++ Fr))) ∨
      (r.2 = 1 ∧ ∃ s A', Slc 1 s 64 (iz .u8 (rdv ws i ds[i])) A' ∧ Own r.1 ((b2, .cells [.int .i64 0] false 0) :: (b1, .cells [s] false 0) :: (A' ++ Fr))))
    (N := ws.length) (k := n) (j := 0) (a := (((ws.length : Int) - 1, ()), (h5, 0))) (by omega) (by omega)
    ⟨by simp, rfl, by simp, o5.to fun x => by simp only [C0, Fr, cnt_append, cnt_cons, cnt_nil, List.cons_append]; omega⟩
    (fun j a hj hi' => by
      obtain ⟨⟨v, _⟩, h1', c⟩ := a
      obtain ⟨rfl, rfl, i3, i4⟩ := hi'
      have i3 : rdv (ws.take (ws.length - j)) i ds[i] = rdv ws i ds[i] := i3
      have i4 : Own h1' _ := i4
      have hk : ws.length - 1 - j < ws.length := by omega
      have hv : (ws.length : Int) - 1 - j = ((ws.length - 1 - j : Nat) : Int) := by omega
      have hv2 : IntKind.i64.wrap ((ws.length : Int) - 1 - j - 1) = (ws.length : Int) - 1 - ((j + 1 : Nat) : Int) := by rw [wrap_i64 (by omega) (by omega)]; omega
      have hp0 : (0 : Int) ≤ ((ws.length - 1 - j : Nat) : Int) := by omega
      generalize hkk : ws.length - 1 - j = k at hk hv hp0
      have lw' : ldT .any h1' (some ⟨b3, 0, none⟩) = some sw := by rw [ldT_of (i4.get (b3, .cells [sw] false 0) (by simp [C0]))]; rfl
      have l0' : ∀ {g : Heap} {F' : Ch}, Own g ((b0, .cells [.int .i64 (i : Int)] false 0) :: F') → ldT (.int .i64) g (some ⟨b0, 0, none⟩) = some (i : Int) := fun o => by rw [ldT_of o.head]; simp
      obtain ⟨q, h2', e1, e2, e3, oo⟩ := temp_ok (j := k) (F := (b2, .cells [.int .i64 0] false 0) :: (b1, .cells [.slice none 0 0] false 0) :: (C0 ++ (p, .cells [sd, sw] false 0) :: (A ++ F))) a2 a3 (i4.to fun x => by simp only [C0, Fr, cnt_append, cnt_cons, cnt_nil, List.cons_append]; omega) hk
      generalize ht : h1'.next = t at e3 oo
      have lt : ldT (.int .i64) h2' (some ⟨t, 0, none⟩) = some ws[k].1 := by rw [ldT_of oo.head]; simp [wc]
      have oo2 : Own h2' ((b0, .cells [.int .i64 (i : Int)] false 0) :: (t, .cells (wc ws[k]) false 0) :: ((b2, .cells [.int .i64 0] false 0) :: (b1, .cells [.slice none 0 0] false 0) :: ((b3, .cells [sw] false 0) :: Fr))) := oo.to fun x => by simp only [C0, Fr, cnt_append, cnt_cons, cnt_nil, List.cons_append]; omega
      have lb := l0' oo2
      have htk : ws.take (ws.length - j) = ws.take k ++ [ws[k]] := by rw [show ws.length - j = k + 1 by omega, take_snoc hk]
      rw [htk, rdv_snoc] at i3
      simp only [z65, List.replicate] at e3
      by_cases hs : ws[k].1 = (i : Int)
      · rw [if_pos hs] at i3
        have hX : (iz .u8 ws[k].2).length = 64 := by have := a3.w _ (List.getElem_mem hk); simpa [wc] using this
        have e4 : sliceArrK h2' 64 1 none none (.pointer (some ⟨t, 1, none⟩)) = some (.slice (some ⟨t, 1, some 0⟩) 64 64, h2') := rfl
        have hpc := Sow.piece (b := t) (off := 1) (n := 64) (c := 64) (sp := some 0) (cs := wc ws[k]) (ro := false) (e := 0) (by have := a3.w _ (List.getElem_mem hk); omega)
        have hpc' : Sow 1 (.slice (some ⟨t, 1, some 0⟩) 64 64) 64 (iz .u8 ws[k].2) [(t, .cells (wc ws[k]) false 0)] := by
          have : ((wc ws[k]).drop 1).take 64 = iz .u8 ws[k].2 := by
            show (iz .u8 ws[k].2).take 64 = _
            rw [List.take_of_length_le (by omega)]
          rwa [this] at hpc
        obtain ⟨s', h3', A', e5, e6, o6⟩ := clone1_ok (n := n) hpc' (F := (b1, .cells [.slice none 0 0] false 0) :: (b2, .cells [.int .i64 0] false 0) :: Fr) (h := h2') (oo2.to fun x => by simp only [C0, Fr, cnt_append, cnt_cons, cnt_nil, List.cons_append]; omega) (by omega)
        have o7 : Own h3' ((b1, .cells [.slice none 0 0] false 0) :: (b2, .cells [.int .i64 0] false 0) :: (A' ++ Fr)) := o6.to fun x => by simp only [cnt_append, cnt_cons, cnt_nil]; omega
        have e7 := stB1_of (sp := none) (o := 0) (v := s') o7.head e6.cellsOf e6.isCell (by decide)
        have o8 := o7.put (.cells [s'] false 0)
        simp only [List.set_cons_zero] at e7
        generalize hh7 : h3'.put b1 (.cells [s'] false 0) = h7 at e7 o8
        have o9 : Own h7 ((b2, .cells [.int .i64 0] false 0) :: (b1, .cells [s'] false 0) :: (A' ++ Fr)) := o8.to fun x => by simp only [cnt_append, cnt_cons]; omega
        have e8 := stB1_of (sp := none) (o := 0) (v := .int .i64 0) o9.head rfl rfl (by decide)
        have o10 := o9.put (.cells [.int .i64 0] false 0)
        simp only [List.set_cons_zero] at e8
        refine .inr ⟨(_, 1), ?_, .inr ⟨rfl, s', A', by rw [← i3]; exact e6, o10⟩⟩
        simp only [f_slices_Backward_sector_waiting_sector_waiting_1_L8, hv, hp0, decide_true, cond_true, lw', Option.bind_some, e1, e2, f_sector_Disk_Read_B23, nat_beq_eq, bnd_eq, nwA_eq, ht, e3, fa_mk, Nat.zero_add, lt, hb0, lb, hs, e4, e5, hb1, e7, hb2, e8, Bool.not_false]
        rfl
      · rw [if_neg hs] at i3
        refine .inl ⟨(((ws.length : Int) - 1 - ((j + 1 : Nat) : Int), ()), (h2', 0)), ?_, rfl, rfl, ?_, oo2.to fun x => by simp only [C0, Fr, cnt_append, cnt_cons, cnt_nil, List.cons_append]; omega⟩
        · rw [hv] at hv2
          simp only [f_slices_Backward_sector_waiting_sector_waiting_1_L8, hv, hp0, decide_true, cond_true, lw', Option.bind_some, e1, e2, f_sector_Disk_Read_B23, nat_beq_eq, bnd_eq, nwA_eq, ht, e3, fa_mk, Nat.zero_add, lt, hb0, lb, hs, decide_false, cond_false, Bool.not_true, hv2]
        · rw [show ws.length - (j + 1) = k by omega]; exact i3)
    (fun a hi' => by
      obtain ⟨⟨v, _⟩, h1', c⟩ := a
      obtain ⟨rfl, rfl, i3, i4⟩ := hi'
      have hneg : ¬ (0 : Int) ≤ (ws.length : Int) - 1 - ws.length := by omega
      refine ⟨(h1', 0), by simp only [f_slices_Backward_sector_waiting_sector_waiting_1_L8, decide_eq_false hneg, cond_false], .inl ⟨rfl, ?_, i4⟩⟩
      have i3 : rdv (ws.take (ws.length - ws.length)) i ds[i] = rdv ws i ds[i] := i3
      rw [Nat.sub_self] at i3
      exact i3.symm)
  have hit : f_slices_Backward_sector_waiting_sector_waiting_1 (V := Heap × Nat) (fun v => v.1) (fun v h => (h, v.2)) (fun a v => f_sector_Disk_Read_B23 n h h1 h2 a.1 a.2.1 v) n (some ⟨b3, 0, none⟩) (h5, 0) = some (h6, c6) := by
    simp only [f_slices_Backward_sector_waiting_sector_waiting_1, lw, Option.bind_some, hl0, hw]
    exact e6
  rcases q6 with ⟨q1, q2, q3⟩ | ⟨q1, s', A', q2, q3⟩
  · have q1 : c6 = 0 := q1
    subst q1
    have q3 : Own h6 _ := q3
    have g6 := q3.get (p, .cells [sd, sw] false 0) (by simp [C0, Fr])
    have l5 : ldT .any h6 (some ⟨p, 0, none⟩) = some sd := by rw [ldT_of g6]; rfl
    have l6 : ldT (.int .i64) h6 (some ⟨b0, 0, none⟩) = some (i : Int) := by rw [ldT_of (q3.get (b0, .cells [.int .i64 (i : Int)] false 0) (by simp [C0]))]; simp
    obtain ⟨q, e1, e2⟩ := slc_part a1 hi (some 0)
    rw [flat_get a3.d hi] at e2
    have e3 : sliceArrK h6 64 1 none none (.pointer (some q)) = some (.slice (some ⟨q.block, q.off, some 0⟩) 64 64, h6) := by
      show some (Value.slice (some ⟨q.block, q.off + 0 * 1, some 0⟩) 64 64, h6) = _
      rfl
    obtain ⟨s', h7, A', e4, e5, o6⟩ := clone1_ok (n := n) (G := A) e2 (F := (b1, .cells [.slice none 0 0] false 0) :: (b2, .cells [.int .i64 0] false 0) :: (p, .cells [sd, sw] false 0) :: (B ++ F)) (h := h6) (q3.to fun x => by simp only [C0, Fr, cnt_append, cnt_cons, cnt_nil, List.cons_append]; omega) (by omega)
    have o7 : Own h7 ((b1, .cells [.slice none 0 0] false 0) :: (b2, .cells [.int .i64 0] false 0) :: (A' ++ ((p, .cells [sd, sw] false 0) :: (A ++ (B ++ F))))) := o6.to fun x => by simp only [cnt_append, cnt_cons]; omega
    have e7 := stB1_of (sp := none) (o := 0) (v := s') o7.head e5.cellsOf e5.isCell (by decide)
    have o8 := o7.put (.cells [s'] false 0)
    simp only [List.set_cons_zero] at e7
    generalize hh7 : h7.put b1 (.cells [s'] false 0) = h8 at e7 o8
    have o9 : Own h8 ((b2, .cells [.int .i64 0] false 0) :: (b1, .cells [s'] false 0) :: (A' ++ ((p, .cells [sd, sw] false 0) :: (A ++ (B ++ F))))) := o8.to fun x => by simp only [cnt_append, cnt_cons]; omega
    have e8 := stB1_of (sp := none) (o := 0) (v := .int .i64 0) o9.head rfl rfl (by decide)
    have o10 := o9.put (.cells [.int .i64 0] false 0)
    simp only [List.set_cons_zero] at e8
    generalize hh8 : h8.put b2 (.cells [.int .i64 0] false 0) = h9 at e8 o10
    have l7 : ldT .any h9 (some ⟨b1, 0, none⟩) = some s' := by rw [ldT_of (o10.get (b1, .cells [s'] false 0) (by simp))]; rfl
    have l8 : ldT (.int .i64) h9 (some ⟨b2, 0, none⟩) = some 0 := by rw [ldT_of o10.head]; rfl
    refine ⟨s', h9, A', ?_, by rw [q2]; exact e5, o10.to fun x => by simp only [cnt_append, cnt_cons, List.cons_append]; omega⟩
    simp only [f_sector_Disk_Read, bnd_eq, hh1, hh2, hh3, nwA_eq, hb0, hb1, hb2, l0, Option.bind_some, ha, decide_true, Bool.not_true, cond_false, fa_mk, Nat.zero_add, l1, hbw, hh5, hit, nat_beq_eq, cond_true, l5, l6, e1, e3, e4, e7, e8, l7, e5.notT, Bool.not_false, l8]
  · have q1 : c6 = 1 := q1
    subst q1
    have q3 : Own h6 _ := q3
    have l7 : ldT .any h6 (some ⟨b1, 0, none⟩) = some s' := by rw [ldT_of (q3.get (b1, .cells [s'] false 0) (by simp))]; rfl
    have l8 : ldT (.int .i64) h6 (some ⟨b2, 0, none⟩) = some 0 := by rw [ldT_of q3.head]; rfl
    refine ⟨s', h6, A', ?_, q2, q3.to fun x => by simp only [Fr, cnt_append, cnt_cons, List.cons_append]; omega⟩
    simp only [f_sector_Disk_Read, bnd_eq, hh1, hh2, hh3, nwA_eq, hb0, hb1, hb2, l0, Option.bind_some, ha, decide_true, Bool.not_true, cond_false, fa_mk, Nat.zero_add, l1, hbw, hh5, hit, show Nat.beq 1 0 = false from rfl, show Nat.beq 1 1 = true from rfl, cond_true, l7, q2.notT, Bool.not_false, l8]
end
/- ==== from Sx2 -/
structure Wx where
  z : Int
  v : Value
  X : List Int
  A : Ch
def Wx.cells (e : Wx) : List Value := [.int .i64 e.z, e.v]
def Wx.key (e : Wx) : Int × List Int := (e.z, e.X)
/- ==== from Sx5 -/
section
variable {n p k i j m : Nat} {sp : Option Nat} {ds D1 : List (List Int)} {ws : List (Int × List Int)} {L F G A B : Ch} {h : Heap} {s u : Value} {X K W : List Int} {cs : List Value}
theorem slc_sub {kk k' : IntKind} (hs : Slc 1 s n cs A) (hij : i ≤ j) (hj : j ≤ n) : ∃ u, sliceK h 1 (some (.int kk (i : Int))) (some (.int k' (j : Int))) none s = some (u, h) ∧ Sow 1 u (j - i) ((cs.drop i).take (j - i)) A := by
  cases hs with
  | nil =>
    obtain rfl : j = 0 := by omega
    obtain rfl : i = 0 := by omega
    exact ⟨_, rfl, Slc.nil.sow⟩
  | @mk' b off sp' _ c pre _ rest hp hl hr =>
    subst hp
    refine ⟨_, sliceK_lh hij (by omega), ?_⟩
    have := Sow.piece (b := b) (off := pre.length + i * 1) (n := j - i) (c := c - i) (sp := sp') (cs := pre ++ (cs ++ rest)) (ro := false) (e := 1) (by simp; omega)
    have e : ((pre ++ (cs ++ rest)).drop (pre.length + i * 1)).take (j - i) = (cs.drop i).take (j - i) := by rw [Nat.mul_one, ← List.drop_drop, List.drop_left, List.drop_append_of_le_length (by omega), List.take_append_of_le_length (by simp; omega)]
    rw [← e]; exact this
theorem iz_flatten {ds : List (List Int)} : iz .u8 ds.flatten = ds.flatMap (iz .u8) := by
  induction ds with
  | nil => rfl
  | cons d ds ih => simp [ih]
end
def Rd' (p : Nat) (ds : List (List Int)) (ws : List (Int × List Int)) (L : Ch) : Prop :=
  ∃ (sd sw : Value) (A B : Ch) (es : List Wx), Slc 1 sd (ds.length * 64) (ds.flatMap (iz .u8)) A ∧ Slc 2 sw es.length (es.flatMap Wx.cells) B ∧ (∀ e ∈ es, Slc 1 e.v e.X.length (iz .u8 e.X) e.A) ∧ es.map Wx.key = ws ∧ Okd ds ws ∧ L = (p, .cells [sd, sw] false 0) :: (A ++ (B ++ es.flatMap Wx.A))
section
variable {n p k i j m : Nat} {sp : Option Nat} {ds : List (List Int)} {ws : List (Int × List Int)} {L F G A B : Ch} {h : Heap} {s u : Value} {X K W : List Int} {cs : List Value} {z : Int} {es : List Wx}
theorem div64 {N : Nat} (h : N ≤ 4096) : IntKind.i64.wrap (Int.tdiv ((N * 64 : Nat) : Int) 64) = (N : Int) := by
  have : Int.tdiv ((N * 64 : Nat) : Int) 64 = ((N * 64 / 64 : Nat) : Int) := rfl
  rw [this, Nat.mul_div_cancel _ (by decide), wrap_i64 (by omega) (by omega)]
end
/- ==== from Sx7 -/
/- ==== from Sx8 -/
section
variable {n p k i j m t : Nat} {sp : Option Nat} {ds : List (List Int)} {ws : List (Int × List Int)} {L F G A B : Ch} {h : Heap} {s u v sd sw : Value} {X K W : List Int} {C : List Value} {z : Int} {es : List Wx} {N : Nat}
theorem load_ok (hu : Slc 1 u (ds.length * 64) (ds.flatMap (iz .u8)) G) (ho : Own h (G ++ F)) (hd : ∀ d ∈ ds, (iz .u8 d).length = 64) (h1 : 1 ≤ ds.length) (h2 : ds.length ≤ 4096) (hn : 5000 ≤ n) :
    ∃ p h' L, f_sector_Load n u h = some ((some ⟨p, 0, none⟩, (0, ())), h') ∧ Dk p ds [] L ∧ Own h' (L ++ (G ++ F)) := by
  have hl := hu.lenB
  have c0 := div64 h2
  have c1 : ¬ (ds.length : Int) < 1 := by omega
  have c2 : Int.tmod ((ds.length * 64 : Nat) : Int) 64 = 0 := by
    rw [Int.tmod_eq_emod_of_nonneg (by omega)]; omega
  have c3 : ¬ 4096 < (ds.length : Int) := by omega
  have hmk := mkSl_of (nx := h.next) (bytes := 64) (es := 64) (zs := List.replicate 64 (.int .u8 0)) (k := .i64) (k' := .i64) (l := ds.length) (c := ds.length) (by omega) (by omega) (by omega)
  have ef : (List.replicate ds.length (List.replicate 64 (Value.int .u8 0))).flatten = (List.replicate ds.length (List.replicate 64 0)).flatMap (iz .u8) := by
    rw [← iz_flatten, List.flatten_replicate_replicate, List.flatten_replicate_replicate, iz_rep]
  have hd0 : ∀ d ∈ List.replicate ds.length (List.replicate 64 (0 : Int)), (iz .u8 d).length = 64 := by
    intro d hd
    rw [List.eq_of_mem_replicate hd]; rfl
  have hfl := flat_len hd0
  rw [List.length_replicate] at hfl
  rw [ef] at hmk
  generalize hD0 : List.replicate ds.length (List.replicate 64 (0 : Int)) = D0 at hmk hfl hd0
  have hD0l : D0.length = ds.length := by rw [← hD0, List.length_replicate]
  have hv : Slc 64 (.slice (some ⟨h.next, 0, some 0⟩) ds.length ds.length) ds.length (D0.flatMap (iz .u8)) [(h.next, .cells ([] ++ (D0.flatMap (iz .u8) ++ [])) false 64)] := .mk rfl hfl (by rw [List.length_nil]; omega)
  have o1 := ho.new (.cells (D0.flatMap (iz .u8)) false 64)
  generalize hb : h.next = b at hmk hv o1
  generalize hh1 : h.new (.cells (D0.flatMap (iz .u8)) false 64) = h1' at o1
  generalize hsd : Value.slice (some ⟨b, 0, some 0⟩) ds.length ds.length = sd at hmk hv
  have o2 := o1.new (.cells [sd, .slice none 0 0] false 0)
  generalize hc : h1'.next = c at o2
  generalize hh2 : h1'.new (.cells [sd, .slice none 0 0] false 0) = h2' at o2
  obtain ⟨⟨x, h'⟩, e, A', q1, q2⟩ := loopT_up (f := fun a => f_sector_Load_L17 n u h1' ds.length a.1.1 a.2)
    (fun j (a : (Int × Unit) × Heap) => a.1.1 = (j : Int) ∧ ∃ (D : List (List Int)) (A' : Ch), D.length = ds.length ∧ (∀ d ∈ D, (iz .u8 d).length = 64) ∧ (∀ (i : Nat) (h1 : i < D.length) (h2 : i < ds.length), i < j → D[i] = ds[i]) ∧ Slc 64 sd ds.length (D.flatMap (iz .u8)) A' ∧
      Own a.2 ((c, .cells [sd, .slice none 0 0] false 0) :: (A' ++ (G ++ F))))
    (fun r => ∃ A', Slc 64 sd ds.length (ds.flatMap (iz .u8)) A' ∧ Own r.2 ((c, .cells [sd, .slice none 0 0] false 0) :: (A' ++ (G ++ F)))) (N := ds.length) (k := n) (j := 0) (a := ((0, ()), h2')) (by omega) (by omega)
    ⟨rfl, D0, _, hD0l, hd0, fun i _ _ h => absurd h (Nat.not_lt_zero _), hv, o2.to fun x => by simp only [cnt_append, cnt_cons, cnt_nil, List.nil_append, List.append_nil]; omega⟩
    (fun j a hj hi => by
      obtain ⟨⟨v, _⟩, h1⟩ := a
      obtain ⟨rfl, D, A1, i1, i2, i3, hs1, o1⟩ := hi
      have o1 : Own h1 _ := o1
      have hlt : (j : Int) < (ds.length : Int) := by omega
      have l0 : ldT .any h1 (some ⟨c, 0, none⟩) = some sd := by rw [ldT_of o1.head]; rfl
      have w1 : IntKind.i64.wrap ((j : Int) * 64) = ((j * 64 : Nat) : Int) := by rw [wrap_i64 (by omega) (by omega)]; omega
      have w2 : IntKind.i64.wrap (((j + 1 : Nat) : Int) * 64) = ((j * 64 + 64 : Nat) : Int) := by rw [wrap_i64 (by omega) (by omega)]; omega
      obtain ⟨u1, e1, r1⟩ := slc_sub (h := h1) (i := j * 64) (j := j * 64 + 64) (kk := .i64) (k' := .i64) hu (by omega) (by omega)
      have hsec : ((ds.flatMap (iz .u8)).drop (j * 64)).take (j * 64 + 64 - j * 64) = iz .u8 ds[j] := by
        rw [Nat.add_sub_cancel_left, flat_get hd hj]
      rw [hsec, Nat.add_sub_cancel_left] at r1
      have hdl := hd _ (List.getElem_mem hj)
      have hr := r1.rds (h := h1) (F := (c, .cells [sd, .slice none 0 0] false 0) :: (A1 ++ F)) (o1.to fun x => by simp only [cnt_append, cnt_cons]; omega)
      obtain ⟨a', c', rfl, src⟩ := hr.src
      cases a' with
      | none =>
        have : (some [] : Option (List Value)) = some (iz .u8 ds[j]) := src
        rw [← Option.some.inj this] at hdl; simp at hdl
      | some bq =>
        have src' : readCells h1 bq.block bq.off 64 = some (iz .u8 ds[j]) := src
        have hld : ldA 64 h1 (some ⟨bq.block, bq.off, none⟩) = some (iz .u8 ds[j]) := src'
        have ar : arrB h1 64 (.slice (some bq) 64 c') = some (some ⟨bq.block, bq.off, none⟩) := rfl
        obtain ⟨q, h3, A3, g1, g2, g3, o3⟩ := slc_set hs1 (F := (c, .cells [sd, .slice none 0 0] false 0) :: (G ++ F)) (h := h1) (o1.to fun x => by simp only [cnt_append, cnt_cons]; omega) hj hdl iz_cell
        rw [flat_set i2 hdl (by rw [i1]; exact hj)] at g3
        refine .inl ⟨((((j + 1 : Nat) : Int), ()), h3), ?_, rfl, D.set j ds[j], A3, by rw [List.length_set, i1], fun d hm => ?_, fun i h1 h2 hij => ?_, g3, o3.to fun x => by simp only [cnt_append, cnt_cons]; omega⟩
        · simp only [f_sector_Load_L17, hlt, decide_true, cond_true, nwA_eq, hc, fa_mk, Nat.zero_add, l0, Option.bind_some, w1, wrap_succ (show j < 4611686018427387904 by omega), w2, e1, ar, hld, g1, g2]
        · rcases List.mem_or_eq_of_mem_set hm with hm | rfl
          · exact i2 d hm
          · exact hdl
        · rw [List.getElem_set]
          split
          · rename_i e; subst e; rfl
          · exact i3 i _ _ (by omega))
    (fun a hi => by
      obtain ⟨⟨v, _⟩, hq⟩ := a
      obtain ⟨rfl, D, A1, i1, i2, i3, hs1, o1⟩ := hi
      have hD : D = ds := List.ext_getElem i1 fun i h1 h2 => i3 i h1 h2 h2
      rw [hD] at hs1
      exact ⟨((), hq), by simp [f_sector_Load_L17], A1, hs1, o1⟩)
  have o3 : Own h' _ := q2
  refine ⟨c, h', _, ?_, ⟨sd, .slice none 0 0, A', [], q1, .nil, ⟨hd, fun _ h => absurd h List.not_mem_nil, fun _ h => absurd h List.not_mem_nil⟩, rfl⟩, o3.to fun x => by simp only [cnt_append, cnt_cons, cnt_nil, List.cons_append]; omega⟩
  have f1 : fillL [.slice none 0 0, .slice none 0 0] [(0, 1, sd)] = some [sd, .slice none 0 0] := by rw [← hsd]; rfl
  have hcl : ([sd, .slice none 0 0] : List Value).all isCell = true := by rw [← hsd]; rfl
  have l0 : ldT .any h2' (some ⟨c, 0, none⟩) = some sd := by rw [ldT_of o2.head]; rfl
  have hls : lenB sd = some ds.length := by rw [← hsd]; rfl
  have e' : loopT (fun a => f_sector_Load_L17 n u h1' ds.length a.1.1 a.2) n ((0, ()), h2') = some (x, h') := e
  simp only [f_sector_Load, hl, Option.bind_some, c0, c1, c2, c3, decide_false, cond_false, decide_true, Bool.not_true, hb, hmk, bnd_eq, hh1, f1, hcl, cond_true, nwA_eq, hc, hh2, fa_mk, Nat.zero_add, l0, hls, e']
end
/- ==== from Sx10 -/
def rdz (ds : List (List Int)) (ws : List (Int × List Int)) (z : Int) : List Int := if 0 ≤ z ∧ z < ds.length then rdv ws z (ds.getD z.toNat []) else []
def ecz (ds : List (List Int)) (z : Int) : Int := if 0 ≤ z ∧ z < ds.length then 0 else 40
def ewz (ds : List (List Int)) (X : List Int) (z : Int) : Int := if 0 ≤ z ∧ z < ds.length then (if X.length = 64 then 0 else 2) else 40
def wrz (ds : List (List Int)) (ws : List (Int × List Int)) (X : List Int) (z : Int) : List (Int × List Int) := if 0 ≤ z ∧ z < ds.length ∧ X.length = 64 then ws ++ [(z, X)] else ws
section
variable {n p k i j m : Nat} {ds : List (List Int)} {ws : List (Int × List Int)} {L F G A B : Ch} {h : Heap} {u : Value} {X : List Int} {z : Int}
theorem rdz_len (ho : Okd ds ws) (h0 : 0 ≤ z) (h1 : z < ds.length) : (rdz ds ws z).length = 64 := by
  rw [rdz, if_pos ⟨h0, h1⟩]
  refine rdv_len (fun w hw => by have := ho.w w hw; simpa [wc] using this) ?_
  have : z.toNat < ds.length := by omega
  rw [List.getD_eq_getElem?_getD, List.getElem?_eq_getElem this]
  have := ho.d _ (List.getElem_mem this)
  simpa using this
theorem rdz_at {i : Nat} (hi : i < ds.length) : rdz ds ws (i : Int) = rdv ws i ds[i] := by
  rw [rdz, if_pos ⟨by omega, by omega⟩, List.getD_eq_getElem?_getD, Int.toNat_natCast, List.getElem?_eq_getElem hi]; rfl
theorem Dk.okd (hd : Dk p ds ws L) : Okd ds ws := by obtain ⟨_, _, _, _, _, _, h, _⟩ := hd; exact h
theorem read_z (hd : Dk p ds ws L) (ho : Own h (L ++ F)) (hW : ws.length ≤ 1000) (hn : 2000 ≤ n) :
    ∃ s h' A', f_sector_Disk_Read n (some ⟨p, 0, none⟩) z h = some ((s, (ecz ds z, ())), h') ∧ Slc 1 s (rdz ds ws z).length (iz .u8 (rdz ds ws z)) A' ∧ Own h' (A' ++ (L ++ F)) := by
  by_cases hz : 0 ≤ z ∧ z < ds.length
  · obtain ⟨i, rfl⟩ : ∃ i : Nat, z = i := ⟨z.toNat, by omega⟩
    have hi : i < ds.length := by omega
    obtain ⟨s, h', A', e, a, o⟩ := read_any (n := n) hd ho hi hW hn
    refine ⟨s, h', A', by rw [ecz, if_pos hz]; exact e, ?_, o⟩
    rw [rdz_len hd.okd hz.1 hz.2, rdz_at hi]; exact a
  · obtain ⟨h', e, o⟩ := read_bad (n := n) (z := z) hd ho (by omega)
    refine ⟨_, h', [], by rw [ecz, if_neg hz]; exact e, ?_, o⟩
    rw [rdz, if_neg hz]; exact .nil
theorem write_z (hd : Dk p ds ws L) (hu : Sow 1 u X.length (iz .u8 X) G) (ho : Own h (L ++ (G ++ F))) (hW : ws.length ≤ 1000) :
    ∃ h' L', f_sector_Disk_Write n (some ⟨p, 0, none⟩) z u h = some ((ewz ds X z, ()), h') ∧ Dk p ds (wrz ds ws X z) L' ∧ Own h' (L' ++ (G ++ F)) := by
  have hr := hu.rds (h := h) (F := L ++ F) (ho.to fun x => by simp only [cnt_append]; omega)
  by_cases hz : 0 ≤ z ∧ z < ds.length
  · by_cases hX : X.length = 64
    · have hne : ∃ b k c, u = .slice (some b) k c := by
        obtain ⟨a, c, rfl, hs⟩ := hr.src
        cases a with
        | none =>
          have : (some [] : Option (List Value)) = some (iz .u8 X) := hs
          have := congrArg List.length (Option.some.inj this)
          simp at this; omega
        | some b => exact ⟨b, _, c, rfl⟩
      rw [hX] at hu
      obtain ⟨h', L', e, d, o⟩ := write_ok (n := n) (sp := none) hd hu ho hz.1 hz.2 hW hne
      exact ⟨h', L', by rw [ewz, if_pos hz, if_pos hX]; exact e, by rw [wrz, if_pos ⟨hz.1, hz.2, hX⟩]; exact d, o⟩
    · exact ⟨h, L, by rw [ewz, if_pos hz, if_neg hX]; exact write_len hd ho hz.1 hz.2 hr.lenB hX, by rw [wrz, if_neg (fun h => hX h.2.2)]; exact hd, ho⟩
  · exact ⟨h, L, by rw [ewz, if_neg hz]; exact write_bad hd ho (by omega), by rw [wrz, if_neg (fun h => hz ⟨h.1, h.2.1⟩)]; exact hd, ho⟩
end
end Go.Proofs.YtdlfdieehioolaaDoor
/- Configurations, numbers of any width, the first sector. -/
namespace Go.Proofs.YtdlfdieehioolaaDoor
open Go
set_option linter.unusedVariables false
set_option linter.unusedSimpArgs false
structure Cf where
  b : Int
  l : Int
  r : Int
  g : Int
  c : Int
def Cf.cells (c : Cf) : List Value := [.int .i64 c.b, .int .i64 c.l, .int .i64 c.r, .int .i64 c.g, .int .i64 c.c]
def wi (x m : Int) : Bool := decide (1 ≤ x) && decide (x ≤ m)
def Cf.ok (c : Cf) : Bool := wi c.b 64 && wi (IntKind.i64.wrap (c.l - 1)) 63 && wi c.c 8 && wi c.r (if (IntKind.i64.wrap (c.l - 1)) < (if c.b < 16 then c.b else 16) then (IntKind.i64.wrap (c.l - 1)) else (if c.b < 16 then c.b else 16)) && wi c.g c.l
def Cf.e (c : Cf) : Int := if c.ok then 0 else 3
section
variable {n m k p : Nat} {s u : Value} {L X V : List Int} {h : Heap} {F G A : Ch} {c : Cf} {z : Int} {cs : List Value}
theorem within_ok {x y : Int} : f_super_within n x y h = some ((wi x y, ()), h) := by
  by_cases h1 : 1 ≤ x
  · simp only [f_super_within, h1, decide_true, cond_true, wi, Bool.true_and]
  · simp only [f_super_within, h1, decide_false, cond_false, wi, Bool.false_and]
theorem Cf.ld {t : Nat} {es : Nat} {ro : Bool} {ys : List Value} (hg : h.get t = some (.cells (c.cells ++ ys) ro es)) :
    ldT (.int .i64) h (some ⟨t, 0, none⟩) = some c.b ∧ ldT (.int .i64) h (some ⟨t, 1, none⟩) = some c.l ∧ ldT (.int .i64) h (some ⟨t, 2, none⟩) = some c.r ∧ ldT (.int .i64) h (some ⟨t, 3, none⟩) = some c.g ∧ ldT (.int .i64) h (some ⟨t, 4, none⟩) = some c.c ∧ ldA 5 h (some ⟨t, 0, none⟩) = some c.cells := by
  refine ⟨?_, ?_, ?_, ?_, ?_, ?_⟩
  iterate 5
    rw [ldT_of hg]; simp [Cf.cells]
  rw [ldA_of hg (by simp [Cf.cells])]; simp [Cf.cells]
theorem Cf.ld' {t : Nat} {es : Nat} {ro : Bool} (hg : h.get t = some (.cells c.cells ro es)) :
    ldT (.int .i64) h (some ⟨t, 0, none⟩) = some c.b ∧ ldT (.int .i64) h (some ⟨t, 1, none⟩) = some c.l ∧ ldT (.int .i64) h (some ⟨t, 2, none⟩) = some c.r ∧ ldT (.int .i64) h (some ⟨t, 3, none⟩) = some c.g ∧ ldT (.int .i64) h (some ⟨t, 4, none⟩) = some c.c ∧ ldA 5 h (some ⟨t, 0, none⟩) = some c.cells := Cf.ld (ys := []) (by rw [List.append_nil]; exact hg)
theorem cf_cell : (c.cells).all isCell = true := rfl
theorem config_ok (ho : Own h F) : f_super_Config n (.agg ⟨c.cells⟩) h = some ((c.e, ()), h.new (.cells c.cells false 0)) := by
  have o1 := ho.new (.cells c.cells false 0)
  generalize ht : h.next = t at o1
  generalize hh1 : h.new (.cells c.cells false 0) = h1 at o1 ⊢
  obtain ⟨l0, l1, l2, l3, l4, _⟩ := Cf.ld' o1.head
  have hco : cellsOf (.agg ⟨c.cells⟩) = c.cells := rfl
  rcases Bool.eq_false_or_eq_true (wi c.b 64) with b1 | b1 <;> rcases Bool.eq_false_or_eq_true (wi (IntKind.i64.wrap (c.l - 1)) 63) with b2 | b2 <;> rcases Bool.eq_false_or_eq_true (wi c.c 8) with b3 | b3 <;>
    rcases Bool.eq_false_or_eq_true (wi c.r (if (IntKind.i64.wrap (c.l - 1)) < (if c.b < 16 then c.b else 16) then (IntKind.i64.wrap (c.l - 1)) else (if c.b < 16 then c.b else 16))) with b4 | b4 <;> rcases Bool.eq_false_or_eq_true (wi c.g c.l) with b5 | b5 <;>
    simp only [f_super_Config, hco, cf_cell, cond_true, bnd_eq, hh1, nwA_eq, ht, fa_mk, Nat.zero_add, l0, l1, l2, l3, l4, Option.bind_some, within_ok, Cf.e, Cf.ok, b1, b2, b3, b4, b5, Bool.not_true, Bool.not_false, cond_false, Bool.and_true, Bool.and_false, Bool.false_and, Bool.true_and, if_true, if_false, Bool.false_eq_true]
theorem Cf.bounds (hok : c.ok = true) (hl : -9223372036854775808 ≤ c.l ∧ c.l ≤ 9223372036854775807) : (1 ≤ c.b ∧ c.b ≤ 64) ∧ (2 ≤ c.l ∧ c.l ≤ 64) ∧ (1 ≤ c.c ∧ c.c ≤ 8) ∧ (1 ≤ c.r ∧ c.r ≤ 16) ∧ (1 ≤ c.g ∧ c.g ≤ 64) := by
  simp only [Cf.ok, wi, Bool.and_eq_true, decide_eq_true_eq] at hok
  obtain ⟨⟨⟨⟨h1, h2⟩, h3⟩, h4⟩, h5⟩ := hok
  have hl2 : 2 ≤ c.l ∧ c.l ≤ 64 := by
    by_cases he : c.l = -9223372036854775808
    · rw [he] at h2
      have : IntKind.i64.wrap (-9223372036854775808 - 1) = 9223372036854775807 := by decide
      rw [this] at h2; omega
    · rw [wrap_i64 (by omega) (by omega)] at h2; omega
  have hr : c.r ≤ 16 := by
    have h4' := h4.2
    have hm : (if c.b < 16 then c.b else 16) ≤ 16 := by split <;> omega
    generalize (if c.b < 16 then c.b else 16) = mn at h4' hm
    split at h4' <;> omega
  omega
theorem oputw_ok {x w : Nat} (h1 : 1 ≤ w) (h2 : w ≤ 8) (hx : x < 256 ^ w) (ho : Own h F) (hn : 100 ≤ n) : ∃ s h' A, f_octet_Put n (x : Int) (w : Int) h = some ((s, (0, ())), h') ∧ Slc 1 s w (iz .u8 (le x w)) A ∧ Own h' (A ++ F) := by
  have m1 := mkSl_of (nx := h.next) (bytes := 1) (es := 1) (zs := [.int .u8 0]) (k := .i64) (k' := .i64) (l := w) (c := w) (by omega) (by omega) (by omega)
  have hz : (List.replicate w [Value.int .u8 0]).flatten = iz .u8 (List.replicate w 0) := by rw [flat_rep1, iz_rep]
  rw [hz] at m1
  have o1 := ho.new (.cells (iz .u8 (List.replicate w 0)) false 1)
  have y1 : Slc 1 (.slice (some ⟨h.next, 0, some 0⟩) w w) w (iz .u8 (List.replicate w 0)) [(h.next, .cells ([] ++ (iz .u8 (List.replicate w 0) ++ [])) false 1)] := .mk rfl (by simp) (by simp)
  generalize hb : h.next = b at m1 o1 y1
  generalize hh1 : h.new (.cells (iz .u8 (List.replicate w 0)) false 1) = h1' at o1
  obtain ⟨⟨⟨r, _⟩, h'⟩, e, q0, A', q1, q2⟩ := loopT_up (f := fun a => f_octet_Put_L10 n (.slice (some ⟨b, 0, some 0⟩) w w, .cells (iz .u8 (List.replicate w 0)) false 1) w a.1.1 a.1.2.1 a.2)
    (fun j (a : (Int × Int × Unit) × Heap) => a.1 = (((x / 256 ^ j : Nat) : Int), ((j : Int), ())) ∧ ∃ A, Slc 1 (.slice (some ⟨b, 0, some 0⟩) w w) w (iz .u8 (le x j ++ List.replicate (w - j) 0)) A ∧ Own a.2 (A ++ F))
    (fun r => r.1 = (((x / 256 ^ w : Nat) : Int), ()) ∧ ∃ A, Slc 1 (.slice (some ⟨b, 0, some 0⟩) w w) w (iz .u8 (le x w)) A ∧ Own r.2 (A ++ F)) (N := w) (k := n) (j := 0) (a := (((x : Int), (0, ())), h1')) (by omega) (by omega)
    ⟨by simp, _, by simpa [le] using y1, o1.to fun z => by simp only [cnt_append, cnt_cons, cnt_nil, List.nil_append, List.append_nil]; omega⟩
    (fun j a hj hi => by
      obtain ⟨⟨v, i0, _⟩, hq⟩ := a
      obtain ⟨e0, A1, i1, i2⟩ := hi
      cases e0
      have i2 : Own hq _ := i2
      have hlt : (j : Int) < (w : Int) := by omega
      obtain ⟨q, h2, A2, g1, g2, g3, o2⟩ := slc_set1 i1 i2 hj (v := .int .u8 ((x / 256 ^ j % 256 : Nat) : Int)) rfl rfl
      have e6 : (le x j ++ List.replicate (w - j) 0).set j ((x / 256 ^ j % 256 : Nat) : Int) = le x (j + 1) ++ List.replicate (w - (j + 1)) 0 := by
        have hls : le x (j + 1) = le x j ++ [((x / 256 ^ j % 256 : Nat) : Int)] := by
          apply List.ext_getElem?
          intro i
          by_cases hi : i < j
          · rw [le_get (by omega), List.getElem?_append_left (by rw [le_len]; exact hi), le_get hi]
          · by_cases hij : i = j
            · subst hij
              rw [le_get (by omega), List.getElem?_append_right (by rw [le_len]; exact Nat.le_refl _), le_len, Nat.sub_self]; rfl
            · rw [List.getElem?_eq_none (by rw [le_len]; omega), List.getElem?_eq_none (by rw [List.length_append, le_len]; simp; omega)]
        rw [hls, show w - j = (w - (j + 1)) + 1 by omega, List.replicate_succ, List.set_append_right _ _ (by rw [le_len]; exact Nat.le_refl _), le_len, Nat.sub_self, List.set_cons_zero, List.append_assoc]; rfl
      rw [iz_set, e6] at g3
      refine .inl ⟨((((x / 256 ^ (j + 1) : Nat) : Int), (((j + 1 : Nat) : Int), ())), h2), ?_, rfl, A2, g3, o2⟩
      have hd : x / 256 ^ (j + 1) = x / 256 ^ j / 256 := by rw [Nat.pow_succ, Nat.div_div_eq_div_mul]
      simp only [f_octet_Put_L10, hlt, decide_true, cond_true, g1, Option.bind_some, wrap_u8, g2, shr8_b, hd, wrap_succ (show j < 4611686018427387904 by omega)])
    (fun a hi => by
      obtain ⟨⟨v, i0, _⟩, hq⟩ := a
      obtain ⟨e0, A1, i1, i2⟩ := hi
      cases e0
      have hlt : ¬ (w : Int) < (w : Int) := by omega
      rw [Nat.sub_self, List.replicate_zero, List.append_nil] at i1
      exact ⟨((((x / 256 ^ w : Nat) : Int), ()), hq), by simp only [f_octet_Put_L10, hlt, decide_false, cond_false], rfl, A1, i1, i2⟩)
  rw [Nat.div_eq_of_lt hx] at q0
  cases q0
  refine ⟨_, h', A', ?_, q1, q2⟩
  have c1 : (1 : Int) ≤ (w : Int) := by omega
  have c2 : (w : Int) ≤ 8 := by omega
  have hl : lenB (.slice (some ⟨b, 0, some 0⟩) w w) = some w := rfl
  simp only [f_octet_Put, f_octet_may, c1, c2, decide_true, cond_true, Option.bind_some, Bool.not_true, cond_false, hb, m1, bnd_eq, hh1, hl, e, show (decide (((0 : Nat) : Int) = 0)) = true from rfl, isTuple, Bool.not_false]
end
end Go.Proofs.YtdlfdieehioolaaDoor
/- The first sector of a new disk: its bytes. -/
namespace Go.Proofs.YtdlfdieehioolaaDoor
open Go
set_option linter.unusedVariables false
set_option linter.unusedSimpArgs false
section
variable {n m k p : Nat} {s u : Value} {L X V : List Int} {h : Heap} {F G A : Ch} {c : Cf} {z : Int} {cs : List Value}
def Cf.sup (c : Cf) : List Value := c.cells ++ [.int .u64 0, .int .u64 1]
theorem sup_cell : (c.sup).all isCell = true := rfl
theorem check_ok (ho : Own h F) : ∃ h', f_super_Check n (.agg ⟨c.sup⟩) h = some ((c.e, ()), h') ∧ Own h' F := by
  have o1 := ho.new (.cells c.sup false 0)
  generalize ht : h.next = t at o1
  generalize hh1 : h.new (.cells c.sup false 0) = h1 at o1
  obtain ⟨_, _, _, _, _, l5⟩ := Cf.ld (c := c) (ys := [.int .u64 0, .int .u64 1]) o1.head
  have e2 := config_ok (n := n) (c := c) o1
  have o2 := o1.new (.cells c.cells false 0)
  generalize hh2 : h1.new (.cells c.cells false 0) = h2 at e2 o2
  have hg := o2.get (t, .cells c.sup false 0) (by simp)
  have l6 : ldT (.int .u64) h2 (some ⟨t, 5, none⟩) = some 0 := by rw [ldT_of hg]; simp [Cf.sup, Cf.cells]
  have l7 : ldT (.int .u64) h2 (some ⟨t, 6, none⟩) = some 1 := by rw [ldT_of hg]; simp [Cf.sup, Cf.cells]
  have hco : cellsOf (.agg ⟨c.sup⟩) = c.sup := rfl
  refine ⟨h2, ?_, o2.tail.tail⟩
  rcases Bool.eq_false_or_eq_true c.ok with hk | hk
  · have he : c.e = 0 := by rw [Cf.e, hk]; rfl
    simp only [f_super_Check, hco, sup_cell, cond_true, bnd_eq, nwA_eq, ht, hh1, fa_mk, Nat.zero_add, l5, e2, he, Option.bind_some, decide_true, Bool.not_true, cond_false, l6, l7, show (decide ((4611686018427387904 : Int) < 0)) = false from rfl, show (decide ((1 : Int) < 1)) = false from rfl, show (decide ((4611686018427387904 : Int) < 1)) = false from rfl]
  · have he : c.e = 3 := by rw [Cf.e, hk]; rfl
    simp only [f_super_Check, hco, sup_cell, cond_true, bnd_eq, nwA_eq, ht, hh1, fa_mk, Nat.zero_add, l5, e2, he, Option.bind_some, show (decide ((3 : Int) = 0)) = false from rfl, Bool.not_false]
def wds : List Nat := [1, 1, 1, 1, 1, 1, 1, 3, 8, 8]
theorem wd_at' {j : Nat} (hj : j < 10) (hg : h.get 0 = some (.cells tab1.cells true 0)) : ixA 10 1 (some ⟨0, 0, none⟩) (j : Int) = some ⟨0, j, none⟩ ∧ ldT (.int .i64) h (some ⟨0, j, none⟩) = some ((wds.getD j 0 : Nat) : Int) ∧ 1 ≤ wds.getD j 0 ∧ wds.getD j 0 ≤ 8 := by
  have : j = 0 ∨ j = 1 ∨ j = 2 ∨ j = 3 ∨ j = 4 ∨ j = 5 ∨ j = 6 ∨ j = 7 ∨ j = 8 ∨ j = 9 := by omega
  rcases this with rfl | rfl | rfl | rfl | rfl | rfl | rfl | rfl | rfl | rfl <;> exact ⟨rfl, by rw [ldT_of hg]; rfl, by decide, by decide⟩
theorem wds_sum {j : Nat} (hj : j < 10) : (wds.take (j + 1)).sum = (wds.take j).sum + wds.getD j 0 := by
  have : j = 0 ∨ j = 1 ∨ j = 2 ∨ j = 3 ∨ j = 4 ∨ j = 5 ∨ j = 6 ∨ j = 7 ∨ j = 8 ∨ j = 9 := by omega
  rcases this with rfl | rfl | rfl | rfl | rfl | rfl | rfl | rfl | rfl | rfl <;> rfl
theorem wds_le {j : Nat} (hj : j ≤ 10) : (wds.take j).sum ≤ 26 := by
  have : j = 0 ∨ j = 1 ∨ j = 2 ∨ j = 3 ∨ j = 4 ∨ j = 5 ∨ j = 6 ∨ j = 7 ∨ j = 8 ∨ j = 9 ∨ j = 10 := by omega
  rcases this with rfl | rfl | rfl | rfl | rfl | rfl | rfl | rfl | rfl | rfl | rfl <;> decide
theorem Byt.append {A B : List Int} (ha : Byt A) (hb : Byt B) : Byt (A ++ B) := fun z hz => (List.mem_append.1 hz).elim (ha z) (hb z)
theorem byt_zeros {m : Nat} : Byt (List.replicate m 0) := fun z hz => by rw [List.eq_of_mem_replicate hz]; decide
def supH (c : Cf) : List Int := [87, 73, 67, 75, 69, 84, 1, 0, c.b, c.l, c.r, c.g, c.c, 0, 0, 0] ++ (le 0 8 ++ (le 1 8 ++ List.replicate 28 0))
def supB (c : Cf) : List Int := supH c ++ le (crc (supH c)) 4
def cat (Z : List Nat) (j : Nat) : List Int := (List.range j).flatMap fun i => le (Z.getD i 0) (wds.getD i 0)
theorem cat_snoc {Z : List Nat} {j : Nat} : cat Z (j + 1) = cat Z j ++ le (Z.getD j 0) (wds.getD j 0) := by
  simp [cat, List.range_succ]
theorem le1 {x : Nat} (hx : x < 256) : le x 1 = [(x : Int)] := by
  show [((x % 256 : Nat) : Int)] = _
  rw [Nat.mod_eq_of_lt hx]
theorem cat_all {nb nl nr ng nc : Nat} (h1 : nb < 256) (h2 : nl < 256) (h3 : nr < 256) (h4 : ng < 256) (h5 : nc < 256) (hb : c.b = nb) (hl : c.l = nl) (hr : c.r = nr) (hg : c.g = ng) (hc : c.c = nc) :
    [87, 73, 67, 75, 69, 84] ++ cat [1, 0, nb, nl, nr, ng, nc, 0, 0, 1] 10 ++ List.replicate 28 0 = supH c := by
  have e : cat [1, 0, nb, nl, nr, ng, nc, 0, 0, 1] 10 = le 1 1 ++ (le 0 1 ++ (le nb 1 ++ (le nl 1 ++ (le nr 1 ++ (le ng 1 ++ (le nc 1 ++ (le 0 3 ++ (le 0 8 ++ (le 1 8 ++ []))))))))) := rfl
  rw [e, le1 h1, le1 h2, le1 h3, le1 h4, le1 h5, supH, hb, hl, hr, hg, hc]
  simp only [List.append_nil, List.append_assoc, List.cons_append, List.nil_append]
  rfl
theorem sencode_ok (hk : c.ok = true) (hl : -9223372036854775808 ≤ c.l ∧ c.l ≤ 9223372036854775807) (hm0 : tabO ∈ F) (hm1 : tabP ∈ F) (ho : Own h F) (hn : 2000 ≤ n) :
    ∃ s h' A, f_super_Encode n (.agg ⟨c.sup⟩) h = some ((s, (0, ())), h') ∧ Slc 1 s 64 (iz .u8 (supB c)) A ∧ Own h' (A ++ F) := by
  obtain ⟨⟨b1, b2⟩, ⟨b3, b4⟩, ⟨b5, b6⟩, ⟨b7, b8⟩, b9, b10⟩ := Cf.bounds hk hl
  have o1 := ho.new (.cells c.sup false 0)
  generalize ht : h.next = t at o1
  generalize hh1 : h.new (.cells c.sup false 0) = h1 at o1
  have l7 : ldA 7 h1 (some ⟨t, 0, none⟩) = some c.sup := by rw [ldA_of o1.head (by simp [Cf.sup, Cf.cells])]; simp [Cf.sup, Cf.cells]
  obtain ⟨h2, e2, o2⟩ := check_ok (n := n) (c := c) o1
  have he : c.e = 0 := by rw [Cf.e, hk]; rfl
  rw [he] at e2
  have hco : cellsOf (.agg ⟨c.sup⟩) = c.sup := rfl
  obtain ⟨_, _, _, _, _, l5⟩ := Cf.ld (c := c) (ys := [.int .u64 0, .int .u64 1]) o2.head
  -- a copy of the configuration
  have o3 := o2.new (.cells (List.replicate 5 (.int .i64 0)) false 0)
  generalize ht2 : h2.next = t2 at o3
  generalize hh3 : h2.new (.cells (List.replicate 5 (.int .i64 0)) false 0) = h3 at o3
  have s4 := stBA_of (sp := none) (o := 0) (sz := 5) (vs := c.cells) o3.head rfl cf_cell (by simp)
  have w4 : writeAt (List.replicate 5 (Value.int .i64 0)) 0 c.cells = c.cells := rfl
  rw [w4] at s4
  have o4 := o3.put (.cells c.cells false 0)
  generalize hh4 : h3.put t2 (.cells c.cells false 0) = h4 at s4 o4
  have o5 := o4.new (.cells (iz .u8 [87, 73, 67, 75, 69, 84]) false 1)
  have y5 : Slc 1 (.slice (some ⟨h4.next, 0, some 0⟩) 6 6) 6 (iz .u8 [87, 73, 67, 75, 69, 84]) [(h4.next, .cells ([] ++ (iz .u8 [87, 73, 67, 75, 69, 84] ++ [])) false 1)] := .mk rfl rfl rfl
  generalize hb5 : h4.next = t5 at o5 y5
  generalize hh5 : h4.new (.cells (iz .u8 [87, 73, 67, 75, 69, 84]) false 1) = h5 at o5
  have mk : markSK h5 (.slice (some ⟨t5, 0, some 0⟩) 6 6) = some (.slice (some ⟨t5, 0, some 0⟩) 6 6, h5.put t5 (.cells (iz .u8 [87, 73, 67, 75, 69, 84]) false 1)) := by
    simp only [markSK, o5.head]; rfl
  have o6 := o5.put (.cells (iz .u8 [87, 73, 67, 75, 69, 84]) false 1)
  generalize hh6 : h5.put t5 (.cells (iz .u8 [87, 73, 67, 75, 69, 84]) false 1) = h6 at o6 mk
  obtain ⟨x0, x1, x2, x3, x4, _⟩ := Cf.ld' (c := c) (o6.get (t2, .cells c.cells false 0) (by simp))
  have hgs := o6.get (t, .cells c.sup false 0) (by simp)
  have x5 : ldT (.int .u64) h6 (some ⟨t, 5, none⟩) = some 0 := by rw [ldT_of hgs]; simp [Cf.sup, Cf.cells]
  have x6 : ldT (.int .u64) h6 (some ⟨t, 6, none⟩) = some 1 := by rw [ldT_of hgs]; simp [Cf.sup, Cf.cells]
  -- the ten numbers
  obtain ⟨nb, hnb⟩ : ∃ x : Nat, c.b = x := ⟨c.b.toNat, by omega⟩
  obtain ⟨nl, hnl⟩ : ∃ x : Nat, c.l = x := ⟨c.l.toNat, by omega⟩
  obtain ⟨nr, hnr⟩ : ∃ x : Nat, c.r = x := ⟨c.r.toNat, by omega⟩
  obtain ⟨ng, hng⟩ : ∃ x : Nat, c.g = x := ⟨c.g.toNat, by omega⟩
  obtain ⟨nc, hnc⟩ : ∃ x : Nat, c.c = x := ⟨c.c.toNat, by omega⟩
  have w64 : ∀ x : Nat, x < 4294967296 → IntKind.u64.wrap (x : Int) = (x : Int) := fun x hx => by
    have : (x : Int) % 18446744073709551616 = x := Int.emod_eq_of_lt (by omega) (by omega)
    simpa [IntKind.wrap, IntKind.signed, IntKind.bits] using this
  obtain ⟨Z, hZ⟩ : ∃ Z : List Nat, Z = [1, 0, nb, nl, nr, ng, nc, 0, 0, 1] := ⟨_, rfl⟩
  have hZl : Z.length = 10 := by rw [hZ]; rfl
  have hZw : ∀ j, j < 10 → Z.getD j 0 < 256 ^ wds.getD j 0 := by
    intro j hj
    rw [hZ]
    have : j = 0 ∨ j = 1 ∨ j = 2 ∨ j = 3 ∨ j = 4 ∨ j = 5 ∨ j = 6 ∨ j = 7 ∨ j = 8 ∨ j = 9 := by omega
    rcases this with rfl | rfl | rfl | rfl | rfl | rfl | rfl | rfl | rfl | rfl <;> simp [wds] <;> omega
  have f7 : fillL (List.replicate 10 (.int .u64 0)) [(0, 1, .int .u64 1), (1, 1, .int .u64 0), (2, 1, .int .u64 (nb : Int)), (3, 1, .int .u64 (nl : Int)), (4, 1, .int .u64 (nr : Int)), (5, 1, .int .u64 (ng : Int)), (6, 1, .int .u64 (nc : Int)), (7, 1, .int .u64 0), (8, 1, .int .u64 0), (9, 1, .int .u64 1)] = some (iz .u64 (Z.map fun (x : Nat) => (x : Int))) := by rw [hZ]; rfl
  have o7 := o6.new (.cells (iz .u64 (Z.map fun (x : Nat) => (x : Int))) false 1)
  have y7 : Slc 1 (.slice (some ⟨h6.next, 0, some 0⟩) 10 10) 10 (iz .u64 (Z.map fun (x : Nat) => (x : Int))) [(h6.next, .cells ([] ++ (iz .u64 (Z.map fun (x : Nat) => (x : Int)) ++ [])) false 1)] := .mk rfl (by simp [hZl]) (by simp [hZl])
  have hnx7 : h6.next = h6.next := rfl
  generalize hb7 : h6.next = t7 at o7 y7
  generalize hh7 : h6.new (.cells (iz .u64 (Z.map fun (x : Nat) => (x : Int))) false 1) = h7 at o7
  have hm1' : tabP ∈ (t, AObj.cells c.sup false 0) :: F := List.mem_cons_of_mem _ hm1
  obtain ⟨⟨⟨s8, _⟩, h8⟩, e8, A8, X8, a8, x8l, ⟨x8b, x8e⟩, o8⟩ := loopT_up (f := fun a => f_super_Encode_L28 n (.slice (some ⟨t5, 0, some 0⟩) 6 6, h6) 10 a.1.1 a.1.2.1 a.2)
    (fun j (a : (Value × Int × Unit) × Heap) => a.1.2.1 = (j : Int) ∧ ∃ A X, Slc 1 a.1.1 (6 + (wds.take j).sum) (iz .u8 X) A ∧ X.length = 6 + (wds.take j).sum ∧ (Byt X ∧ X = [87, 73, 67, 75, 69, 84] ++ cat Z j) ∧ Own a.2 (A ++ ((t7, .cells (iz .u64 (Z.map fun (x : Nat) => (x : Int))) false 1) :: ((t, .cells c.sup false 0) :: F))))
    (fun r => ∃ A X, Slc 1 r.1.1 32 (iz .u8 X) A ∧ X.length = 32 ∧ (Byt X ∧ X = [87, 73, 67, 75, 69, 84] ++ cat Z 10) ∧ Own r.2 (A ++ ((t7, .cells (iz .u64 (Z.map fun (x : Nat) => (x : Int))) false 1) :: ((t, .cells c.sup false 0) :: F)))) (N := 10) (k := n) (j := 0) (a := ((.slice (some ⟨t5, 0, some 0⟩) 6 6, (0, ())), h7)) (by omega) (by omega)
    ⟨rfl, _, _, y5, rfl, ⟨by unfold Byt; decide, rfl⟩, o7.to fun z => by simp only [cnt_append, cnt_cons, cnt_nil, List.nil_append, List.append_nil]; omega⟩
    (fun j a hj hi => by
      obtain ⟨⟨v, i0, _⟩, hq⟩ := a
      obtain ⟨e0, A, X, i1, i2, i3, i4⟩ := hi
      have e0 : i0 = (j : Int) := e0
      subst e0
      have i1 : Slc 1 v _ _ A := i1
      have i4 : Own hq _ := i4
      have hlt : (j : Int) < ((10 : Nat) : Int) := by omega
      have ry := y7.rds (h := hq) (F := A ++ ((t, .cells c.sup false 0) :: F)) (i4.to fun z => by simp only [cnt_append, cnt_cons, cnt_nil, List.nil_append, List.append_nil]; omega)
      obtain ⟨q, g1, g2⟩ := ry.intn (by simp [hZl]) (i := j) (by omega)
      have gz : (Z.map fun (x : Nat) => (x : Int))[j]'(by simp [hZl]; omega) = ((Z.getD j 0 : Nat) : Int) := by
        rw [List.getElem_map, List.getD_eq_getElem?_getD, List.getElem?_eq_getElem (by omega)]; rfl
      rw [gz] at g2
      obtain ⟨w1, w2, w3, w4⟩ := wd_at' hj (i4.get tabP (List.mem_append_right _ (List.mem_cons_of_mem _ hm1')))
      obtain ⟨s9, h9, A9, e9, a9, o9⟩ := oputw_ok (n := n) w3 w4 (hZw j hj) i4 (by omega)
      have hsl := wds_le (j := j) (by omega)
      obtain ⟨s10, h10, A10, e10, a10, o10⟩ := a9.sow.app i1 (h := h9) (F := (t7, .cells (iz .u64 (Z.map fun (x : Nat) => (x : Int))) false 1) :: ((t, .cells c.sup false 0) :: F)) (o9.to fun z => by simp only [cnt_append, cnt_cons]; omega) (by decide) (bytes := 1) (by omega)
      refine .inl ⟨((s10, (((j + 1 : Nat) : Int), ())), h10), ?_, rfl, A10, X ++ le (Z.getD j 0) (wds.getD j 0), ?_, ?_, ⟨i3.1.append le_byt, by rw [cat_snoc, i3.2, List.append_assoc]⟩, o10.to fun z => by simp only [cnt_append, cnt_cons]; omega⟩
      · simp only [f_super_Encode_L28, hlt, decide_true, cond_true, hb7, g1, g2, w1, w2, Option.bind_some, e9, e10, wrap_succ (show j < 4611686018427387904 by omega)]
      · rw [wds_sum hj, ← Nat.add_assoc]; simpa [iz] using a10
      · rw [wds_sum hj, List.length_append, le_len, i2]; omega)
    (fun a hi => by
      obtain ⟨⟨v, i0, _⟩, hq⟩ := a
      obtain ⟨e0, A, X, i1, i2, i3, i4⟩ := hi
      have e0 : i0 = ((10 : Nat) : Int) := e0
      subst e0
      exact ⟨((v, ()), hq), by simp only [f_super_Encode_L28, show (decide (((10 : Nat) : Int) < ((10 : Nat) : Int))) = false from rfl, cond_false], A, X, i1, i2, i3, i4⟩)
  have o8 : Own h8 _ := o8
  have a8 : Slc 1 s8 32 _ A8 := a8
  -- padded
  have m9 := mkSl_of (nx := h8.next) (bytes := 1) (es := 1) (zs := [.int .u8 0]) (k := .i64) (k' := .i64) (l := 28) (c := 28) (by omega) (by omega) (by omega)
  have hz9 : (List.replicate 28 [Value.int .u8 0]).flatten = iz .u8 (List.replicate 28 0) := by rw [flat_rep1, iz_rep]
  rw [hz9] at m9
  have o9 := o8.new (.cells (iz .u8 (List.replicate 28 0)) false 1)
  generalize hb9 : h8.next = t9 at m9 o9
  generalize hh9 : h8.new (.cells (iz .u8 (List.replicate 28 0)) false 1) = h9 at o9
  have y9 : Sow 1 (.slice (some ⟨t9, 0, some 0⟩) 28 28) (List.replicate 28 (0 : Int)).length (iz .u8 (List.replicate 28 0)) [(t9, .cells (iz .u8 (List.replicate 28 0)) false 1)] := by
    have := lits (b := t9) (vs := iz .u8 (List.replicate 28 0))
    simpa [iz] using this
  have o10 := o9.new (.cells [s8, .slice (some ⟨t9, 0, some 0⟩) 28 28] false 1)
  generalize hb10 : h9.next = t10 at o10
  generalize hh10 : h9.new (.cells [s8, .slice (some ⟨t9, 0, some 0⟩) 28 28] false 1) = h10 at o10
  obtain ⟨s11, h11, A11, e11, a11, o11⟩ := join_ok (n := n) (P := [(s8, X8), (.slice (some ⟨t9, 0, some 0⟩) 28 28, List.replicate 28 0)]) (u := .slice (some ⟨t10, 0, some 0⟩) 2 2)
    (G := (t10, .cells [s8, .slice (some ⟨t9, 0, some 0⟩) 28 28] false 1) :: (t9, .cells (iz .u8 (List.replicate 28 0)) false 1) :: A8) (h := h10) (F := (t7, .cells (iz .u64 (Z.map fun (x : Nat) => (x : Int))) false 1) :: ((t, .cells c.sup false 0) :: F))
    ((lits (b := t10) (vs := [s8, .slice (some ⟨t9, 0, some 0⟩) 28 28])).mono fun x hx => by simp only [List.mem_singleton] at hx; subst hx; exact List.mem_cons_self ..)
    (by
      intro x hx
      simp only [List.mem_cons, List.not_mem_nil, or_false] at hx
      rcases hx with rfl | rfl
      · rw [x8l]; exact a8.sow.mono fun x hx => by simp [hx]
      · exact y9.mono fun x hx => by simp only [List.mem_singleton] at hx; subst hx; simp)
    (o10.to fun z => by simp only [cnt_append, cnt_cons, cnt_nil]; omega) (by simp [x8l]) (by simp) hn
  have hf11 : ([(s8, X8), ((.slice (some ⟨t9, 0, some 0⟩) 28 28 : Value), List.replicate 28 (0 : Int))] : List (Value × List Int)).flatMap (·.2) = X8 ++ List.replicate 28 0 := by simp
  rw [hf11] at a11
  have hY : (X8 ++ List.replicate 28 (0 : Int)).length = 60 := by simp [x8l]
  have hYb : Byt (X8 ++ List.replicate 28 (0 : Int)) := x8b.append byt_zeros
  have hYe : X8 ++ List.replicate 28 (0 : Int) = supH c := by
    rw [x8e, hZ]; exact cat_all (by omega) (by omega) (by omega) (by omega) (by omega) hnb hnl hnr hng hnc
  rw [hYe] at a11 hY hYb
  obtain ⟨Y, hYY⟩ : ∃ Y, Y = supH c := ⟨_, rfl⟩
  rw [← hYY] at a11 hY hYb
  -- the sum behind
  have o12 := o11.new (.cells [s11] false 1)
  generalize hb12 : h11.next = t12 at o12
  generalize hh12 : h11.new (.cells [s11] false 1) = h12 at o12
  have e13 := of_ok (n := n) (o12.get tabO (List.mem_cons_of_mem _ (List.mem_append_right _ (List.mem_append_right _ (List.mem_cons_of_mem _ (List.mem_cons_of_mem _ hm0)))))) hYb (s := s11) (u := .slice (some ⟨t12, 0, some 0⟩) 1 1) (G := (t12, .cells [s11] false 1) :: A11) (h := h12) (F := F)
    (a11.sow.mono fun x hx => List.mem_cons_of_mem _ hx) ((lits (b := t12) (vs := [s11])).mono fun x hx => by simp only [List.mem_singleton] at hx; subst hx; exact List.mem_cons_self ..) (o12.to fun z => by simp only [cnt_append, cnt_cons, List.cons_append]; omega) (by omega) hn
  have hcl := crc_lt hYb
  obtain ⟨s14, h14, A14, e14, a14, o14⟩ := oput_ok (n := n) hcl (h := h12) (F := A11 ++ F) (o12.to fun z => by simp only [cnt_append, cnt_cons]; omega) hn
  obtain ⟨s15, h15, A15, e15, a15, o15⟩ := a14.sow.app a11 (h := h14) (F := F) (o14.to fun z => by simp only [cnt_append]; omega) (by decide) (bytes := 1) (by omega)
  rw [hY] at a15
  refine ⟨s15, h15, A15, ?_, by rw [supB, ← hYY]; simpa [iz] using a15, o15.to fun z => by simp only [cnt_append]; omega⟩
  have f6 : fillL (List.replicate 6 (.int .u8 0)) [(0, 1, .int .u8 87), (1, 1, .int .u8 73), (2, 1, .int .u8 67), (3, 1, .int .u8 75), (4, 1, .int .u8 69), (5, 1, .int .u8 84)] = some (iz .u8 [87, 73, 67, 75, 69, 84]) := rfl
  have wb := w64 nb (by omega)
  have wl := w64 nl (by omega)
  have wr := w64 nr (by omega)
  have wg := w64 ng (by omega)
  have wc' := w64 nc (by omega)
  have l10 : lenB (.slice (some ⟨t7, 0, some 0⟩) 10 10) = some 10 := rfl
  have f11 : fillL [.slice none 0 0, .slice none 0 0] [(0, 1, s8), (1, 1, .slice (some ⟨t9, 0, some 0⟩) 28 28)] = some [s8, .slice (some ⟨t9, 0, some 0⟩) 28 28] := by obtain ⟨x, y, rfl⟩ := a8.form; rfl
  have f12 : fillL [.slice none 0 0] [(0, 1, s11)] = some [s11] := by obtain ⟨x, y, rfl⟩ := a11.form; rfl
  have w28 : IntKind.i64.wrap (60 - ((32 : Nat) : Int)) = ((28 : Nat) : Int) := by decide
  have ePad : f_octet_Pad n s8 60 h8 = some ((s11, (0, ())), h11) := by
    simp only [f_octet_Pad, show (decide ((60 : Int) < 0)) = false from rfl, cond_false, show (decide ((64 : Int) < 60)) = false from rfl, Option.bind_some, a8.lenB, show (decide ((60 : Int) < ((32 : Nat) : Int))) = false from rfl, w28, hb9, m9, bnd_eq, hh9, f11, hb10, hh10, e11, a11.notT, Bool.not_false, cond_true]
  rw [hnb] at x0
  rw [hnl] at x1
  rw [hnr] at x2
  rw [hng] at x3
  rw [hnc] at x4
  simp only [f_super_Encode, hco, sup_cell, cond_true, bnd_eq, nwA_eq, ht, hh1, l7, e2, Option.bind_some, decide_true, Bool.not_true, cond_false, fa_mk, Nat.zero_add, l5, ht2, hh3, s4, f6, hb5, hh5, mk, x0, x1, x2, x3, x4, x5, x6, wb, wl, wr, wg, wc', f7, hb7, hh7, l10, e8, ePad, f12, hb12, hh12, e13, w64 _ hcl, e14, e15, a15.notT, Bool.not_false]
end
end Go.Proofs.YtdlfdieehioolaaDoor
/- Save, Load, All of any configuration. -/
namespace Go.Proofs.YtdlfdieehioolaaDoor
open Go
set_option linter.unusedVariables false
set_option linter.unusedSimpArgs false
def Cf.wf (c : Cf) : Prop := (-9223372036854775808 ≤ c.b ∧ c.b ≤ 9223372036854775807) ∧ (-9223372036854775808 ≤ c.l ∧ c.l ≤ 9223372036854775807) ∧ (-9223372036854775808 ≤ c.r ∧ c.r ≤ 9223372036854775807)
structure Byts (ds : List (List Int)) (ws : List (Int × List Int)) : Prop where
  d : ∀ d ∈ ds, Byt d
  w : ∀ w ∈ ws, Byt w.2
def fitE (c : Cf) (N : Nat) : Int := if c.ok then (if (N : Int) = 1 + c.b + c.l then 0 else 40) else 3
def hasE (c : Cf) (N : Nat) (z : Int) : Int := if fitE c N = 0 then (if 0 ≤ z ∧ z < c.b then 0 else 51) else fitE c N
section
variable {n m k p i : Nat} {s u : Value} {L X V v : List Int} {h : Heap} {F G A Lx : Ch} {c : Cf} {z : Int} {cs : List Value} {ds vals : List (List Int)} {ws : List (Int × List Int)}
theorem roA1 {t : Nat} {xs : List Value} {q : Bool} {es : Nat} (ho : Own h ((t, .cells xs q es) :: F)) : Own (hid h [] [t, t]) ((t, .cells xs true es) :: F) := by
  have hk : ∀ x ∈ F, (hid h [] [t, t]).get x.1 = h.get x.1 := fun x hx => by
    have hne := ho.notin x hx
    simp only at hne
    rw [get_hid, if_neg (by simp; exact hne), if_neg List.not_mem_nil]
  refine Own.cons (ho.tail.keep hk (by rw [next_hid]; exact Nat.le_refl _)) ?_ (by rw [next_hid]; exact ho.lt (t, .cells xs q es) (List.mem_cons_self ..)) ho.notin
  rw [get_hid, if_pos (by simp), if_neg List.not_mem_nil, ho.head]; rfl
theorem backA1 {h0 : Heap} {t : Nat} {xs : List Value} {q : Bool} {es : Nat} (ho : Own h ((t, .cells xs true es) :: F)) (hg : h0.get t = some (.cells xs q es)) : Own (h.putBack h0 [t, t]) ((t, .cells xs q es) :: F) := by
  have hk : ∀ x ∈ F, (h.putBack h0 [t, t]).get x.1 = h.get x.1 := fun x hx => by
    have hne := ho.notin x hx
    simp only at hne
    rw [Heap.get_putBack, if_neg (by simp; exact hne)]
  refine Own.cons (ho.tail.keep hk (by rw [Heap.next_putBack]; exact Nat.le_refl _)) ?_ (by rw [Heap.next_putBack]; exact ho.lt (t, .cells xs true es) (List.mem_cons_self ..)) ho.notin
  rw [Heap.get_putBack, if_pos (by simp)]; exact hg
end
end Go.Proofs.YtdlfdieehioolaaDoor
/- All, of any configuration. -/
namespace Go.Proofs.YtdlfdieehioolaaDoor
open Go
set_option linter.unusedVariables false
set_option linter.unusedSimpArgs false
end Go.Proofs.YtdlfdieehioolaaDoor
/- Lists of values that share no memory. -/
namespace Go.Proofs.YtdlfdieehioolaaDoor
open Go
set_option linter.unusedVariables false
set_option linter.unusedSimpArgs false
end Go.Proofs.YtdlfdieehioolaaDoor
/- HdI: put together from Hb1 Hb3w Hb4. -/
namespace Go.Proofs.YtdlfdieehioolaaDoor
open Go
set_option linter.unusedVariables false
set_option linter.unusedSimpArgs false
/- ==== from Hb1 -/
/- ==== from Hb3w -/
/- ==== from Hb4 -/
theorem str_inj : ∀ {A B : List Int}, Byt A → Byt B → A.map (fun n => UInt8.ofNat n.toNat) = B.map (fun n => UInt8.ofNat n.toNat) → A = B := by
  intro A
  induction A with
  | nil => intro B _ _ h; cases B with
    | nil => rfl
    | cons b B => cases h
  | cons a A ih =>
    intro B hA hB h
    cases B with
    | nil => cases h
    | cons b B =>
      simp only [List.map_cons, List.cons.injEq] at h
      have ha := hA a (List.mem_cons_self ..)
      have hb := hB b (List.mem_cons_self ..)
      have h1 := congrArg UInt8.toNat h.1
      rw [UInt8.toNat_ofNat_of_lt' (by show a.toNat < 256; omega), UInt8.toNat_ofNat_of_lt' (by show b.toNat < 256; omega)] at h1
      rw [ih (fun z hz => hA z (List.mem_cons_of_mem _ hz)) (fun z hz => hB z (List.mem_cons_of_mem _ hz)) h.2, show a = b by omega]
end Go.Proofs.YtdlfdieehioolaaDoor
/- What a called function leaves alone; copies. -/
namespace Go.Proofs.YtdlfdieehioolaaDoor
open Go
set_option linter.unusedVariables false
set_option linter.unusedSimpArgs false
end Go.Proofs.YtdlfdieehioolaaDoor
/- The document's side: what may be, what fits, Save, Load, All. -/
namespace Go.Proofs.YtdlfdieehioolaaDoor
open Go
set_option linter.unusedVariables false
set_option linter.unusedSimpArgs false
section
variable {n m k p i : Nat} {s u : Value} {L X V v : List Int} {h : Heap} {F G A Lx : Ch} {c : Cf} {z : Int} {cs : List Value} {ds vals : List (List Int)} {ws : List (Int × List Int)}
theorem ok_iff (hl : -9223372036854775808 ≤ c.l ∧ c.l ≤ 9223372036854775807) : c.ok = true ↔ ((1 ≤ c.b ∧ c.b ≤ 64) ∧ (2 ≤ c.l ∧ c.l ≤ 64) ∧ (1 ≤ c.r ∧ c.r ≤ 16 ∧ c.r ≤ c.b ∧ c.r ≤ c.l - 1) ∧ (1 ≤ c.g ∧ c.g ≤ c.l) ∧ (1 ≤ c.c ∧ c.c ≤ 8)) := by
  by_cases he : c.l = -9223372036854775808
  · constructor
    · intro h; have := (Cf.bounds h hl).2.1; omega
    · intro h; omega
  · rw [Cf.ok, wrap_i64 (by omega) (by omega)]
    simp only [wi, Bool.and_eq_true, decide_eq_true_eq]
    obtain ⟨x, hx⟩ : ∃ x, x = (if c.b < 16 then c.b else 16) := ⟨_, rfl⟩
    rw [← hx]
    obtain ⟨y, hy⟩ : ∃ y, y = (if c.l - 1 < x then c.l - 1 else x) := ⟨_, rfl⟩
    rw [← hy]
    have hx' : (c.b < 16 ∧ x = c.b) ∨ (16 ≤ c.b ∧ x = 16) := by
      by_cases h : c.b < 16
      · rw [if_pos h] at hx; exact .inl ⟨h, hx⟩
      · rw [if_neg h] at hx; exact .inr ⟨by omega, hx⟩
    have hy' : (c.l - 1 < x ∧ y = c.l - 1) ∨ (x ≤ c.l - 1 ∧ y = x) := by
      by_cases h : c.l - 1 < x
      · rw [if_pos h] at hy; exact .inl ⟨h, hy⟩
      · rw [if_neg h] at hy; exact .inr ⟨by omega, hy⟩
    constructor
    · intro h; omega
    · intro h; omega
end
end Go.Proofs.YtdlfdieehioolaaDoor
/- New disks on both sides; the same values. -/
namespace Go.Proofs.YtdlfdieehioolaaDoor
open Go
set_option linter.unusedVariables false
set_option linter.unusedSimpArgs false
section
variable {n m k p i : Nat} {s u : Value} {L X V v : List Int} {h : Heap} {F G A Lx : Ch} {c : Cf} {z : Int} {cs : List Value} {ds vals : List (List Int)} {ws : List (Int × List Int)}
theorem supH_len : (supH c).length = 60 := by simp [supH, le_len]
theorem supB_len : (supB c).length = 64 := by rw [supB, List.length_append, supH_len, le_len]
def z0v : List Int := List.replicate 32 0
theorem z0v_len : z0v.length = 32 := List.length_replicate ..
theorem z0v_byt : Byt z0v := byt_zeros
def secs (X : List Int) (j : Nat) : List (List Int) := X :: (List.range j).map fun (i : Nat) => enc (i : Int) z0v
theorem secs_snoc {j : Nat} : (secs X (j + 1)).flatten = (secs X j).flatten ++ enc (j : Int) z0v := by
  simp [secs, List.range_succ]
theorem secs_len {j : Nat} (hX : X.length = 64) : (secs X j).flatten.length = 64 * (1 + j) := by
  induction j with
  | zero => simp [secs, hX]
  | succ j ih => rw [secs_snoc, List.length_append, ih, enc_len z0v_len]; omega
def dsN (c : Cf) : List (List Int) := secs (supB c) c.b.toNat ++ List.replicate c.l.toNat (List.replicate 64 (0 : Int))
theorem new_home (hk : c.ok = true) (hl : -9223372036854775808 ≤ c.l ∧ c.l ≤ 9223372036854775807) (hm0 : tabO ∈ F) (hm1 : tabP ∈ F) (ho : Own h F) (hn : 5000 ≤ n) :
    ∃ p h' Lx, f_home_New n (.agg ⟨c.cells⟩) h = some ((some ⟨p, 0, none⟩, (0, ())), h') ∧ Dk p (dsN c) [] Lx ∧ Own h' (Lx ++ F) := by
  obtain ⟨⟨b1, b2⟩, ⟨b3, b4⟩, _⟩ := Cf.bounds hk hl
  obtain ⟨nb, hnb⟩ : ∃ x : Nat, c.b = x := ⟨c.b.toNat, by omega⟩
  obtain ⟨nl, hnl⟩ : ∃ x : Nat, c.l = x := ⟨c.l.toNat, by omega⟩
  have o1 := ho.new (.cells c.cells false 0)
  generalize ht : h.next = t at o1
  generalize hh1 : h.new (.cells c.cells false 0) = h1 at o1
  obtain ⟨_, _, _, _, _, l5⟩ := Cf.ld' (c := c) o1.head
  obtain ⟨s2, h2, A2, e2, a2, o2⟩ := sencode_ok (n := n) hk hl (List.mem_cons_of_mem _ hm0) (List.mem_cons_of_mem _ hm1) o1 (by omega)
  obtain ⟨l0, _⟩ := Cf.ld' (c := c) (o2.get (t, .cells c.cells false 0) (by simp))
  rw [hnb] at l0
  have hX := supB_len (c := c)
  obtain ⟨X, hXe⟩ : ∃ X, X = supB c := ⟨_, rfl⟩
  rw [← hXe] at a2 hX
  obtain ⟨r, e3, s3, h3, rfl, A3, a3, o3⟩ := loopT_up (f := fun a => f_home_New_L14 n (nb : Int) a.1.1 a.1.2.1 a.2)
    (fun j (a : (Value × Int × Unit) × Heap) => a.1.2.1 = (j : Int) ∧ ∃ A, Slc 1 a.1.1 (secs X j).flatten.length (iz .u8 (secs X j).flatten) A ∧ Own a.2 (A ++ ((t, .cells c.cells false 0) :: F)))
    (fun r => ∃ s' h', r = .inl ((s', ()), h') ∧ ∃ A, Slc 1 s' (secs X nb).flatten.length (iz .u8 (secs X nb).flatten) A ∧ Own h' (A ++ ((t, .cells c.cells false 0) :: F))) (N := nb) (k := n) (j := 0) (a := ((s2, (0, ())), h2)) (by omega) (by omega)
    ⟨rfl, A2, by simpa [secs, hX] using a2, o2⟩
    (fun j a hj hi => by
      obtain ⟨⟨v, i0, _⟩, hq⟩ := a
      obtain ⟨e0, A, i1, i2⟩ := hi
      have e0 : i0 = (j : Int) := e0
      subst e0
      have i1 : Slc 1 v _ _ A := i1
      have i2 : Own hq _ := i2
      have hlt : (j : Int) < (nb : Int) := by omega
      have f9 : fillL (List.replicate 32 (.int .u8 0)) [] = some (iz .u8 z0v) := rfl
      obtain ⟨s4, h4, A4, e4, a4, o4⟩ := encode_ok (n := n) (k := (j : Int)) (V := z0v) (by omega) (by omega) z0v_len z0v_byt (List.mem_append_right _ (List.mem_cons_of_mem _ hm0)) i2 (by omega)
      have hel := enc_len (k := (j : Int)) z0v_len
      have hsl := secs_len (j := j) hX
      have o5 := o4.new (.cells [v, s4] false 1)
      generalize hb5 : h4.next = t5 at o5
      generalize hh5 : h4.new (.cells [v, s4] false 1) = h5 at o5
      obtain ⟨s6, h6, A6, e6, a6, o6⟩ := join_ok (n := n) (P := [(v, (secs X j).flatten), (s4, enc (j : Int) z0v)]) (u := .slice (some ⟨t5, 0, some 0⟩) 2 2)
        (G := (t5, .cells [v, s4] false 1) :: (A4 ++ A)) (h := h5) (F := (t, .cells c.cells false 0) :: F)
        ((lits (b := t5) (vs := [v, s4])).mono fun x hx => by simp only [List.mem_singleton] at hx; subst hx; exact List.mem_cons_self ..)
        (by
          intro x hx
          simp only [List.mem_cons, List.not_mem_nil, or_false] at hx
          rcases hx with rfl | rfl
          · exact i1.sow.mono fun x hx => by simp [hx]
          · rw [hel]; exact a4.sow.mono fun x hx => by simp [hx])
        (o5.to fun x => by simp only [cnt_append, cnt_cons, cnt_nil, List.cons_append]; omega) (by simp only [List.flatMap_cons, List.flatMap_nil, List.length_append, hsl, hel, List.length_nil]; omega) (by simp) (by omega)
      have hf : ([(v, (secs X j).flatten), (s4, enc (j : Int) z0v)] : List (Value × List Int)).flatMap (·.2) = (secs X (j + 1)).flatten := by rw [secs_snoc]; simp
      rw [hf] at a6
      refine .inl ⟨((s6, (((j + 1 : Nat) : Int), ())), h6), ?_, rfl, A6, a6, o6.to fun x => by simp only [cnt_append, cnt_cons]; omega⟩
      have f11 : fillL [.slice none 0 0, .slice none 0 0] [(0, 1, v), (1, 1, s4)] = some [v, s4] := by obtain ⟨x, y, rfl⟩ := i1.form; obtain ⟨x, y, rfl⟩ := a4.form; rfl
      simp only [f_home_New_L14, hlt, decide_true, cond_true, f9, Option.bind_some, e4, Bool.not_true, cond_false, f11, bnd_eq, hb5, hh5, e6, wrap_succ (show j < 4611686018427387904 by omega)])
    (fun a hi => by
      obtain ⟨⟨v, i0, _⟩, hq⟩ := a
      obtain ⟨e0, A, i1, i2⟩ := hi
      have e0 : i0 = (nb : Int) := e0
      subst e0
      have hlt : ¬ (nb : Int) < (nb : Int) := by omega
      exact ⟨.inl ((v, ()), hq), by simp only [f_home_New_L14, hlt, decide_false, cond_false], v, hq, rfl, A, i1, i2⟩)
  have e3 : f_home_New_C15 n h ((s2, (0, ())), h2) h2 = some (.inl ((s3, ()), h3)) := by
    simp only [f_home_New_C15, nwA_eq, ht, fa_mk, Nat.zero_add, l0, Option.bind_some]
    exact e3
  obtain ⟨_, l1, _⟩ := Cf.ld' (c := c) (o3.get (t, .cells c.cells false 0) (by simp))
  rw [hnl] at l1
  -- the log's sectors
  have m4 := mkSl_of (nx := h3.next) (bytes := 1) (es := 1) (zs := [.int .u8 0]) (k := .i64) (k' := .i64) (l := 64 * nl) (c := 64 * nl) (by omega) (by omega) (by omega)
  have hz4 : (List.replicate (64 * nl) [Value.int .u8 0]).flatten = iz .u8 (List.replicate (64 * nl) 0) := by rw [flat_rep1, iz_rep]
  rw [hz4] at m4
  have o4 := o3.new (.cells (iz .u8 (List.replicate (64 * nl) 0)) false 1)
  generalize hb4 : h3.next = t4 at m4 o4
  generalize hh4 : h3.new (.cells (iz .u8 (List.replicate (64 * nl) 0)) false 1) = h4 at o4
  have y4 : Sow 1 (.slice (some ⟨t4, 0, some 0⟩) (64 * nl) (64 * nl)) (List.replicate (64 * nl) (0 : Int)).length (iz .u8 (List.replicate (64 * nl) 0)) [(t4, .cells (iz .u8 (List.replicate (64 * nl) 0)) false 1)] := by
    have := lits (b := t4) (vs := iz .u8 (List.replicate (64 * nl) 0))
    simpa [iz] using this
  have o5 := o4.new (.cells [s3, .slice (some ⟨t4, 0, some 0⟩) (64 * nl) (64 * nl)] false 1)
  generalize hb5 : h4.next = t5 at o5
  generalize hh5 : h4.new (.cells [s3, .slice (some ⟨t4, 0, some 0⟩) (64 * nl) (64 * nl)] false 1) = h5 at o5
  have hsl := secs_len (j := nb) hX
  obtain ⟨s6, h6, A6, e6, a6, o6⟩ := join_ok (n := n) (P := [(s3, (secs X nb).flatten), (.slice (some ⟨t4, 0, some 0⟩) (64 * nl) (64 * nl), List.replicate (64 * nl) 0)]) (u := .slice (some ⟨t5, 0, some 0⟩) 2 2)
    (G := (t5, .cells [s3, .slice (some ⟨t4, 0, some 0⟩) (64 * nl) (64 * nl)] false 1) :: (t4, .cells (iz .u8 (List.replicate (64 * nl) 0)) false 1) :: A3) (h := h5) (F := (t, .cells c.cells false 0) :: F)
    ((lits (b := t5) (vs := [s3, .slice (some ⟨t4, 0, some 0⟩) (64 * nl) (64 * nl)])).mono fun x hx => by simp only [List.mem_singleton] at hx; subst hx; exact List.mem_cons_self ..)
    (by
      intro x hx
      simp only [List.mem_cons, List.not_mem_nil, or_false] at hx
      rcases hx with rfl | rfl
      · exact a3.sow.mono fun x hx => by simp [hx]
      · exact y4.mono fun x hx => by simp only [List.mem_singleton] at hx; subst hx; simp)
    (o5.to fun x => by simp only [cnt_append, cnt_cons, cnt_nil, List.cons_append]; omega) (by simp only [List.flatMap_cons, List.flatMap_nil, List.length_append, hsl, List.length_replicate, List.length_nil]; omega) (by simp) (by omega)
  have hf6 : ([(s3, (secs X nb).flatten), ((.slice (some ⟨t4, 0, some 0⟩) (64 * nl) (64 * nl) : Value), List.replicate (64 * nl) (0 : Int))] : List (Value × List Int)).flatMap (·.2) = (secs X nb ++ List.replicate nl (List.replicate 64 0)).flatten := by
    simp only [List.flatMap_cons, List.flatMap_nil, List.append_nil, List.flatten_append, List.flatten_replicate_replicate, Nat.mul_comm nl 64]
  rw [hf6] at a6
  obtain ⟨ds, hds⟩ : ∃ ds, ds = secs X nb ++ List.replicate nl (List.replicate 64 (0 : Int)) := ⟨_, rfl⟩
  rw [← hds] at a6
  have hdl : ds.length = 1 + nb + nl := by rw [hds]; simp [secs]; omega
  have hdd : ∀ d ∈ ds, (iz .u8 d).length = 64 := by
    intro d hd
    rw [hds] at hd
    rcases List.mem_append.1 hd with hd | hd
    · rcases List.mem_cons.1 hd with rfl | hd
      · simp [hX]
      · obtain ⟨i, _, rfl⟩ := List.mem_map.1 hd
        simp [enc_len (k := (i : Int)) z0v_len]
    · rw [List.eq_of_mem_replicate hd]; simp
  have hfl : ds.flatten.length = ds.length * 64 := by
    have := flat_len hdd
    rw [← iz_flatten] at this
    simpa using this
  rw [hfl, iz_flatten] at a6
  obtain ⟨p, h7, L7, e7, d7, o7⟩ := load_ok (n := n) a6 (h := h6) o6 hdd (by omega) (by omega) (by omega)
  have hdn : dsN c = ds := by
    rw [hds, dsN, show c.b.toNat = nb by omega, show c.l.toNat = nl by omega, hXe]
  rw [hdn]
  refine ⟨p, h7, L7, ?_, d7, o7.to fun x => by simp only [cnt_append, cnt_cons]; omega⟩
  · have hco : cellsOf (.agg ⟨c.cells⟩) = c.cells := rfl
    have f1 : fillL [.int .i64 0, .int .i64 0, .int .i64 0, .int .i64 0, .int .i64 0, .int .u64 0, .int .u64 0] [(0, 5, .agg ⟨c.cells⟩), (6, 1, .int .u64 1)] = some c.sup := rfl
    have w64l : IntKind.i64.wrap (64 * (nl : Int)) = ((64 * nl : Nat) : Int) := by rw [wrap_i64 (by omega) (by omega)]; omega
    have f11 : fillL [.slice none 0 0, .slice none 0 0] [(0, 1, s3), (1, 1, .slice (some ⟨t4, 0, some 0⟩) (64 * nl) (64 * nl))] = some [s3, .slice (some ⟨t4, 0, some 0⟩) (64 * nl) (64 * nl)] := by obtain ⟨x, y, rfl⟩ := a3.form; rfl
    simp only [f_home_New, hco, cf_cell, cond_true, bnd_eq, hh1, nwA_eq, ht, l5, f1, e2, Option.bind_some, decide_true, Bool.not_true, cond_false, e3, thenB_inl, fa_mk, Nat.zero_add, l1, w64l, hb4, m4, hh4, f11, hb5, hh5, e6, e7]
theorem supH_byt (hk : c.ok = true) (hl : -9223372036854775808 ≤ c.l ∧ c.l ≤ 9223372036854775807) : Byt (supH c) := by
  obtain ⟨⟨b1, b2⟩, ⟨b3, b4⟩, ⟨b5, b6⟩, ⟨b7, b8⟩, b9, b10⟩ := Cf.bounds hk hl
  refine Byt.append ?_ (Byt.append le_byt (Byt.append le_byt byt_zeros))
  intro z hz
  simp only [List.mem_cons, List.not_mem_nil, or_false] at hz
  rcases hz with h | h | h | h | h | h | h | h | h | h | h | h | h | h | h | h <;> omega
theorem supB_byt (hk : c.ok = true) (hl : -9223372036854775808 ≤ c.l ∧ c.l ≤ 9223372036854775807) : Byt (supB c) := Byt.append (supH_byt hk hl) le_byt
theorem dsN_byt (hk : c.ok = true) (hl : -9223372036854775808 ≤ c.l ∧ c.l ≤ 9223372036854775807) : Byts (dsN c) [] := by
  obtain ⟨⟨b1, b2⟩, _⟩ := Cf.bounds hk hl
  refine ⟨fun d hd => ?_, fun w hw => absurd hw List.not_mem_nil⟩
  rcases List.mem_append.1 hd with hd | hd
  · rcases List.mem_cons.1 hd with rfl | hd
    · exact supB_byt hk hl
    · obtain ⟨i, hi, rfl⟩ := List.mem_map.1 hd
      have := List.mem_range.1 hi
      exact enc_byt (by omega) (by omega) z0v_byt
  · rw [List.eq_of_mem_replicate hd]; exact byt_zeros
theorem dsN_len (hk : c.ok = true) (hl : -9223372036854775808 ≤ c.l ∧ c.l ≤ 9223372036854775807) : ((dsN c).length : Int) = 1 + c.b + c.l := by
  obtain ⟨⟨b1, b2⟩, ⟨b3, b4⟩, _⟩ := Cf.bounds hk hl
  simp [dsN, secs]; omega
end
end Go.Proofs.YtdlfdieehioolaaDoor
/- The desk: the same on both sides. -/
namespace Go.Proofs.YtdlfdieehioolaaDoor
open Go
set_option linter.unusedVariables false
set_option linter.unusedSimpArgs false
def dkc (p r : Nat) (c : Cf) (sT sW : Value) : List Value := .pointer (some ⟨p, 0, none⟩) :: .pointer (some ⟨r, 0, none⟩) :: (c.cells ++ [sT, sW])
def dkO (p r : Nat) (c : Cf) (sT sW : Value) : AObj := .cells (dkc p r c sT sW) false 0
end Go.Proofs.YtdlfdieehioolaaDoor
/- The desk: steps. -/
namespace Go.Proofs.YtdlfdieehioolaaDoor
open Go
set_option linter.unusedVariables false
set_option linter.unusedSimpArgs false
structure DOp where
  kind : Int
  block : Int
  val : List Int
  raw : Value
  keep : Value
  oc : Cf
  odd : Bool
def DOp.cells (o : DOp) : List Value := .int .i64 o.kind :: .int .i64 o.block :: (iz .u8 o.val ++ (o.raw :: o.keep :: (o.oc.cells ++ [.bool o.odd])))
def DOp.cf (o : DOp) (c : Cf) : Cf := if o.odd then o.oc else c
structure DOp.ok (o : DOp) (R K : List Int) (G : Ch) : Prop where
  v : o.val.length = 32
  vb : Byt o.val
  r : Sow 1 o.raw R.length (iz .u8 R) G
  rf : ∃ a k c, o.raw = .slice a k c
  rb : Byt R
  k : Sow 1 o.keep K.length (iz .i64 K) G
  kf : ∃ a k c, o.keep = .slice a k c
  cw : o.oc.wf
section
variable {n m k p r q i : Nat} {s u sT sW : Value} {L X V v R K : List Int} {h : Heap} {F G A Lp Lr : Ch} {c : Cf} {z : Int} {cs : List Value} {ds vals : List (List Int)} {ws : List (Int × List Int)} {ro : Bool} {o : DOp}
theorem DOp.all (ho : o.ok R K G) : (o.cells).all isCell = true := by
  obtain ⟨a, k, c, e1⟩ := ho.rf
  obtain ⟨a', k', c', e2⟩ := ho.kf
  simp only [DOp.cells, List.all_cons, List.all_append, iz_cell, cf_cell, e1, e2]
  rfl
theorem DOp.get (hv : o.val.length = 32) {j : Nat} : (o.cells)[34 + j]? = (o.raw :: o.keep :: (o.oc.cells ++ [.bool o.odd]))[j]? := by
  rw [DOp.cells, show 34 + j = (32 + j) + 2 by omega]
  simp only [List.getElem?_cons_succ]
  rw [List.getElem?_append_right (by simp; omega)]
  congr 1; simp; omega
theorem Byts.ak {P : Nat → Bool} (hB : Byts ds ws) : ∀ {j : Nat}, j ≤ ws.length → Byts (ak P ws j ds) [] := by
  intro j
  induction j with
  | zero => intro _; exact ⟨hB.d, fun w hw => absurd hw List.not_mem_nil⟩
  | succ j ih =>
    intro hj
    rw [ak_succ (show j < ws.length by omega)]
    split
    · refine ⟨fun d hd => ?_, fun w hw => absurd hw List.not_mem_nil⟩
      rcases List.mem_or_eq_of_mem_set hd with hd | hd
      · exact (ih (by omega)).d d hd
      · rw [hd]; exact hB.w _ (List.getElem_mem _)
    · exact ih (by omega)
end
end Go.Proofs.YtdlfdieehioolaaDoor
/- The desk: each kind of step. -/
namespace Go.Proofs.YtdlfdieehioolaaDoor
open Go
set_option linter.unusedVariables false
set_option linter.unusedSimpArgs false
theorem hl3 {a b c : Nat × AObj} : ∀ x, x ∈ [a.1, a.1, b.1, c.1] ↔ ∃ z ∈ [a, b, c], z.1 = x := by
  intro x
  constructor
  · intro h
    simp only [List.mem_cons, List.not_mem_nil, or_false] at h
    rcases h with rfl | rfl | rfl | rfl
    · exact ⟨a, by simp, rfl⟩
    · exact ⟨a, by simp, rfl⟩
    · exact ⟨b, by simp, rfl⟩
    · exact ⟨c, by simp, rfl⟩
  · rintro ⟨z, h, rfl⟩
    simp only [List.mem_cons, List.not_mem_nil, or_false] at h
    rcases h with rfl | rfl | rfl <;> simp
theorem hl2 {a b : Nat × AObj} : ∀ x, x ∈ [a.1, b.1] ↔ ∃ z ∈ [a, b], z.1 = x := by
  intro x
  constructor
  · intro h
    simp only [List.mem_cons, List.not_mem_nil, or_false] at h
    rcases h with rfl | rfl
    · exact ⟨a, by simp, rfl⟩
    · exact ⟨b, by simp, rfl⟩
  · rintro ⟨z, h, rfl⟩
    simp only [List.mem_cons, List.not_mem_nil, or_false] at h
    rcases h with rfl | rfl <;> simp
theorem hl1 {a : Nat × AObj} : ∀ x, x ∈ [a.1] ↔ ∃ z ∈ [a], z.1 = x := by
  intro x
  simp [eq_comm]
theorem hl0 : ∀ x, x ∈ ([] : List Nat) ↔ ∃ z ∈ ([] : Ch), z.1 = x := by
  intro x; simp
end Go.Proofs.YtdlfdieehioolaaDoor
/- The desk: All, told and kept. -/
namespace Go.Proofs.YtdlfdieehioolaaDoor
open Go
set_option linter.unusedVariables false
set_option linter.unusedSimpArgs false
structure Te where
  v : Value
  A : Ch
  V : List (List Int)
def Te.ok (e : Te) : Prop := Slc 32 e.v e.V.length (e.V.flatMap (iz .u8)) e.A ∧ (∀ w ∈ e.V, w.length = 32) ∧ e.V.length ≤ 64
end Go.Proofs.YtdlfdieehioolaaDoor
/- The law: a new disk of every configuration, and every script on it. -/
namespace Go.Proofs.YtdlfdieehioolaaDoor
open Go
set_option linter.unusedVariables false
set_option linter.unusedSimpArgs false
def Dsk (q p r : Nat) (c : Cf) (ds : List (List Int)) (ws : List (Int × List Int)) (nT : Nat) (cT cW : List Value) (L : Ch) : Prop :=
  ∃ sT sW Lp Lr UT UW, Dk p ds ws Lp ∧ Rd' r ds ws Lr ∧ Slc 1 sT nT cT UT ∧ Slc 1 sW nT cW UW ∧ L = (q, dkO p r c sT sW) :: (UT ++ (UW ++ (Lp ++ Lr)))
structure Pd (q p r : Nat) (c : Cf) (N kk mm : Nat) (T W : List Te) (L : Ch) (cT cW : List Value) (ds : List (List Int)) (ws : List (Int × List Int)) : Prop where
  d : Dsk q p r c ds ws mm cT cW L
  n : ds.length = N
  w : ws.length ≤ kk
  b : Byts ds ws
section
variable {n m k p r q i nT nW : Nat} {s u sT sW u1 : Value} {L X V v R K : List Int} {h : Heap} {F G A Lp Lr UT UW Ld : Ch} {c : Cf} {z : Int} {cs cT cW : List Value} {ds vals : List (List Int)} {ws : List (Int × List Int)} {ro : Bool} {o : DOp} {T0 : Nat → Option AFun} {ops : List DOp}
theorem DOp.ok.mono {G' : Ch} (h : o.ok R K G) (hm : ∀ x ∈ G, x ∈ G') : o.ok R K G' := ⟨h.v, h.vb, fun hh hg => h.r hh fun x hx => hg x (hm x hx), h.rf, h.rb, fun hh hg => h.k hh fun x hx => hg x (hm x hx), h.kf, h.cw⟩
end
end Go.Proofs.YtdlfdieehioolaaDoor
/- Numbers out of bytes, fields; the ring. -/
namespace Go.Proofs.YtdlfdieehioolaaDoor
open Go
set_option linter.unusedVariables false
set_option linter.unusedSimpArgs false
def numN : List Int → Nat
  | [] => 0
  | z :: t => z.toNat + 256 * numN t
theorem numN_lt : ∀ {L : List Int}, Byt L → numN L < 256 ^ L.length := by
  intro L
  induction L with
  | nil => intro _; decide
  | cons z t ih =>
    intro h
    have h1 := h z (List.mem_cons_self ..)
    have h2 := ih fun x hx => h x (List.mem_cons_of_mem _ hx)
    rw [numN, List.length_cons, Nat.pow_succ]
    omega
theorem numN_le : ∀ {w x : Nat}, x < 256 ^ w → numN (le x w) = x := by
  intro w
  induction w with
  | zero => intro x hx; simp at hx; subst hx; rfl
  | succ w ih =>
    intro x hx
    rw [Nat.pow_succ] at hx
    rw [le, numN, ih (by omega), Int.toNat_natCast]
    omega
theorem shl8_b {a : Nat} (ha : a < 72057594037927936) : bitB .shl .u64 (a : Int) .u64 8 = some ((a * 256 : Nat) : Int) := by
  have e : bitB .shl .u64 (a : Int) .u64 8 = some (IntKind.u64.wrap ((a : Int) * 2 ^ 8)) := rfl
  rw [e]
  have : IntKind.u64.wrap ((a : Int) * 2 ^ 8) = ((a : Int) * 2 ^ 8) % 2 ^ 64 := by simp [IntKind.wrap, IntKind.signed, IntKind.bits]
  rw [this]; congr 1; omega
theorem or_b {a b : Nat} (ha : a < 72057594037927936) (hb : b < 256) : bitB .or .u64 ((a * 256 : Nat) : Int) .u64 (b : Int) = some ((a * 256 + b : Nat) : Int) := by
  have e1 : (((a * 256 : Nat) : Int) % 2 ^ 64).toNat = a * 256 := by omega
  have e2 : ((b : Int) % 2 ^ 64).toNat = b := by omega
  have e : bitB .or .u64 ((a * 256 : Nat) : Int) .u64 (b : Int) = some (IntKind.u64.wrap ((((((a * 256 : Nat) : Int) % 2 ^ 64).toNat ||| ((b : Int) % 2 ^ 64).toNat : Nat)) : Int)) := rfl
  have e3 : a * 256 ||| b = a * 256 + b := by
    have := Nat.shiftLeft_add_eq_or_of_lt (i := 8) hb a
    rw [Nat.shiftLeft_eq] at this
    exact this.symm
  rw [e, e1, e2, e3]
  have : IntKind.u64.wrap ((a * 256 + b : Nat) : Int) = ((a * 256 + b : Nat) : Int) % 2 ^ 64 := by simp [IntKind.wrap, IntKind.signed, IntKind.bits]
  rw [this]; congr 1; omega
theorem wrap_u64z {x : Int} (h1 : 0 ≤ x) (h2 : x < 18446744073709551616) : IntKind.u64.wrap x = x := by
  have : IntKind.u64.wrap x = x % 2 ^ 64 := by simp [IntKind.wrap, IntKind.signed, IntKind.bits]
  rw [this]; omega
section
variable {n m b off i j c : Nat} {sp : Option Nat} {s u v : Value} {L M X Y : List Int} {t z : Int} {h : Heap} {G F A B : Ch} {cs pre rest : List Value}
theorem number_ok (hr : Rds h 1 s L.length (iz .u8 L)) (hL : Byt L) (h8 : L.length ≤ 8) (hn : 100 ≤ n) : f_octet_number n s h = some (((numN L : Int), ()), h) := by
  obtain ⟨⟨⟨v, _⟩, h'⟩, e, q⟩ := loopT_up (f := fun a => f_octet_number_L8 n s a.1.1 a.1.2.1 a.2)
    (fun j (a : (Int × Int × Unit) × Heap) => a = (((numN (L.drop (L.length - j)) : Int), (((L.length : Int) - 1 - (j : Int)), ())), h)) (fun r => r = (((numN L : Int), ()), h)) (N := L.length) (k := n) (j := 0) (a := ((0, (((L.length : Int) - 1), ())), h)) (by omega) (by omega)
    (by rw [Nat.sub_zero, List.drop_length]; simp [numN])
    (fun j a hj hi => by
      subst hi
      have hlt : (0 : Int) ≤ (L.length : Int) - 1 - (j : Int) := by omega
      have hix : (L.length : Int) - 1 - (j : Int) = ((L.length - 1 - j : Nat) : Int) := by omega
      obtain ⟨q, g1, g2⟩ := hr.int (i := L.length - 1 - j) (by omega)
      have hby : Byt (L.drop (L.length - j)) := fun x hx => hL x (List.mem_of_mem_drop hx)
      have hlt2 := numN_lt hby
      have hpw : 256 ^ (L.drop (L.length - j)).length ≤ 256 ^ 7 := Nat.pow_le_pow_right (by decide) (by rw [List.length_drop]; omega)
      have h7 : (256 : Nat) ^ 7 = 72057594037927936 := by decide
      have hx := hL _ (List.getElem_mem (l := L) (n := L.length - 1 - j) (by omega))
      obtain ⟨y, hy⟩ : ∃ y : Nat, L[L.length - 1 - j]'(by omega) = (y : Int) := ⟨(L[L.length - 1 - j]'(by omega)).toNat, by omega⟩
      have e1 := shl8_b (a := numN (L.drop (L.length - j))) (by omega)
      have e2 := or_b (a := numN (L.drop (L.length - j))) (b := y) (by omega) (by omega)
      have w1 : IntKind.u64.wrap (y : Int) = (y : Int) := wrap_u64z (by omega) (by omega)
      have w2 : IntKind.i64.wrap (((L.length - 1 - j : Nat) : Int) - 1) = (L.length : Int) - 1 - ((j + 1 : Nat) : Int) := by rw [wrap_i64 (by omega) (by omega)]; omega
      have hd : numN (L.drop (L.length - (j + 1))) = numN (L.drop (L.length - j)) * 256 + y := by
        have : L.drop (L.length - (j + 1)) = L[L.length - 1 - j]'(by omega) :: L.drop (L.length - j) := by
          have := List.drop_eq_getElem_cons (l := L) (i := L.length - 1 - j) (by omega)
          rw [show L.length - 1 - j + 1 = L.length - j by omega] at this
          rw [show L.length - (j + 1) = L.length - 1 - j by omega]
          exact this
        rw [this, numN, hy, Int.toNat_natCast]; omega
      rw [hix]
      refine .inl ⟨(((numN (L.drop (L.length - (j + 1))) : Int), (((L.length : Int) - 1 - ((j + 1 : Nat) : Int)), ())), h), ?_, rfl⟩
      rw [hix] at hlt
      simp only [f_octet_number_L8, hlt, decide_true, cond_true, e1, Option.bind_some, g1, g2, hy, w1, e2, w2, hd])
    (fun a hi => by
      subst hi
      have hlt : ¬ (0 : Int) ≤ (L.length : Int) - 1 - (L.length : Int) := by omega
      rw [Nat.sub_self, List.drop_zero]
      exact ⟨(((numN L : Int), ()), h), by simp only [f_octet_number_L8, hlt, decide_false, cond_false], rfl⟩)
  have w0 : IntKind.i64.wrap ((L.length : Int) - 1) = (L.length : Int) - 1 := by rw [wrap_i64 (by omega) (by omega)]
  simp only [f_octet_number, hr.lenB, Option.bind_some, w0, e, q]
def flds : List Int → List Nat → List Int
  | _, [] => []
  | L, w :: ws => (numN (L.take w) : Int) :: flds (L.drop w) ws
theorem flds_snoc {w : Nat} : ∀ {ws : List Nat} {L : List Int}, flds L (ws ++ [w]) = flds L ws ++ [(numN ((L.drop ws.sum).take w) : Int)] := by
  intro ws
  induction ws with
  | nil => intro L; simp [flds]
  | cons x ws ih => intro L; simp only [List.cons_append, flds, ih, List.sum_cons, List.drop_drop]
theorem sum_take_le : ∀ {ws : List Nat} {j : Nat}, (ws.take j).sum ≤ ws.sum := by
  intro ws
  induction ws with
  | nil => intro j; simp
  | cons w ws ih =>
    intro j
    cases j with
    | zero => simp
    | succ j => simp only [List.take_succ_cons, List.sum_cons]; have := ih (j := j); omega
theorem octmay_ok : f_octet_may n z h = some (((decide (1 ≤ z) && decide (z ≤ 8)), ()), h) := by
  unfold f_octet_may
  cases decide (1 ≤ z) <;> rfl
end
end Go.Proofs.YtdlfdieehioolaaDoor
/- Pieces of bytes; fields; slots. -/
namespace Go.Proofs.YtdlfdieehioolaaDoor
open Go
set_option linter.unusedVariables false
set_option linter.unusedSimpArgs false
def Pc (xs : List Value) (s : Value) (b : Nat) (L : List Int) : Prop := ∃ off sp c, s = .slice (some ⟨b, off, sp⟩) L.length c ∧ (xs.drop off).take L.length = iz .u8 L ∧ off + L.length ≤ xs.length ∧ L.length ≤ c
section
variable {n m b off i j c k es : Nat} {sp : Option Nat} {s u v u0 u1 : Value} {L M X Y : List Int} {t z : Int} {h : Heap} {G F A B : Ch} {cs pre rest xs : List Value} {ro : Bool} {ws : List Nat}
theorem Pc.sow (hp : Pc xs s b L) : Sow 1 s L.length (iz .u8 L) [(b, .cells xs ro es)] := by
  obtain ⟨off, sp, c, rfl, h1, h2, h3⟩ := hp
  rw [← h1]
  exact Sow.piece h2
theorem Pc.rds (hp : Pc xs s b L) (ho : Own h ((b, .cells xs ro es) :: F)) : Rds h 1 s L.length (iz .u8 L) := (hp.sow (ro := ro) (es := es)).rds (F := F) ho
theorem Pc.lenB (hp : Pc xs s b L) : Go.Proofs.YtdlfdieehioolaaDoor.lenB s = some L.length := by obtain ⟨off, sp, c, rfl, _⟩ := hp; rfl
theorem Pc.lh (hp : Pc xs s b L) (hij : i ≤ j) (hj : j ≤ L.length) : ∃ s', sliceK h 1 (some (.int .i64 (i : Int))) (some (.int .i64 (j : Int))) none s = some (s', h) ∧ Pc xs s' b ((L.drop i).take (j - i)) := by
  obtain ⟨off, sp, c, rfl, h1, h2, h3⟩ := hp
  have hl : ((L.drop i).take (j - i)).length = j - i := by rw [List.length_take, List.length_drop]; omega
  refine ⟨_, sliceK_lh hij (by omega), off + i * 1, sp, c - i, by rw [hl], ?_, by rw [hl]; omega, by rw [hl]; omega⟩
  rw [hl, Nat.mul_one, ← List.drop_drop]
  have : ((xs.drop off).drop i).take (j - i) = (((xs.drop off).take L.length).drop i).take (j - i) := by
    rw [List.drop_take, List.take_take, Nat.min_eq_left (by omega)]
  rw [this, h1]
  simp [iz, List.map_take, List.map_drop]
theorem Pc.lo (hp : Pc xs s b L) (hi : i ≤ L.length) : ∃ s', sliceK h 1 (some (.int .i64 (i : Int))) none none s = some (s', h) ∧ Pc xs s' b (L.drop i) := by
  obtain ⟨s', e, hp'⟩ := hp.lh (h := h) hi (Nat.le_refl L.length)
  obtain ⟨off, sp, c, rfl, h1, h2, h3⟩ := hp
  have e2 := sliceK_l (h := h) (es := 1) (k' := .i64) (b := b) (off := off) (sp := sp) (n := L.length) (c := c) (j := i) hi h3
  rw [sliceK_lh hi h3] at e
  cases e
  refine ⟨_, e2, ?_⟩
  rwa [List.take_of_length_le (by rw [List.length_drop]; exact Nat.le_refl _)] at hp'
theorem Pc.hi (hp : Pc xs s b L) (hj : j ≤ L.length) : ∃ s', sliceK h 1 none (some (.int .i64 (j : Int))) none s = some (s', h) ∧ Pc xs s' b (L.take j) := by
  obtain ⟨off, sp, c, rfl, h1, h2, h3⟩ := hp
  have hl : (L.take j).length = j := by rw [List.length_take]; omega
  refine ⟨_, sliceK_h (by omega), off, sp, c, by rw [hl], ?_, by rw [hl]; omega, by rw [hl]; omega⟩
  rw [hl]
  have : (xs.drop off).take j = ((xs.drop off).take L.length).take j := by rw [List.take_take, Nat.min_eq_left hj]
  rw [this, h1]
  simp [iz, List.map_take]
theorem Slc.pc (hs : Slc 1 s L.length (iz .u8 L) A) (h0 : L ≠ []) : ∃ b xs, A = [(b, .cells xs false 1)] ∧ Pc xs s b L := by
  generalize hcs : iz .u8 L = cs at hs
  generalize hm : L.length = m at hs
  cases hs with
  | nil => exact absurd (List.eq_nil_of_length_eq_zero hm) h0
  | @mk' b off sp _ c pre _ rest hp hl hr =>
    subst hcs hm hp
    refine ⟨b, _, rfl, pre.length, sp, c, rfl, ?_, by simp, hr.1 (Nat.le_refl _)⟩
    rw [List.drop_left]
    have := List.take_left (l₁ := iz .u8 L) (l₂ := rest)
    rwa [iz_length] at this
theorem c9_ok (hs : Sow 1 u ws.length (iz .i64 (ws.map fun (w : Nat) => (w : Int))) G) (hw : ∀ w ∈ ws, 1 ≤ w ∧ w ≤ 8) (ho : Own h (G ++ F)) (hl : ws.length ≤ 100) (hn : 2000 ≤ n) : f_octet_Fields_C9 n u h = some (.inl ((.slice none 0 0, ()), h)) := by
  have rr := hs.rds ho
  obtain ⟨r, e, q⟩ := loopT_up (f := fun a => f_octet_Fields_L8 n u ws.length a.1.1 a.1.2.1 a.2)
    (fun j (a : (Value × Int × Unit) × Heap) => a = ((.slice none 0 0, ((j : Int), ())), h)) (fun r => r = .inl ((.slice none 0 0, ()), h)) (N := ws.length) (k := n) (j := 0) (a := ((.slice none 0 0, (0, ())), h)) (by omega) (by omega) rfl
    (fun j a hj hi => by
      subst hi
      have hlt : (j : Int) < (ws.length : Int) := by omega
      obtain ⟨q, g1, g2⟩ := rr.intn (by simp) hj
      rw [List.getElem_map] at g2
      obtain ⟨w1, w2⟩ := hw _ (List.getElem_mem hj)
      have h1 : (1 : Int) ≤ (ws[j] : Int) := by omega
      have h2 : (ws[j] : Int) ≤ 8 := by omega
      exact .inl ⟨((.slice none 0 0, (((j + 1 : Nat) : Int), ())), h), by simp only [f_octet_Fields_L8, hlt, decide_true, cond_true, g1, g2, Option.bind_some, octmay_ok, h1, h2, Bool.and_self, Bool.not_true, cond_false, wrap_succ (show j < 4611686018427387904 by omega)], rfl⟩)
    (fun a hi => by
      subst hi
      have hlt : ¬ (ws.length : Int) < (ws.length : Int) := by omega
      exact ⟨.inl ((.slice none 0 0, ()), h), by simp only [f_octet_Fields_L8, hlt, decide_false, cond_false], rfl⟩)
  subst q
  simp only [f_octet_Fields_C9, rr.lenB, Option.bind_some, e]
theorem fields_ok (hp : Pc xs u0 b L) (hs : Sow 1 u1 ws.length (iz .i64 (ws.map fun (w : Nat) => (w : Int))) G) (hw : ∀ w ∈ ws, 1 ≤ w ∧ w ≤ 8) (hsum : ws.sum ≤ L.length) (hL : Byt L) (hl : L.length ≤ 1000) (hwl : ws.length ≤ 100) (hn : 3000 ≤ n)
    (ho : Own h ((b, .cells xs ro es) :: (G ++ F))) :
    ∃ v w h' A, f_octet_Fields n u0 u1 h = some ((v, (w, (0, ()))), h') ∧ Slc 1 v ws.length (iz .u64 (flds L ws)) A ∧ Own h' (A ++ ((b, .cells xs ro es) :: (G ++ F))) := by
  have e9 := c9_ok (n := n) hs hw (h := h) (F := (b, .cells xs ro es) :: F) (ho.to fun x => by simp only [cnt_append, cnt_cons]; omega) hwl (by omega)
  have hlb := (hs.rds (h := h) (F := (b, .cells xs ro es) :: F) (ho.to fun x => by simp only [cnt_append, cnt_cons]; omega)).lenB
  obtain ⟨r, e, v13, v14, h', A, q0, q1, q2, q3⟩ := loopT_up (f := fun a => f_octet_Fields_L26 n u1 ws.length a.1.1 a.1.2.1 a.1.2.2.1 a.2)
    (fun j (a : (Value × Value × Int × Unit) × Heap) => a.1.2.2.1 = (j : Int) ∧ Pc xs a.1.1 b (L.drop (ws.take j).sum) ∧ ∃ A, Slc 1 a.1.2.1 j (iz .u64 (flds L (ws.take j))) A ∧ Own a.2 (A ++ ((b, .cells xs ro es) :: (G ++ F))))
    (fun r => ∃ v13 v14 h' A, r = .inl ((v13, (v14, ())), h') ∧ Pc xs v13 b (L.drop ws.sum) ∧ Slc 1 v14 ws.length (iz .u64 (flds L ws)) A ∧ Own h' (A ++ ((b, .cells xs ro es) :: (G ++ F)))) (N := ws.length) (k := n) (j := 0) (a := ((u0, (.slice none 0 0, (0, ()))), h)) (by omega) (by omega)
    ⟨rfl, by simpa using hp, [], .nil, ho⟩
    (fun j a hj hi => by
      obtain ⟨⟨v13, v14, z, _⟩, h16⟩ := a
      obtain ⟨e0, p1, A, y, o⟩ := hi
      have e0 : z = (j : Int) := e0
      subst e0
      have o : Own h16 _ := o
      have y : Slc 1 v14 _ _ _ := y
      have p1 : Pc xs v13 b _ := p1
      have hlt : (j : Int) < (ws.length : Int) := by omega
      obtain ⟨q, g1, g2⟩ := (hs.rds (h := h16) (F := A ++ ((b, .cells xs ro es) :: F)) (o.to fun x => by simp only [cnt_append, cnt_cons]; omega)).intn (by simp) hj
      rw [List.getElem_map] at g2
      obtain ⟨w1, w2⟩ := hw _ (List.getElem_mem hj)
      have hst : (ws.take (j + 1)).sum = (ws.take j).sum + ws[j] := by rw [take_snoc hj, List.sum_append_nat, List.sum_singleton]
      have hle := sum_take_le (ws := ws) (j := j + 1)
      have hdl : (L.drop (ws.take j).sum).length = L.length - (ws.take j).sum := List.length_drop
      have hnl : ¬ (((L.drop (ws.take j).sum).length : Int) < (ws[j] : Int)) := by omega
      obtain ⟨s20, e20, p20⟩ := p1.hi (h := h16) (j := ws[j]) (by omega)
      have hby : Byt ((L.drop (ws.take j).sum).take ws[j]) := fun x hx => hL x (List.mem_of_mem_drop (List.mem_of_mem_take hx))
      have e21 := number_ok (n := n) (p20.rds (h := h16) (F := A ++ (G ++ F)) (ro := ro) (es := es) (o.to fun x => by simp only [cnt_append, cnt_cons]; omega)) hby (by rw [List.length_take]; omega) (by omega)
      obtain ⟨N, hN⟩ : ∃ N, numN ((L.drop (ws.take j).sum).take ws[j]) = N := ⟨_, rfl⟩
      rw [hN] at e21
      have f22 : fillL [.int .u64 0] [(0, 1, .int .u64 (N : Int))] = some [.int .u64 (N : Int)] := rfl
      obtain ⟨v24, h24, A24, e24, y24, o24⟩ := y.push (new := [.int .u64 (N : Int)]) (h := h16) o (by decide) rfl (bytes := 8) (by omega)
      obtain ⟨s25, e25, p25⟩ := p1.lo (h := h24) (i := ws[j]) (by omega)
      refine .inl ⟨((s25, (v24, (((j + 1 : Nat) : Int), ()))), h24), by simp only [f_octet_Fields_L26, hlt, decide_true, cond_true, g1, g2, Option.bind_some, p1.lenB, hnl, decide_false, cond_false, e20, e21, f22, bnd_eq, e24, e25, wrap_succ (show j < 4611686018427387904 by omega)], rfl, ?_, A24, ?_, o24⟩
      · rw [hst, ← List.drop_drop]; exact p25
      · rw [take_snoc hj, flds_snoc, hN, iz_append]; exact y24)
    (fun a hi => by
      obtain ⟨⟨v13, v14, z, _⟩, h16⟩ := a
      obtain ⟨e0, p1, A, y, o⟩ := hi
      have e0 : z = (ws.length : Int) := e0
      subst e0
      rw [List.take_length] at p1 y
      have hlt : ¬ (ws.length : Int) < (ws.length : Int) := by omega
      exact ⟨.inl ((v13, (v14, ())), h16), by simp only [f_octet_Fields_L26, hlt, decide_false, cond_false], v13, v14, h16, A, rfl, p1, y, o⟩)
  subst q0
  have q1 : Pc xs v13 b _ := q1
  have f29 : fillL [.slice none 0 0] [(0, 1, v13)] = some [v13] := by obtain ⟨_, _, _, rfl, _⟩ := q1; rfl
  have o30 := q3.new (.cells [v13] false 1)
  generalize hr : h'.next = r at o30
  generalize hh : h'.new (.cells [v13] false 1) = h30 at o30
  have y30 : Slc 1 (.slice (some ⟨r, 0, some 0⟩) 1 1) 1 [v13] [(r, .cells ([] ++ ([v13] ++ [])) false 1)] := .mk rfl rfl rfl
  obtain ⟨w, h31, A31, e31, y31, o31⟩ := join_ok (n := n) (P := [(v13, L.drop ws.sum)]) (u := .slice (some ⟨r, 0, some 0⟩) 1 1) (G := [(r, .cells [v13] false 1), (b, .cells xs ro es)]) (h := h30) (F := A ++ (G ++ F))
    (fun hh hg => y30.sow hh fun x hx => hg x (by rw [List.mem_singleton.1 hx]; simp))
    (fun x hx => by rw [List.mem_singleton.1 hx]; exact fun hh hg => (q1.sow (ro := ro) (es := es)) hh fun y hy => hg y (by rw [List.mem_singleton.1 hy]; simp))
    (o30.to fun x => by simp only [cnt_append, cnt_cons, cnt_nil]; omega) (by simp; omega) (by simp) (by omega)
  exact ⟨v14, w, h31, A, by simp only [f_octet_Fields, e9, thenB_inl, f_octet_Fields_C27, hlb, Option.bind_some, e, f29, bnd_eq, hr, hh, e31, q2.notT, y31.notT, Bool.not_false, cond_true], q2, o31.to fun x => by simp only [cnt_append, cnt_cons, cnt_nil]; omega⟩
theorem slot_ok {p c : Nat} (hp : p ≤ 4611686018427387968) (h1 : 2 ≤ c) (h2 : c ≤ 64) : f_ring_Slot n (p : Int) (c : Int) h = some ((((p % c : Nat) : Int), (0, ())), h) := by
  have a1 : (2 : Int) ≤ (c : Int) := by omega
  have a2 : (c : Int) ≤ 64 := by omega
  have a3 : ¬ (4611686018427387968 : Int) < (p : Int) := by omega
  have w1 : IntKind.u64.wrap (c : Int) = (c : Int) := wrap_u64z (by omega) (by omega)
  have a4 : ¬ (c : Int) = 0 := by omega
  have ht : Int.tmod (p : Int) (c : Int) = ((p % c : Nat) : Int) := rfl
  have hm : p % c < c := Nat.mod_lt _ (by omega)
  have w2 : IntKind.i64.wrap ((p % c : Nat) : Int) = ((p % c : Nat) : Int) := wrap_i64 (by omega) (by omega)
  simp only [f_ring_Slot, f_ring_round, a1, a2, decide_true, cond_true, Option.bind_some, Bool.not_true, cond_false, a3, decide_false, w1, a4, ht, w2]
end
end Go.Proofs.YtdlfdieehioolaaDoor
/- Records: checks, bytes. -/
namespace Go.Proofs.YtdlfdieehioolaaDoor
open Go
set_option linter.unusedVariables false
set_option linter.unusedSimpArgs false
section
variable {n m k : Nat} {s u : Value} {L X V : List Int} {h : Heap} {F G A : Ch} {c : Cf} {z : Int} {cs : List Value}
theorem oput3_ok {x w : Nat} (h1 : 1 ≤ w) (h2 : w ≤ 8) (hx : x < 256 ^ w) (ho : Own h F) (hn : 100 ≤ n) : ∃ h' A, f_octet_Put n (x : Int) (w : Int) h = some ((.slice (some ⟨h.next, 0, some 0⟩) w w, (0, ())), h') ∧ Slc 1 (.slice (some ⟨h.next, 0, some 0⟩) w w) w (iz .u8 (le x w)) A ∧ Own h' (A ++ F) := by
  have m1 := mkSl_of (nx := h.next) (bytes := 1) (es := 1) (zs := [.int .u8 0]) (k := .i64) (k' := .i64) (l := w) (c := w) (by omega) (by omega) (by omega)
  have hz : (List.replicate w [Value.int .u8 0]).flatten = iz .u8 (List.replicate w 0) := by rw [flat_rep1, iz_rep]
  rw [hz] at m1
  have o1 := ho.new (.cells (iz .u8 (List.replicate w 0)) false 1)
  have y1 : Slc 1 (.slice (some ⟨h.next, 0, some 0⟩) w w) w (iz .u8 (List.replicate w 0)) [(h.next, .cells ([] ++ (iz .u8 (List.replicate w 0) ++ [])) false 1)] := .mk rfl (by simp) (by simp)
  generalize hb : h.next = b at m1 o1 y1 ⊢
  generalize hh1 : h.new (.cells (iz .u8 (List.replicate w 0)) false 1) = h1' at o1
  obtain ⟨⟨⟨r, _⟩, h'⟩, e, q0, A', q1, q2⟩ := loopT_up (f := fun a => f_octet_Put_L10 n (.slice (some ⟨b, 0, some 0⟩) w w, .cells (iz .u8 (List.replicate w 0)) false 1) w a.1.1 a.1.2.1 a.2)
    (fun j (a : (Int × Int × Unit) × Heap) => a.1 = (((x / 256 ^ j : Nat) : Int), ((j : Int), ())) ∧ ∃ A, Slc 1 (.slice (some ⟨b, 0, some 0⟩) w w) w (iz .u8 (le x j ++ List.replicate (w - j) 0)) A ∧ Own a.2 (A ++ F))
    (fun r => r.1 = (((x / 256 ^ w : Nat) : Int), ()) ∧ ∃ A, Slc 1 (.slice (some ⟨b, 0, some 0⟩) w w) w (iz .u8 (le x w)) A ∧ Own r.2 (A ++ F)) (N := w) (k := n) (j := 0) (a := (((x : Int), (0, ())), h1')) (by omega) (by omega)
    ⟨by simp, _, by simpa [le] using y1, o1.to fun z => by simp only [cnt_append, cnt_cons, cnt_nil, List.nil_append, List.append_nil]; omega⟩
    (fun j a hj hi => by
      obtain ⟨⟨v, i0, _⟩, hq⟩ := a
      obtain ⟨e0, A1, i1, i2⟩ := hi
      cases e0
      have i2 : Own hq _ := i2
      have hlt : (j : Int) < (w : Int) := by omega
      obtain ⟨q, h2, A2, g1, g2, g3, o2⟩ := slc_set1 i1 i2 hj (v := .int .u8 ((x / 256 ^ j % 256 : Nat) : Int)) rfl rfl
      have e6 : (le x j ++ List.replicate (w - j) 0).set j ((x / 256 ^ j % 256 : Nat) : Int) = le x (j + 1) ++ List.replicate (w - (j + 1)) 0 := by
        have hls : le x (j + 1) = le x j ++ [((x / 256 ^ j % 256 : Nat) : Int)] := by
          apply List.ext_getElem?
          intro i
          by_cases hi : i < j
          · rw [le_get (by omega), List.getElem?_append_left (by rw [le_len]; exact hi), le_get hi]
          · by_cases hij : i = j
            · subst hij
              rw [le_get (by omega), List.getElem?_append_right (by rw [le_len]; exact Nat.le_refl _), le_len, Nat.sub_self]; rfl
            · rw [List.getElem?_eq_none (by rw [le_len]; omega), List.getElem?_eq_none (by rw [List.length_append, le_len]; simp; omega)]
        rw [hls, show w - j = (w - (j + 1)) + 1 by omega, List.replicate_succ, List.set_append_right _ _ (by rw [le_len]; exact Nat.le_refl _), le_len, Nat.sub_self, List.set_cons_zero, List.append_assoc]; rfl
      rw [iz_set, e6] at g3
      refine .inl ⟨((((x / 256 ^ (j + 1) : Nat) : Int), (((j + 1 : Nat) : Int), ())), h2), ?_, rfl, A2, g3, o2⟩
      have hd : x / 256 ^ (j + 1) = x / 256 ^ j / 256 := by rw [Nat.pow_succ, Nat.div_div_eq_div_mul]
      simp only [f_octet_Put_L10, hlt, decide_true, cond_true, g1, Option.bind_some, wrap_u8, g2, shr8_b, hd, wrap_succ (show j < 4611686018427387904 by omega)])
    (fun a hi => by
      obtain ⟨⟨v, i0, _⟩, hq⟩ := a
      obtain ⟨e0, A1, i1, i2⟩ := hi
      cases e0
      have hlt : ¬ (w : Int) < (w : Int) := by omega
      rw [Nat.sub_self, List.replicate_zero, List.append_nil] at i1
      exact ⟨((((x / 256 ^ w : Nat) : Int), ()), hq), by simp only [f_octet_Put_L10, hlt, decide_false, cond_false], rfl, A1, i1, i2⟩)
  rw [Nat.div_eq_of_lt hx] at q0
  cases q0
  refine ⟨h', A', ?_, q1, q2⟩
  have c1 : (1 : Int) ≤ (w : Int) := by omega
  have c2 : (w : Int) ≤ 8 := by omega
  have hl : lenB (.slice (some ⟨b, 0, some 0⟩) w w) = some w := rfl
  simp only [f_octet_Put, f_octet_may, c1, c2, decide_true, cond_true, Option.bind_some, Bool.not_true, cond_false, hb, m1, bnd_eq, hh1, hl, e, show (decide (((0 : Nat) : Int) = 0)) = true from rfl, isTuple, Bool.not_false]
end
structure Rc where
  k : Int
  p : Nat
  b : Int
  V : List Int
  im : Int
def Rc.cells (r : Rc) : List Value := .int .i64 r.k :: .int .u64 (r.p : Int) :: .int .i64 r.b :: (iz .u8 r.V ++ [.int .i64 r.im])
def zV : List Int := List.replicate 32 0
def Rc.ck (r : Rc) : Bool := (decide (r.k = 1) && (decide ((r.p : Int) ≤ 4611686018427387904) && (decide (0 ≤ r.b) && (decide (r.b < 64) && decide (r.im = 0))))) || (decide (r.k = 2) && (decide ((r.p : Int) ≤ 4611686018427387904) && (decide (0 ≤ r.im) && (decide (r.im ≤ 16) && (decide (r.b = 0) && decide (r.V = zV))))))
section
variable {n m q : Nat} {s u : Value} {L X V : List Int} {h h9 : Heap} {F G A D R : Ch} {c : Cf} {z : Int} {cs : List Value} {r : Rc} {l1 l2 : List Nat}
theorem rc_len (hV : r.V.length = 32) : r.cells.length = 36 := by simp [Rc.cells, hV]
theorem rc_cell : r.cells.all isCell = true := by simp only [Rc.cells, List.all_cons, List.all_append, iz_cell]; rfl
theorem rc_get (hV : r.V.length = 32) : r.cells[35]? = some (.int .i64 r.im) := by
  simp only [Rc.cells, List.getElem?_cons_succ]
  rw [List.getElem?_append_right (by simp [hV])]
  simp [hV]
theorem rc_val (hV : r.V.length = 32) : (r.cells.drop 3).take 32 = iz .u8 r.V := by
  simp only [Rc.cells, List.drop_succ_cons, List.drop_zero]
  rw [List.take_append_of_le_length (by simp [hV]), List.take_of_length_le (by simp [hV])]
structure Rld (h : Heap) (q : Nat) (r : Rc) : Prop where
  k : ldT (.int .i64) h (some ⟨q, 0, none⟩) = some r.k
  p : ldT (.int .u64) h (some ⟨q, 1, none⟩) = some (r.p : Int)
  b : ldT (.int .i64) h (some ⟨q, 2, none⟩) = some r.b
  im : ldT (.int .i64) h (some ⟨q, 35, none⟩) = some r.im
  V : ldA 32 h (some ⟨q, 3, none⟩) = some (iz .u8 r.V)
  all : ldA 36 h (some ⟨q, 0, none⟩) = some r.cells
theorem rc_ld {ro : Bool} (hV : r.V.length = 32) (ho : Own h ((q, .cells r.cells ro 0) :: F)) : Rld h q r := by
  have hg := ho.head
  refine ⟨by rw [ldT_of hg]; rfl, by rw [ldT_of hg]; rfl, by rw [ldT_of hg]; rfl, by rw [ldT_of hg, rc_get hV]; rfl, ?_, ?_⟩
  · rw [ldA_of hg (by rw [rc_len hV]; decide), rc_val hV]
  · rw [ldA_of hg (by rw [rc_len hV]; decide), List.drop_zero, List.take_of_length_le (by rw [rc_len hV]; decide)]
theorem rcheck_ok (hV : r.V.length = 32) (ho : Own h F) : f_record_Check n (.agg ⟨r.cells⟩) h = some (((bif r.ck then 0 else 60), ()), h.new (.cells r.cells false 0)) := by
  have hco : cellsOf (.agg ⟨r.cells⟩) = r.cells := rfl
  have o1 := ho.new (.cells r.cells false 0)
  generalize hq : h.next = q at o1
  generalize hh : h.new (.cells r.cells false 0) = h0 at o1 ⊢
  have ld := rc_ld hV o1
  have f10 : fillL (List.replicate 32 (.int .u8 0)) [] = some (iz .u8 zV) := rfl
  have e11 := eq_ok (h := h0) (A := r.V) (B := zV) (m := 32) hV (by simp [zV])
  simp only [f_record_Check, hco, rc_cell, cond_true, bnd_eq, hh, nwA_eq, hq, fa_mk, Nat.zero_add, ld.k, ld.p, ld.b, ld.im, ld.V, Option.bind_some, f10, e11]
  unfold Rc.ck
  by_cases h1 : r.k = 1
  · have h2 : ¬ r.k = 2 := by omega
    simp only [h1, h2, decide_true, decide_false, cond_true, cond_false, Bool.true_and, Bool.false_and, Bool.or_false, show (decide ((1 : Int) = 2)) = false from rfl]
    cases decide ((r.p : Int) ≤ 4611686018427387904) <;> cases decide (0 ≤ r.b) <;> cases decide (r.b < 64) <;> cases decide (r.im = 0) <;> rfl
  · by_cases h2 : r.k = 2
    · simp only [h2, decide_true, decide_false, cond_true, cond_false, Bool.true_and, Bool.false_and, Bool.false_or, show (decide ((2 : Int) = 1)) = false from rfl]
      cases decide ((r.p : Int) ≤ 4611686018427387904) <;> cases decide (0 ≤ r.im) <;> cases decide (r.im ≤ 16) <;> cases decide (r.b = 0) <;> cases decide (r.V = zV) <;> rfl
    · simp only [h1, h2, decide_false, cond_false, Bool.false_and, Bool.or_self, Option.bind_some, Bool.not_false, cond_true]
theorem hid_next' {l1 l2 : List Nat} : (hid h l1 l2).next = h.next := by simp [hid]
theorem rnum_hid {x w : Nat} (h1 : 1 ≤ w) (h2 : w ≤ 8) (hx : x < 256 ^ w) (ho : Own h9 (D ++ (R ++ F))) (hl1 : ∀ r, r ∈ l1 ↔ ∃ x ∈ D, x.1 = r) (hl2 : ∀ r, r ∈ l2 ↔ ∃ x ∈ R, x.1 = r) (hc : ∀ x ∈ R, ∃ cs q es, x.2 = .cells cs q es) (hn : 100 ≤ n) :
    ∃ s h' A, f_record_number n (x : Int) (w : Int) (hid h9 l1 l2) = some ((s, ()), h') ∧ Slc 1 s w (iz .u8 (le x w)) A ∧ Own (h'.putBack h9 (l1 ++ l2)) (D ++ (R ++ (A ++ F))) := by
  have o1 := ho.roDL hl1 hl2 hc
  obtain ⟨h', A, e, y, o⟩ := oput3_ok (n := n) h1 h2 hx o1 hn
  rw [hid_next'] at e y
  have hkey : ∀ z ∈ A, z.1 = h9.next := fun z hz => by
    obtain ⟨q, k, c, e1, e2⟩ := y.at_keys z hz
    cases e1; exact e2
  have hne : A ≠ [] := fun e0 => by
    subst e0
    have := y.len
    cases y
  obtain ⟨z0, hz0⟩ := List.exists_mem_of_ne_nil _ hne
  have hlt9 : h9.next < h'.next := by
    have := o.lt z0 (List.mem_append_left _ hz0)
    rw [hkey z0 hz0] at this; exact this
  have ob := Own.backDL (h := h') (h0 := h9) (D := D) (R := R) (l1 := l1) (l2 := l2) (X := A ++ F) (o.to fun x => by simp only [cnt_append]; omega) (ho.to fun x => by simp only [cnt_append]; omega) hl1 hl2
    (fun x hx => Nat.lt_trans (ho.lt x (List.mem_append_left _ hx)) hlt9)
    (fun x hx y hy => by
      rcases List.mem_append.1 hy with hy | hy
      · rw [hkey y hy]; exact Nat.ne_of_lt (ho.lt x (List.mem_append_left _ hx))
      · exact ho.apart hx (List.mem_append_right _ hy))
  exact ⟨_, h', A, by simp only [f_record_number, e, Option.bind_some, isTuple, Bool.not_false, cond_true], y, ob⟩
end
end Go.Proofs.YtdlfdieehioolaaDoor
/- Records: their bytes, there and back. -/
namespace Go.Proofs.YtdlfdieehioolaaDoor
open Go
set_option linter.unusedVariables false
set_option linter.unusedSimpArgs false
def recH (r : Rc) : List Int := [87, r.k, 0, 0] ++ (le r.p 8 ++ (le (r.b + r.im).toNat 4 ++ (r.V ++ List.replicate 12 0)))
def recB (r : Rc) : List Int := recH r ++ le (crc (recH r)) 4
structure Rc.wf (r : Rc) : Prop where
  V : r.V.length = 32
  Vb : Byt r.V
  k : 0 ≤ r.k ∧ r.k < 256
  p : r.p < 18446744073709551616
  s : 0 ≤ r.b + r.im ∧ r.b + r.im < 4294967296
theorem Rc.ck_wf {r : Rc} (h : r.ck = true) (hV : r.V.length = 32) (hb : Byt r.V) : r.wf := by
  unfold Rc.ck at h
  simp only [Bool.or_eq_true, Bool.and_eq_true, decide_eq_true_eq] at h
  refine ⟨hV, hb, by omega, by omega, by omega⟩
theorem recH_len {r : Rc} (h : r.wf) : (recH r).length = 60 := by simp [recH, le_len, h.V]
theorem recB_len {r : Rc} (h : r.wf) : (recB r).length = 64 := by simp [recB, recH_len h, le_len]
theorem recH_byt {r : Rc} (h : r.wf) : Byt (recH r) := by
  intro z hz
  have hk := h.k
  simp only [recH, List.mem_append, List.mem_cons, List.not_mem_nil, or_false, List.mem_replicate] at hz
  rcases hz with (rfl | rfl | rfl | rfl) | hz | hz | hz | ⟨_, rfl⟩
  · omega
  · omega
  · omega
  · omega
  · exact le_byt z hz
  · exact le_byt z hz
  · exact h.Vb z hz
  · omega
theorem recB_byt {r : Rc} (h : r.wf) : Byt (recB r) := by
  intro z hz
  rcases List.mem_append.1 hz with hz | hz
  · exact recH_byt h z hz
  · exact le_byt z hz
section
variable {n m q : Nat} {s u : Value} {L X V B : List Int} {h h9 : Heap} {F G A D R : Ch} {c : Cf} {z : Int} {cs xs : List Value} {r : Rc} {l1 l2 : List Nat} {b es : Nat} {ro : Bool}
theorem fillS5 {a b c d e : Value} (ha : ∃ x k l, a = .slice x k l) (hb : ∃ x k l, b = .slice x k l) (hc : ∃ x k l, c = .slice x k l) (hd : ∃ x k l, d = .slice x k l) (he : ∃ x k l, e = .slice x k l) :
    fillL (List.replicate 5 (.slice none 0 0)) [(0, 1, a), (1, 1, b), (2, 1, c), (3, 1, d), (4, 1, e)] = some [a, b, c, d, e] := by
  obtain ⟨_, _, _, rfl⟩ := ha
  obtain ⟨_, _, _, rfl⟩ := hb
  obtain ⟨_, _, _, rfl⟩ := hc
  obtain ⟨_, _, _, rfl⟩ := hd
  obtain ⟨_, _, _, rfl⟩ := he
  rfl
theorem Slc.form3 {es k : Nat} (hs : Slc es s k cs A) : ∃ x k l, s = .slice x k l := by obtain ⟨a, c, e⟩ := hs.form; exact ⟨_, _, _, e⟩
theorem litU {b : Nat} {L : List Int} {m : Nat} (hm : L.length = m) : Sow 1 (.slice (some ⟨b, 0, some 0⟩) m m) L.length (iz .u8 L) [(b, .cells (iz .u8 L) false 1)] := by
  have := lits (b := b) (vs := iz .u8 L)
  rw [iz_length] at this
  rw [← hm]; exact this
theorem rlaid_ok (hw : r.wf) (hm : tabO ∈ F) (ho : Own h F) (hn : 2000 ≤ n) :
    ∃ s h' A, f_record_laid n (.agg ⟨r.cells⟩) h = some ((s, ()), h') ∧ Slc 1 s 64 (iz .u8 (recB r)) A ∧ Own h' (A ++ F) := by
  have hco : cellsOf (.agg ⟨r.cells⟩) = r.cells := rfl
  have o1 := ho.new (.cells r.cells false 0)
  generalize hq : h.next = q at o1
  generalize hh0 : h.new (.cells r.cells false 0) = h0 at o1
  have ld := rc_ld hw.V o1
  have wk : IntKind.u8.wrap r.k = r.k := by
    have := hw.k
    have : r.k % 256 = r.k := Int.emod_eq_of_lt (by omega) (by omega)
    simpa [IntKind.wrap, IntKind.signed, IntKind.bits] using this
  have f2 : fillL (List.replicate 4 (.int .u8 0)) [(0, 1, .int .u8 87), (1, 1, .int .u8 r.k), (2, 1, .int .u8 0), (3, 1, .int .u8 0)] = some (iz .u8 [87, r.k, 0, 0]) := rfl
  have o3 := o1.new (.cells (iz .u8 [87, r.k, 0, 0]) false 1)
  generalize hb1 : h0.next = b1 at o3
  generalize hh3 : h0.new (.cells (iz .u8 [87, r.k, 0, 0]) false 1) = h3 at o3
  have ld3 := rc_ld (q := q) (ro := false) (h := h3) (F := (b1, .cells (iz .u8 [87, r.k, 0, 0]) false 1) :: F) hw.V (o3.to fun x => by simp only [cnt_cons]; omega)
  have e7 : sliceArrK h3 32 1 none none (.pointer (some ⟨q, 3, none⟩)) = some (.slice (some ⟨q, 3, some 0⟩) 32 32, h3) := rfl
  have m8 := mkSl_of (nx := h3.next) (bytes := 1) (es := 1) (zs := [.int .u8 0]) (k := .i64) (k' := .i64) (l := 12) (c := 12) (by decide) (by decide) (by decide)
  have hz12 : (List.replicate 12 [Value.int .u8 0]).flatten = iz .u8 (List.replicate 12 0) := rfl
  rw [hz12] at m8
  have o9 := o3.new (.cells (iz .u8 (List.replicate 12 0)) false 1)
  generalize hb2 : h3.next = b2 at o9 m8
  generalize hh9 : h3.new (.cells (iz .u8 (List.replicate 12 0)) false 1) = h9 at o9
  -- numbers
  have hs := hw.s
  obtain ⟨s10, h10, A10, e10, y10, o11⟩ := rnum_hid (n := n) (x := r.p) (w := 8) (D := [(b2, .cells (iz .u8 (List.replicate 12 0)) false 1)]) (R := [(q, .cells r.cells false 0)]) (l1 := [b2]) (l2 := [q, q]) (F := (b1, .cells (iz .u8 [87, r.k, 0, 0]) false 1) :: F) (by decide) (by decide) hw.p
    (o9.to fun x => by simp only [cnt_append, cnt_cons, cnt_nil]; omega) (fun x => by simp [eq_comm]) (fun x => by simp [eq_comm]) (fun x hx => by rw [List.mem_singleton.1 hx]; exact ⟨_, _, _, rfl⟩) (by omega)
  have e10 : f_record_number n (r.p : Int) 8 (hid h9 [b2] [q, q]) = some ((s10, ()), h10) := e10
  generalize hh11 : h10.putBack h9 ([b2] ++ [q, q]) = h11 at o11
  have wi : IntKind.i64.wrap (r.b + r.im) = r.b + r.im := wrap_i64 (by omega) (by omega)
  have wu : IntKind.u64.wrap (r.b + r.im) = (((r.b + r.im).toNat : Nat) : Int) := by rw [wrap_u64z (by omega) (by omega)]; omega
  obtain ⟨s12, h12, A12, e12, y12, o13⟩ := rnum_hid (n := n) (x := (r.b + r.im).toNat) (w := 4) (D := [(b2, .cells (iz .u8 (List.replicate 12 0)) false 1)]) (R := []) (l1 := [b2]) (l2 := []) (h9 := h11) (F := A10 ++ ((q, .cells r.cells false 0) :: ((b1, .cells (iz .u8 [87, r.k, 0, 0]) false 1) :: F))) (by decide) (by decide) (by omega)
    (o11.to fun x => by simp only [cnt_append, cnt_cons, cnt_nil]; omega) (fun x => by simp [eq_comm]) (fun x => by simp) (fun x hx => absurd hx List.not_mem_nil) (by omega)
  have e12 : f_record_number n (((r.b + r.im).toNat : Nat) : Int) 4 (hid h11 [b2] []) = some ((s12, ()), h12) := e12
  generalize hh13 : h12.putBack h11 ([b2] ++ []) = h13 at o13
  -- the parts
  have f14 := fillS5 (a := .slice (some ⟨b1, 0, some 0⟩) 4 4) (b := s10) (c := s12) (d := .slice (some ⟨q, 3, some 0⟩) 32 32) (e := .slice (some ⟨b2, 0, some 0⟩) 12 12) ⟨_, _, _, rfl⟩ y10.form3 y12.form3 ⟨_, _, _, rfl⟩ ⟨_, _, _, rfl⟩
  have o15 := o13.new (.cells [.slice (some ⟨b1, 0, some 0⟩) 4 4, s10, s12, .slice (some ⟨q, 3, some 0⟩) 32 32, .slice (some ⟨b2, 0, some 0⟩) 12 12] false 1)
  generalize hb3 : h13.next = b3 at o15
  generalize hh15 : h13.new (.cells [.slice (some ⟨b1, 0, some 0⟩) 4 4, s10, s12, .slice (some ⟨q, 3, some 0⟩) 32 32, .slice (some ⟨b2, 0, some 0⟩) 12 12] false 1) = h15 at o15
  have sv : Sow 1 (.slice (some ⟨q, 3, some 0⟩) 32 32) r.V.length (iz .u8 r.V) [(q, .cells r.cells false 0)] := by
    have := Sow.piece (b := q) (off := 3) (sp := some 0) (n := 32) (c := 32) (cs := r.cells) (ro := false) (e := 0) (by rw [rc_len hw.V]; decide)
    rw [rc_val hw.V] at this
    rw [hw.V]; exact this
  have y10' : Slc 1 s10 (le r.p 8).length (iz .u8 (le r.p 8)) A10 := by rw [le_len]; exact y10
  have y12' : Slc 1 s12 (le (r.b + r.im).toNat 4).length (iz .u8 (le (r.b + r.im).toNat 4)) A12 := by rw [le_len]; exact y12
  obtain ⟨s16, h16, A16, e16, y16, o16⟩ := join_ok (n := n) (P := [(.slice (some ⟨b1, 0, some 0⟩) 4 4, [87, r.k, 0, 0]), (s10, le r.p 8), (s12, le (r.b + r.im).toNat 4), (.slice (some ⟨q, 3, some 0⟩) 32 32, r.V), (.slice (some ⟨b2, 0, some 0⟩) 12 12, List.replicate 12 0)]) (u := .slice (some ⟨b3, 0, some 0⟩) 5 5)
    (G := (b3, .cells [.slice (some ⟨b1, 0, some 0⟩) 4 4, s10, s12, .slice (some ⟨q, 3, some 0⟩) 32 32, .slice (some ⟨b2, 0, some 0⟩) 12 12] false 1) :: (b1, .cells (iz .u8 [87, r.k, 0, 0]) false 1) :: (q, .cells r.cells false 0) :: (b2, .cells (iz .u8 (List.replicate 12 0)) false 1) :: (A10 ++ A12)) (h := h15) (F := F)
    ((lits (b := b3) (vs := [.slice (some ⟨b1, 0, some 0⟩) 4 4, s10, s12, .slice (some ⟨q, 3, some 0⟩) 32 32, .slice (some ⟨b2, 0, some 0⟩) 12 12])).mono fun x hx => by simp only [List.mem_singleton] at hx; subst hx; exact List.mem_cons_self ..) (by
      intro x hx
      simp only [List.mem_cons, List.not_mem_nil, or_false] at hx
      rcases hx with rfl | rfl | rfl | rfl | rfl
      · exact (litU (b := b1) (L := [87, r.k, 0, 0]) rfl).mono (by simp)
      · exact y10'.sow.mono fun x hx => by simp [hx]
      · exact y12'.sow.mono fun x hx => by simp [hx]
      · exact sv.mono (by simp)
      · exact (litU (b := b2) (L := List.replicate 12 0) rfl).mono (by simp)) (o15.to fun x => by simp only [cnt_append, cnt_cons, cnt_nil]; omega) (by simp [hw.V, le_len]) (by simp) hn
  have hf16 : ([(.slice (some ⟨b1, 0, some 0⟩) 4 4, [87, r.k, 0, 0]), (s10, le r.p 8), (s12, le (r.b + r.im).toNat 4), (.slice (some ⟨q, 3, some 0⟩) 32 32, r.V), (.slice (some ⟨b2, 0, some 0⟩) 12 12, List.replicate 12 0)] : List (Value × List Int)).flatMap (·.2) = recH r := by
    simp only [List.flatMap_cons, List.flatMap_nil, List.append_nil, recH]
  rw [hf16] at y16
  have o16 : Own h16 (A16 ++ F) := o16.to fun x => by simp only [cnt_append, cnt_cons, cnt_nil]; omega
  have f17 : fillL [.slice none 0 0] [(0, 1, s16)] = some [s16] := by obtain ⟨_, _, rfl⟩ := y16.form; rfl
  have o18 := o16.new (.cells [s16] false 1)
  generalize hb4 : h16.next = b4 at o18
  generalize hh18 : h16.new (.cells [s16] false 1) = h18 at o18
  have e19 := of_ok (n := n) (o18.get tabO (List.mem_cons_of_mem _ (List.mem_append_right _ hm))) (L := recH r) (s := s16) (u := .slice (some ⟨b4, 0, some 0⟩) 1 1) (G := (b4, .cells [s16] false 1) :: A16) (h := h18) (F := F) (recH_byt hw) (y16.sow.mono fun x hx => by simp [hx]) ((lits (b := b4) (vs := [s16])).mono fun x hx => by simp only [List.mem_singleton] at hx; subst hx; exact List.mem_cons_self ..) (o18.to fun x => by simp only [cnt_append, cnt_cons, cnt_nil]; omega) (by rw [recH_len hw]; omega) hn
  have hcl := crc_lt (recH_byt hw)
  have hw64 : IntKind.u64.wrap ((crc (recH r) : Nat) : Int) = ((crc (recH r) : Nat) : Int) := wrap_u64z (by omega) (by omega)
  obtain ⟨h20, A20, e20, y20, o20⟩ := oput3_ok (n := n) (x := crc (recH r)) (w := 4) (by decide) (by decide) hcl o18.tail (by omega)
  generalize hs20 : (.slice (some ⟨h18.next, 0, some 0⟩) 4 4 : Value) = s20 at e20 y20
  have e20 : f_record_number n ((crc (recH r) : Nat) : Int) 4 h18 = some ((s20, ()), h20) := by
    have e20 : f_octet_Put n ((crc (recH r) : Nat) : Int) 4 h18 = some ((s20, (0, ())), h20) := e20
    simp only [f_record_number, e20, Option.bind_some, y20.notT, Bool.not_false, cond_true]
  have y20' : Slc 1 s20 (le (crc (recH r)) 4).length (iz .u8 (le (crc (recH r)) 4)) A20 := by rw [le_len]; exact y20
  have f21 : fillL [.slice none 0 0, .slice none 0 0] [(0, 1, s16), (1, 1, s20)] = some [s16, s20] := by
    obtain ⟨_, _, rfl⟩ := y16.form
    obtain ⟨_, _, rfl⟩ := y20.form; rfl
  have o22 := o20.new (.cells [s16, s20] false 1)
  generalize hb5 : h20.next = b5 at o22
  generalize hh22 : h20.new (.cells [s16, s20] false 1) = h22 at o22
  obtain ⟨s23, h23, A23, e23, y23, o23⟩ := join_ok (n := n) (P := [(s16, recH r), (s20, le (crc (recH r)) 4)]) (u := .slice (some ⟨b5, 0, some 0⟩) 2 2) (G := (b5, .cells [s16, s20] false 1) :: (A16 ++ A20)) (h := h22) (F := F)
    ((lits (b := b5) (vs := [s16, s20])).mono fun x hx => by simp only [List.mem_singleton] at hx; subst hx; exact List.mem_cons_self ..) (by
      intro x hx
      simp only [List.mem_cons, List.not_mem_nil, or_false] at hx
      rcases hx with rfl | rfl
      · exact y16.sow.mono fun x hx => by simp [hx]
      · exact y20'.sow.mono fun x hx => by simp [hx]) (o22.to fun x => by simp only [cnt_append, cnt_cons, cnt_nil]; omega) (by simp [recH_len hw, le_len]) (by simp) hn
  have hf23 : ([(s16, recH r), (s20, le (crc (recH r)) 4)] : List (Value × List Int)).flatMap (·.2) = recB r := by
    simp only [List.flatMap_cons, List.flatMap_nil, List.append_nil, recB]
  rw [hf23, recB_len hw] at y23
  refine ⟨s23, h23, A23, ?_, y23, o23.to fun x => by simp only [cnt_append, cnt_cons, cnt_nil]; omega⟩
  simp only [f_record_laid, hco, rc_cell, cond_true, bnd_eq, hh0, nwA_eq, hq, fa_mk, Nat.zero_add, ld.k, Option.bind_some, wk, f2, hb1, hh3, ld3.p, ld3.b, ld3.im, e7]
  have m8 : mkSl b2 1 1 [.int .u8 0] (.int .i64 12) (.int .i64 12) = some (.slice (some ⟨b2, 0, some 0⟩) 12 12, .cells (iz .u8 (List.replicate 12 0)) false 1) := m8
  simp only [hb2, m8, Option.bind_some, bnd_eq, hh9, e10, hh11, wi, wu, e12, hh13, f14, hb3, hh15, e16, f17, hb4, hh18, e19, hw64, e20, f21, hb5, hh22, e23, y23.notT, Bool.not_false, cond_true]
end
end Go.Proofs.YtdlfdieehioolaaDoor
/- Records: Encode, Decode. -/
namespace Go.Proofs.YtdlfdieehioolaaDoor
open Go
set_option linter.unusedVariables false
set_option linter.unusedSimpArgs false
theorem str_eqB {h : Heap} {A B : List Int} (hA : Byt A) (hB : Byt B) : binsT .bool h .eql (.string (strOfInts A)) (.string (strOfInts B)) = some (decide (A = B)) := by
  by_cases he : A = B
  · subst he; rw [str_eql rfl, decide_eq_true rfl]
  · have : (List.map (fun n => UInt8.ofNat n.toNat) A == List.map (fun n => UInt8.ofNat n.toNat) B) = false := by
      rw [beq_eq_false_iff_ne]
      exact fun h => he (str_inj hA hB h)
    simp [binsT, binsK, strOp, Ty.prj, strOfInts, this, he]
def rdec (B : List Int) : Rc := ⟨B.getD 1 0, numN ((B.drop 4).take 8), if B.getD 1 0 = 1 then (numN ((B.drop 12).take 4) : Int) else 0, (B.drop 16).take 32, if B.getD 1 0 = 2 then (numN ((B.drop 12).take 4) : Int) else 0⟩
def rdE (B : List Int) : Bool := (rdec B).ck && decide (recB (rdec B) = B)
def rz : Rc := ⟨0, 0, 0, zV, 0⟩
section
variable {n m q : Nat} {s u : Value} {L X V B : List Int} {h h9 : Heap} {F G A D R : Ch} {c : Cf} {z : Int} {cs xs : List Value} {r : Rc} {l1 l2 : List Nat} {b es : Nat} {ro : Bool}
theorem equal_ok (hr : Rds h 1 s X.length (iz .u8 X)) (hr2 : Rds h 1 u B.length (iz .u8 B)) (hX : Byt X) (hB : Byt B) : f_bytes_Equal n s u h = some ((decide (X = B), ()), h) := by
  simp only [f_bytes_Equal, hr.str, hr2.str, Option.bind_some, str_eqB hX hB]
theorem rencode_ok (hV : r.V.length = 32) (hb : Byt r.V) (hk : r.ck = true) (hm : tabO ∈ F) (ho : Own h F) (hn : 2000 ≤ n) :
    ∃ s h' A, f_record_Encode n (.agg ⟨r.cells⟩) h = some ((s, (0, ())), h') ∧ Slc 1 s 64 (iz .u8 (recB r)) A ∧ Own h' (A ++ F) := by
  have hco : cellsOf (.agg ⟨r.cells⟩) = r.cells := rfl
  have o1 := ho.new (.cells r.cells false 0)
  generalize hq : h.next = q at o1
  generalize hh0 : h.new (.cells r.cells false 0) = h0 at o1
  have ld := rc_ld hV o1
  have e2 := rcheck_ok (n := n) hV o1
  rw [hk] at e2
  have o2 := o1.new (.cells r.cells false 0)
  generalize hh2 : h0.new (.cells r.cells false 0) = h2 at o2 e2
  have ld2 := rc_ld (q := q) (ro := false) hV o2.tail
  obtain ⟨s, h', A, e4, y4, o4⟩ := rlaid_ok (n := n) (Rc.ck_wf hk hV hb) (h := h2) (F := F) hm o2.tail.tail hn
  refine ⟨s, h', A, ?_, y4, o4⟩
  simp only [f_record_Encode, hco, rc_cell, cond_true, bnd_eq, hh0, nwA_eq, hq, ld.all, Option.bind_some, e2, decide_true, Bool.not_true, cond_false, ld2.all, e4, y4.notT, Bool.not_false]
theorem rc_setV {k b im : Int} {p : Nat} (h0 : L.length = V.length) : writeAt (⟨k, p, b, L, im⟩ : Rc).cells 3 (iz .u8 V) = (⟨k, p, b, V, im⟩ : Rc).cells := by
  have hl : 3 + (iz .u8 V).length ≤ (⟨k, p, b, L, im⟩ : Rc).cells.length := by simp [Rc.cells, h0]; omega
  rw [writeAt_eq _ _ _ hl]
  simp only [Rc.cells, List.take_succ_cons, List.take_zero, List.cons_append, List.nil_append, iz_length]
  rw [show 3 + V.length = V.length + 1 + 1 + 1 by omega]
  simp only [List.drop_succ_cons]
  rw [← h0]
  have := List.drop_left (l₁ := iz .u8 L) (l₂ := [Value.int .i64 im])
  rw [iz_length] at this
  rw [this]
theorem Pc.src (hp : Pc xs u b L) (ho : Own h ((b, .cells xs ro es) :: F)) {k : Nat} (hk : k ≤ L.length) : ∃ a m c, u = .slice a m c ∧ m = L.length ∧ srcCells h a k = some (iz .u8 (L.take k)) := by
  obtain ⟨off, sp, c, rfl, h1, h2, h3⟩ := hp
  refine ⟨_, _, _, rfl, rfl, ?_⟩
  show readCells h b off k = _
  rw [readCells_of ho.head (by omega)]
  congr 1
  have : (xs.drop off).take k = ((xs.drop off).take L.length).take k := by rw [List.take_take, Nat.min_eq_left hk]
  rw [this, h1]
  simp [iz, List.map_take]
theorem rcopy_ok {k bb im : Int} {p : Nat} (hp : Pc xs u b L) (h32 : 32 ≤ L.length) (hV : V.length = 32) (ho : Own h ((q, .cells (⟨k, p, bb, V, im⟩ : Rc).cells false 0) :: (b, .cells xs ro es) :: F)) :
    ∃ h', copyK h 1 (.slice (some ⟨q, 3, some 0⟩) 32 32) u = some (32, h') ∧ Own h' ((q, .cells (⟨k, p, bb, L.take 32, im⟩ : Rc).cells false 0) :: (b, .cells xs ro es) :: F) := by
  obtain ⟨a, m, c, rfl, rfl, e⟩ := hp.src (k := 32) (h := h) (ro := ro) (es := es) (F := (q, .cells (⟨k, p, bb, V, im⟩ : Rc).cells false 0) :: F) (ho.to fun x => by simp only [cnt_cons]; omega) h32
  have hl : (L.take 32).length = 32 := by rw [List.length_take]; omega
  have hlen : 3 + (iz .u8 (L.take 32)).length ≤ (⟨k, p, bb, V, im⟩ : Rc).cells.length := by rw [iz_length, hl, rc_len hV]; decide
  have hw := writeCells_of (vs := iz .u8 (L.take 32)) (off := 3) ho.head hlen
  rw [rc_setV (by rw [hl]; exact hV)] at hw
  have hmin : Nat.min L.length 32 * 1 = 32 := by rw [Nat.mul_one]; exact Nat.min_eq_right h32
  have hmin2 : Nat.min L.length 32 = 32 := Nat.min_eq_right h32
  refine ⟨_, ?_, ho.put _⟩
  simp only [copyK, hmin, e, Option.bind_some]
  have hpc : putCells h (some ⟨q, 3, some 0⟩) 0 (iz .u8 (L.take 32)) = some (h.put q (.cells (⟨k, p, bb, L.take 32, im⟩ : Rc).cells false 0)) := by
    rw [← hw]; rfl
  rw [hpc, hmin2]; rfl
theorem wrap_i64n {x : Nat} (h : x < 9223372036854775808) : IntKind.i64.wrap (x : Int) = (x : Int) := wrap_i64 (by omega) (by omega)
theorem rc_setB {k b b' im : Int} {p : Nat} : (⟨k, p, b, V, im⟩ : Rc).cells.set 2 (.int .i64 b') = (⟨k, p, b', V, im⟩ : Rc).cells := rfl
theorem rc_setI {k b im im' : Int} {p : Nat} (hV : V.length = 32) : (⟨k, p, b, V, im⟩ : Rc).cells.set 35 (.int .i64 im') = (⟨k, p, b, V, im'⟩ : Rc).cells := by
  simp only [Rc.cells, List.set_cons_succ]
  rw [List.set_append_right _ _ (by simp [hV])]
  simp [hV]
theorem rc_full {r' : Rc} (h : r.V.length = 32) (h' : r'.V.length = 32) : writeAt r'.cells 0 r.cells = r.cells := by
  rw [writeAt_eq _ _ _ (by rw [rc_len h, rc_len h']; decide), List.take_zero, List.nil_append, rc_len h, List.drop_eq_nil_of_le (by rw [rc_len h']; decide), List.append_nil]
theorem rdecode_ok (hp : Pc xs u b B) (hB : B.length = 64) (hby : Byt B) (hm : tabO ∈ F) (ho : Own h ((b, .cells xs ro es) :: F)) (hn : 4000 ≤ n) :
    ∃ h', f_record_Decode n u h = some ((.agg ⟨(bif rdE B then rdec B else rz).cells⟩, ((bif rdE B then 0 else 60), ())), h') ∧ Own h' ((b, .cells xs ro es) :: F) := by
  have o0 := ho.new (.cells rz.cells false 0)
  generalize hq0 : h.next = q0 at o0
  generalize hh0 : h.new (.cells rz.cells false 0) = h0 at o0
  have hrz : ([.int .i64 0, .int .u64 0, .int .i64 0] ++ (List.replicate 32 (.int .u8 0) ++ [.int .i64 0]) : List Value) = rz.cells := rfl
  obtain ⟨s5, e5, p5⟩ := hp.lh (h := h0) (i := 4) (j := 16) (by decide) (by omega)
  have hl5 : ((B.drop 4).take (16 - 4)).length = 12 := by rw [List.length_take, List.length_drop]; omega
  have f6 : fillL [.int .i64 0, .int .i64 0] [(0, 1, .int .i64 8), (1, 1, .int .i64 4)] = some [.int .i64 8, .int .i64 4] := rfl
  have o7 := o0.new (.cells [.int .i64 8, .int .i64 4] false 1)
  generalize hb7 : h0.next = b7 at o7
  generalize hh7 : h0.new (.cells [.int .i64 8, .int .i64 4] false 1) = h7 at o7
  have hby5 : Byt ((B.drop 4).take (16 - 4)) := fun x hx => hby x (List.mem_of_mem_drop (List.mem_of_mem_take hx))
  obtain ⟨v8, w8, h8, A8, e8, y8, o8⟩ := fields_ok (n := n) (ws := [8, 4]) (u1 := .slice (some ⟨b7, 0, some 0⟩) 2 2) (G := [(b7, .cells [.int .i64 8, .int .i64 4] false 1)]) p5 (lits (b := b7) (vs := [.int .i64 8, .int .i64 4])) (by simp) (by rw [hl5]; decide) hby5 (by omega) (by decide) (by omega) (h := h7) (F := (q0, .cells rz.cells false 0) :: F) (ro := ro) (es := es)
    (o7.to fun x => by simp only [cnt_append, cnt_cons, cnt_nil]; omega)
  have y8 : Slc 1 v8 [(numN ((B.drop 4).take 8) : Int), (numN ((B.drop 12).take 4) : Int)].length (iz .u64 [(numN ((B.drop 4).take 8) : Int), (numN ((B.drop 12).take 4) : Int)]) A8 := by
    have h1 : flds ((B.drop 4).take (16 - 4)) [8, 4] = [(numN ((B.drop 4).take 8) : Int), (numN ((B.drop 12).take 4) : Int)] := by
      simp only [flds, List.take_take, List.drop_take, List.drop_drop]; rfl
    rw [h1] at y8; exact y8
  obtain ⟨P, hP⟩ : ∃ P, numN ((B.drop 4).take 8) = P := ⟨_, rfl⟩
  obtain ⟨X, hX⟩ : ∃ X, numN ((B.drop 12).take 4) = X := ⟨_, rfl⟩
  have hPl : P < 18446744073709551616 := by
    have := numN_lt (L := (B.drop 4).take 8) fun x hx => hby x (List.mem_of_mem_drop (List.mem_of_mem_take hx))
    rw [hP, List.length_take, List.length_drop, hB] at this; exact this
  have hXl : X < 4294967296 := by
    have := numN_lt (L := (B.drop 12).take 4) fun x hx => hby x (List.mem_of_mem_drop (List.mem_of_mem_take hx))
    rw [hX, List.length_take, List.length_drop, hB] at this; exact this
  rw [hP, hX] at y8
  have o8 : Own h8 (A8 ++ ((b, .cells xs ro es) :: ((q0, .cells rz.cells false 0) :: F))) := o8.to fun x => by simp only [cnt_append, cnt_cons, cnt_nil]; omega
  obtain ⟨k, hk⟩ : ∃ k, B.getD 1 0 = k := ⟨_, rfl⟩
  have hB1 : B[1]'(by omega) = k := by rw [← hk, List.getD_eq_getElem?_getD, List.getElem?_eq_getElem (by omega)]; rfl
  have hkb := hby _ (List.getElem_mem (l := B) (n := 1) (by omega))
  rw [hB1] at hkb
  have rB := hp.rds (h := h8) (F := A8 ++ ((q0, .cells rz.cells false 0) :: F)) (ro := ro) (es := es) (o8.to fun x => by simp only [cnt_append, cnt_cons]; omega)
  obtain ⟨q14, e14, e15⟩ := rB.int (i := 1) (by omega)
  rw [hB1] at e15
  have e14 : ixB 1 u 1 = some q14 := e14
  have r8 := y8.rds o8
  obtain ⟨q16, e16, e17⟩ := r8.int (i := 0) (by simp)
  have e16 : ixB 1 v8 0 = some q16 := e16
  have e17 : ldT (.int .u64) h8 (some q16) = some (P : Int) := e17
  have wk : IntKind.i64.wrap k = k := wrap_i64 (by omega) (by omega)
  have f18 : fillL rz.cells [(0, 1, .int .i64 k), (1, 1, .int .u64 (P : Int))] = some (⟨k, P, 0, zV, 0⟩ : Rc).cells := rfl
  have o19 := o8.new (.cells rz.cells false 0)
  generalize hq1 : h8.next = q1 at o19
  generalize hh19 : h8.new (.cells rz.cells false 0) = h19 at o19
  have s20 := stBA_of (sp := none) (o := 0) (sz := 36) (vs := (⟨k, P, 0, zV, 0⟩ : Rc).cells) o19.head rfl rc_cell (by rw [rc_len (by rfl)]; decide)
  rw [rc_full (r := ⟨k, P, 0, zV, 0⟩) (r' := rz) rfl rfl] at s20
  have o20 := o19.put (.cells (⟨k, P, 0, zV, 0⟩ : Rc).cells false 0)
  generalize hh20 : h19.put q1 (.cells (⟨k, P, 0, zV, 0⟩ : Rc).cells false 0) = h20 at s20 o20
  have e21 : sliceArrK h20 32 1 none none (.pointer (some ⟨q1, 3, none⟩)) = some (.slice (some ⟨q1, 3, some 0⟩) 32 32, h20) := rfl
  obtain ⟨s22, e22, p22⟩ := hp.lo (h := h20) (i := 16) (by omega)
  obtain ⟨h23, e23, o23⟩ := rcopy_ok (q := q1) (k := k) (p := P) (bb := 0) (im := 0) (V := zV) p22 (by rw [List.length_drop]; omega) rfl (h := h20) (F := A8 ++ ((q0, .cells rz.cells false 0) :: F)) (ro := ro) (es := es) (o20.to fun x => by simp only [cnt_append, cnt_cons]; omega)
  obtain ⟨V, hVd⟩ : ∃ V, (B.drop 16).take 32 = V := ⟨_, rfl⟩
  rw [hVd] at o23
  have hV : V.length = 32 := by rw [← hVd, List.length_take, List.length_drop]; omega
  have hVb : Byt V := fun x hx => hby x (by rw [← hVd] at hx; exact List.mem_of_mem_drop (List.mem_of_mem_take hx))
  have ld23 := rc_ld (r := ⟨k, P, 0, V, 0⟩) hV o23
  have r23 := y8.rds (h := h23) (F := (q1, .cells (⟨k, P, 0, V, 0⟩ : Rc).cells false 0) :: (b, .cells xs ro es) :: (q0, .cells rz.cells false 0) :: F) (o23.to fun x => by simp only [cnt_append, cnt_cons]; omega)
  obtain ⟨q25, e25, e26⟩ := r23.int (i := 1) (by simp)
  have e25 : ixB 1 v8 1 = some q25 := e25
  have e26 : ldT (.int .u64) h23 (some q25) = some (X : Int) := e26
  have wX : IntKind.i64.wrap (X : Int) = (X : Int) := wrap_i64n (by omega)
  -- the record
  obtain ⟨r, hr⟩ : ∃ r, rdec B = r := ⟨_, rfl⟩
  have hrd : r = ⟨k, P, if k = 1 then (X : Int) else 0, V, if k = 2 then (X : Int) else 0⟩ := by rw [← hr]; simp only [rdec, hk, hP, hX, hVd]
  have hrV : r.V.length = 32 := by rw [hrd]; exact hV
  have hrVb : Byt r.V := by rw [hrd]; exact hVb
  obtain ⟨h31, e31, o31⟩ : ∃ h31, ((bif (decide (k = 1)) then ((stB 1 (.int .i64 (X : Int)) h23 (some ⟨q1, 2, none⟩)).bind fun h27 => some ((), h27)) else (bif (decide (k = 2)) then ((stB 1 (.int .i64 (X : Int)) h23 (some ⟨q1, 35, none⟩)).bind fun h30 => some ((), h30)) else some ((), h23))) : Option (Unit × Heap)) = some ((), h31) ∧ Own h31 ((q1, .cells r.cells false 0) :: ((b, .cells xs ro es) :: (A8 ++ ((q0, .cells rz.cells false 0) :: F)))) := by
    by_cases h1 : k = 1
    · have s27 := stB1_of (sp := none) (o := 2) (v := .int .i64 (X : Int)) o23.head rfl rfl (by rw [rc_len hV]; decide)
      rw [rc_setB] at s27
      refine ⟨h23.put q1 (.cells (⟨k, P, (X : Int), V, 0⟩ : Rc).cells false 0), by simp only [h1, decide_true, cond_true]; rw [h1] at s27; rw [s27]; rfl, ?_⟩
      have := o23.put (.cells (⟨k, P, (X : Int), V, 0⟩ : Rc).cells false 0)
      have h2 : ¬ k = 2 := by omega
      rw [hrd, if_pos h1, if_neg h2]
      exact this
    · by_cases h2 : k = 2
      · have s27 := stB1_of (sp := none) (o := 35) (v := .int .i64 (X : Int)) o23.head rfl rfl (by rw [rc_len hV]; decide)
        rw [rc_setI hV] at s27
        refine ⟨h23.put q1 (.cells (⟨k, P, 0, V, (X : Int)⟩ : Rc).cells false 0), by simp only [h1, h2, decide_false, decide_true, cond_true, cond_false, show (decide ((2 : Int) = 1)) = false from rfl]; rw [h2] at s27; rw [s27]; rfl, ?_⟩
        have := o23.put (.cells (⟨k, P, 0, V, (X : Int)⟩ : Rc).cells false 0)
        rw [hrd, if_neg h1, if_pos h2]
        exact this
      · refine ⟨h23, by simp only [h1, h2, decide_false, cond_false], ?_⟩
        rw [hrd, if_neg h1, if_neg h2]
        exact o23
  have ld31 := rc_ld hrV o31
  have o31' := o31
  have e33 := rcheck_ok (n := n) hrV o31
  have o33 := o31.new (.cells r.cells false 0)
  generalize hh33 : h31.new (.cells r.cells false 0) = h33 at o33 e33
  have hrz' : rz.V.length = 32 := rfl
  have hdone : ∀ (r' : Rc) (hx : Heap) (X' : Ch), r'.V.length = 32 → Own hx ((q0, .cells rz.cells false 0) :: X') → stB 36 (.agg ⟨r'.cells⟩) hx (some ⟨q0, 0, none⟩) = some (hx.put q0 (.cells r'.cells false 0)) ∧ ldA 36 (hx.put q0 (.cells r'.cells false 0)) (some ⟨q0, 0, none⟩) = some r'.cells ∧ Own (hx.put q0 (.cells r'.cells false 0)) ((q0, .cells r'.cells false 0) :: X') := by
    intro r' hx X' hV' oo
    have s1 := stBA_of (sp := none) (o := 0) (sz := 36) (vs := r'.cells) oo.head (rc_len hV') rc_cell (by rw [rc_len hrz']; decide)
    rw [rc_full hV' hrz'] at s1
    have o1 := oo.put (.cells r'.cells false 0)
    exact ⟨s1, (rc_ld hV' o1).all, o1⟩
  have hlb : lenB u = some 64 := by rw [hp.lenB, hB]
  have hl8 : lenB v8 = some 2 := y8.lenB
  have f11 : fillL rz.cells [] = some rz.cells := rfl
  have base : f_record_Decode n u h = (((bif (!decide ((bif r.ck then (0 : Int) else 60) = 0)) then (some ((true, ()), h33)) else
          ((ldA 36 h33 (some ⟨q1, 0, none⟩)).bind fun cs34 =>
          (f_record_laid n (.agg ⟨cs34⟩) h33).bind fun p35 =>
          (f_bytes_Equal n p35.1.1 u p35.2).bind fun p36 =>
          some (((!p36.1.1), ()), p36.2))) : Option ((Bool × Unit) × Heap)).bind fun a37 =>
      bif a37.1.1 then
        ((stB 36 (.agg ⟨rz.cells⟩) a37.2 (some ⟨q0, 0, none⟩)).bind fun h39 =>
        (ldA 36 h39 (some ⟨q0, 0, none⟩)).bind fun cs40 =>
        some (((.agg ⟨cs40⟩), (60, ())), h39))
      else
        ((ldA 36 a37.2 (some ⟨q1, 0, none⟩)).bind fun cs41 =>
        (stB 36 (.agg ⟨cs41⟩) a37.2 (some ⟨q0, 0, none⟩)).bind fun h42 =>
        (ldA 36 h42 (some ⟨q0, 0, none⟩)).bind fun cs43 =>
        some (((.agg ⟨cs43⟩), (0, ())), h42))) := by
    have hz1 : ∀ (a : Heap), f_record_Decode n u a = f_record_Decode n u a := fun _ => rfl
    unfold f_record_Decode
    simp only [show ([.int .i64 0, .int .u64 0, .int .i64 0, .int .u8 0, .int .u8 0, .int .u8 0, .int .u8 0, .int .u8 0, .int .u8 0, .int .u8 0, .int .u8 0, .int .u8 0, .int .u8 0, .int .u8 0, .int .u8 0, .int .u8 0, .int .u8 0, .int .u8 0, .int .u8 0, .int .u8 0, .int .u8 0, .int .u8 0, .int .u8 0, .int .u8 0, .int .u8 0, .int .u8 0, .int .u8 0, .int .u8 0, .int .u8 0, .int .u8 0, .int .u8 0, .int .u8 0, .int .u8 0, .int .u8 0, .int .u8 0, .int .i64 0] : List Value) = rz.cells from rfl]
    simp only [bnd_eq, hh0, hlb, Option.bind_some, show (decide (((64 : Nat) : Int) = 64)) = true from rfl, Bool.not_true, cond_false, nwA_eq, hq0]
    have e5 : sliceK h0 1 (some (.int .i64 4)) (some (.int .i64 16)) none u = some (s5, h0) := e5
    have e22 : sliceK h20 1 (some (.int .i64 16)) none none u = some (s22, h20) := e22
    simp only [e5, Option.bind_some, f6, bnd_eq, hb7, hh7, e8, decide_true, Bool.not_true, cond_false, hl8, show (decide (((2 : Nat) : Int) = 2)) = true from rfl, e14, e15, e16, e17, wk, f18, hh19, hq1, fa_mk, Nat.zero_add, s20, e21, e22, e23, ld23.k, e25, e26, wX, e31, ld31.all, e33, f11]
  rw [base]
  have hE : rdE B = (r.ck && decide (recB r = B)) := by rw [rdE, hr]
  cases hck : r.ck with
  | false =>
    obtain ⟨d1, d2, d3⟩ := hdone rz h33 _ hrz' (o33.to fun x => by simp only [cnt_append, cnt_cons]; omega : Own h33 ((q0, .cells rz.cells false 0) :: ((b, .cells xs ro es) :: F)))
    rw [hE, hck]
    exact ⟨_, by simp only [cond_false, show (decide ((60 : Int) = 0)) = false from rfl, Bool.not_false, cond_true, Option.bind_some, d1, d2, Bool.false_and], d3.tail⟩
  | true =>
    have ld33 := rc_ld (q := q1) (ro := false) hrV o33.tail
    have hwf := Rc.ck_wf hck hrV hrVb
    obtain ⟨s35, h35, A35, e35, y35, o35⟩ := rlaid_ok (n := n) hwf (h := h33) (F := (q1, .cells r.cells false 0) :: ((b, .cells xs ro es) :: ((q0, .cells rz.cells false 0) :: F))) (by simp [hm]) (o33.to fun x => by simp only [cnt_append, cnt_cons]; omega) (by omega)
    have y35' : Slc 1 s35 (recB r).length (iz .u8 (recB r)) A35 := by rw [recB_len hwf]; exact y35
    have e36 := equal_ok (n := n) (y35'.rds o35) (hp.rds (h := h35) (F := A35 ++ ((q1, .cells r.cells false 0) :: ((q0, .cells rz.cells false 0) :: F))) (ro := ro) (es := es) (o35.to fun x => by simp only [cnt_append, cnt_cons]; omega)) (recB_byt hwf) hby
    rw [hE, hck, Bool.true_and]
    cases hd : decide (recB r = B) with
    | false =>
      obtain ⟨d1, d2, d3⟩ := hdone rz h35 _ hrz' (o35.to fun x => by simp only [cnt_append, cnt_cons]; omega : Own h35 ((q0, .cells rz.cells false 0) :: ((b, .cells xs ro es) :: F)))
      exact ⟨_, by simp only [cond_true, decide_true, Bool.not_true, cond_false, ld33.all, Option.bind_some, e35, e36, hd, Bool.not_false, d1, d2], d3.tail⟩
    | true =>
      have ld35 := rc_ld (q := q1) (ro := false) (h := h35) (F := A35 ++ ((b, .cells xs ro es) :: ((q0, .cells rz.cells false 0) :: F))) hrV (o35.to fun x => by simp only [cnt_append, cnt_cons]; omega)
      obtain ⟨d1, d2, d3⟩ := hdone r h35 _ hrV (o35.to fun x => by simp only [cnt_append, cnt_cons]; omega : Own h35 ((q0, .cells rz.cells false 0) :: ((b, .cells xs ro es) :: F)))
      exact ⟨_, by simp only [cond_true, decide_true, Bool.not_true, cond_false, ld33.all, Option.bind_some, e35, e36, hd, ld35.all, d1, d2, hr], d3.tail⟩
end
end Go.Proofs.YtdlfdieehioolaaDoor
/- Records there and back; the superblock of a new disk, read. -/
namespace Go.Proofs.YtdlfdieehioolaaDoor
open Go
set_option linter.unusedVariables false
set_option linter.unusedSimpArgs false
theorem take_app {α : Type} {A B : List α} {k : Nat} (h : A.length = k) : (A ++ B).take k = A := by subst h; exact List.take_left
theorem drop_app {α : Type} {A B : List α} {k : Nat} (h : A.length = k) : (A ++ B).drop k = B := by subst h; exact List.drop_left
section
variable {r : Rc}
theorem rdec_rec (hk : r.ck = true) (hV : r.V.length = 32) (hb : Byt r.V) : rdec (recB r) = r := by
  have hw := Rc.ck_wf hk hV hb
  have e : recB r = [87, r.k, 0, 0] ++ (le r.p 8 ++ (le (r.b + r.im).toNat 4 ++ (r.V ++ (List.replicate 12 0 ++ le (crc (recH r)) 4)))) := by
    rw [recB, recH]; simp only [List.append_assoc]
  have d4 : (recB r).drop 4 = le r.p 8 ++ (le (r.b + r.im).toNat 4 ++ (r.V ++ (List.replicate 12 0 ++ le (crc (recH r)) 4))) := by rw [e]; exact drop_app rfl
  have d12 : (recB r).drop 12 = le (r.b + r.im).toNat 4 ++ (r.V ++ (List.replicate 12 0 ++ le (crc (recH r)) 4)) := by
    have h1 : (recB r).drop 12 = ((recB r).drop 4).drop 8 := by rw [List.drop_drop]
    rw [h1, d4, drop_app le_len]
  have d16 : (recB r).drop 16 = r.V ++ (List.replicate 12 0 ++ le (crc (recH r)) 4) := by
    have h1 : (recB r).drop 16 = ((recB r).drop 12).drop 4 := by rw [List.drop_drop]
    rw [h1, d12, drop_app le_len]
  have g1 : (recB r).getD 1 0 = r.k := by rw [e, List.getD_eq_getElem?_getD, List.getElem?_append_left (by simp)]; rfl
  have hs := hw.s
  have n4 : numN ((recB r).drop 4 |>.take 8) = r.p := by rw [d4, take_app le_len, numN_le hw.p]
  have n12 : (numN ((recB r).drop 12 |>.take 4) : Int) = r.b + r.im := by
    rw [d12, take_app le_len, numN_le (by omega)]; omega
  have hck := hk
  unfold Rc.ck at hck
  simp only [Bool.or_eq_true, Bool.and_eq_true, decide_eq_true_eq] at hck
  have e1 : (if r.k = 1 then r.b + r.im else 0) = r.b := by split <;> omega
  have e2 : (if r.k = 2 then r.b + r.im else 0) = r.im := by split <;> omega
  unfold rdec
  rw [g1, n4, n12, d16, take_app hV, e1, e2]
theorem rdE_rec (hk : r.ck = true) (hV : r.V.length = 32) (hb : Byt r.V) : rdE (recB r) = true := by
  rw [rdE, rdec_rec hk hV hb, hk, Bool.true_and, decide_eq_true rfl]
end
section
variable {n : Nat} {u : Value} {B : List Int} {h : Heap} {F G A : Ch} {c : Cf} {xs : List Value} {b es : Nat} {ro : Bool}
theorem aix_wds {j : Nat} (hj : j < 10) : aixT (.int .i64) 10 (.agg ⟨tab1.cells⟩) (j : Int) = some ((wds.getD j 0 : Nat) : Int) := by
  have : j = 0 ∨ j = 1 ∨ j = 2 ∨ j = 3 ∨ j = 4 ∨ j = 5 ∨ j = 6 ∨ j = 7 ∨ j = 8 ∨ j = 9 := by omega
  rcases this with rfl | rfl | rfl | rfl | rfl | rfl | rfl | rfl | rfl | rfl <;> rfl
theorem sizes_ok (hm1 : tabP ∈ F) (ho : Own h F) (hn : 100 ≤ n) : ∃ v h' A, f_super_sizes n h = some ((v, ()), h') ∧ Slc 1 v wds.length (iz .i64 (wds.map fun (w : Nat) => (w : Int))) A ∧ Own h' (A ++ F) := by
  have l0 : ldA 10 h (some ⟨0, 0, none⟩) = some tab1.cells := by rw [ldA_of (ho.get _ hm1) (by decide)]; rfl
  obtain ⟨⟨⟨v, _⟩, h'⟩, e, A, q1, q2⟩ := loopT_up (f := fun a => f_super_sizes_L8 n tab1.cells a.1.1 a.1.2.1 a.2)
    (fun j (a : (Value × Int × Unit) × Heap) => a.1.2.1 = (j : Int) ∧ ∃ A, Slc 1 a.1.1 j (iz .i64 ((wds.take j).map fun (w : Nat) => (w : Int))) A ∧ Own a.2 (A ++ F))
    (fun r => ∃ A, Slc 1 r.1.1 wds.length (iz .i64 (wds.map fun (w : Nat) => (w : Int))) A ∧ Own r.2 (A ++ F)) (N := 10) (k := n) (j := 0) (a := ((.slice none 0 0, (0, ())), h)) (by omega) (by omega) ⟨rfl, [], .nil, ho⟩
    (fun j a hj hi => by
      obtain ⟨⟨v, z, _⟩, h3⟩ := a
      obtain ⟨e0, A, y, o⟩ := hi
      have e0 : z = (j : Int) := e0
      subst e0
      have o : Own h3 _ := o
      have y : Slc 1 v _ _ _ := y
      have hlt : (j : Int) < 10 := by omega
      have f5 : fillL [.int .i64 0] [(0, 1, .int .i64 ((wds.getD j 0 : Nat) : Int))] = some [.int .i64 ((wds.getD j 0 : Nat) : Int)] := rfl
      obtain ⟨v7, h7, A7, e7, y7, o7⟩ := y.push (new := [.int .i64 ((wds.getD j 0 : Nat) : Int)]) (h := h3) o (by decide) rfl (bytes := 8) (by omega)
      have hw : j < wds.length := hj
      refine .inl ⟨((v7, (((j + 1 : Nat) : Int), ())), h7), by simp only [f_super_sizes_L8, hlt, decide_true, cond_true, aix_wds hj, Option.bind_some, f5, bnd_eq, e7, wrap_succ (show j < 4611686018427387904 by omega)], rfl, A7, ?_, o7⟩
      rw [take_snoc hw, List.map_append, iz_append]
      have : wds.getD j 0 = wds[j] := by rw [List.getD_eq_getElem?_getD, List.getElem?_eq_getElem hw]; rfl
      rw [this] at y7; exact y7)
    (fun a hi => by
      obtain ⟨⟨v, z, _⟩, h3⟩ := a
      obtain ⟨e0, A, y, o⟩ := hi
      have e0 : z = ((10 : Nat) : Int) := e0
      subst e0
      have y : Slc 1 v _ _ _ := y
      exact ⟨((v, ()), h3), by simp only [f_super_sizes_L8, show (decide (((10 : Nat) : Int) < 10)) = false from rfl, cond_false, y.notT, Bool.not_false, cond_true, Option.map_some], A, y, o⟩)
  exact ⟨v, h', A, by simp only [f_super_sizes, l0, Option.bind_some, e], q1, q2⟩
theorem sup_flds (hk : c.ok = true) (hl : -9223372036854775808 ≤ c.l ∧ c.l ≤ 9223372036854775807) : flds ((supB c).drop 6) wds = [1, 0, c.b, c.l, c.r, c.g, c.c, 0, 0, 1] := by
  obtain ⟨⟨b1, b2⟩, ⟨b3, b4⟩, ⟨b5, b6⟩, ⟨b7, b8⟩, b9, b10⟩ := Cf.bounds hk hl
  have e : (supB c).drop 6 = 1 :: 0 :: c.b :: c.l :: c.r :: c.g :: c.c :: 0 :: 0 :: 0 :: (le 0 8 ++ (le 1 8 ++ (List.replicate 28 0 ++ le (crc (supH c)) 4))) := by
    rw [supB, supH]; simp only [List.append_assoc, List.cons_append, List.nil_append, List.drop_succ_cons, List.drop_zero]
  have s1 : ∀ x : Int, 0 ≤ x → ((x.toNat + 256 * 0 : Nat) : Int) = x := fun x hx => by omega
  rw [e]
  simp only [wds, flds, List.take_succ_cons, List.take_zero, List.drop_succ_cons, List.drop_zero, numN, take_app (le_len (j := 8)), drop_app (le_len (j := 8)), numN_le (w := 8) (x := 0) (by decide), numN_le (w := 8) (x := 1) (by decide)]
  simp only [s1 c.b (by omega), s1 c.l (by omega), s1 c.r (by omega), s1 c.g (by omega), s1 c.c (by omega)]
  rfl
theorem sdecode_new (hp : Pc xs u b (supB c)) (hby : Byt (supB c)) (hk : c.ok = true) (hl : -9223372036854775808 ≤ c.l ∧ c.l ≤ 9223372036854775807) (hm0 : tabO ∈ F) (hm1 : tabP ∈ F) (ho : Own h ((b, .cells xs ro es) :: F)) (hn : 4000 ≤ n) :
    ∃ h', f_super_Decode n u h = some ((.agg ⟨c.sup⟩, (0, ())), h') ∧ Own h' ((b, .cells xs ro es) :: F) := by
  obtain ⟨⟨b1, b2⟩, ⟨b3, b4⟩, ⟨b5, b6⟩, ⟨b7, b8⟩, b9, b10⟩ := Cf.bounds hk hl
  obtain ⟨Z, hZ⟩ : ∃ Z : List Value, Z = [.int .i64 0, .int .i64 0, .int .i64 0, .int .i64 0, .int .i64 0, .int .u64 0, .int .u64 0] := ⟨_, rfl⟩
  have o0 := ho.new (.cells Z false 0)
  generalize hq0 : h.next = q0 at o0
  generalize hh0 : h.new (.cells Z false 0) = h0 at o0
  have hlb : lenB u = some 64 := by rw [hp.lenB, supB_len]
  obtain ⟨s5, e5, p5⟩ := hp.lo (h := h0) (i := 6) (by rw [supB_len]; decide)
  have e5 : sliceK h0 1 (some (.int .i64 6)) none none u = some (s5, h0) := e5
  obtain ⟨v6, h6, A6, e6, y6, o6⟩ := sizes_ok (n := n) (by simp [hm1]) o0 (by omega)
  have hl5 : ((supB c).drop 6).length = 58 := by rw [List.length_drop, supB_len]
  obtain ⟨v7, w7, h7, A7, e7, y7, o7⟩ := fields_ok (n := n) (ws := wds) p5 y6.sow (by decide) (by rw [hl5]; decide) (fun x hx => hby x (List.mem_of_mem_drop hx)) (by omega) (by decide) (by omega) (h := h6) (F := (q0, .cells Z false 0) :: F) (ro := ro) (es := es) (o6.to fun x => by simp only [cnt_append, cnt_cons]; omega)
  rw [sup_flds hk hl] at y7
  have y7 : Slc 1 v7 ([1, 0, c.b, c.l, c.r, c.g, c.c, 0, 0, 1] : List Int).length (iz .u64 [1, 0, c.b, c.l, c.r, c.g, c.c, 0, 0, 1]) A7 := y7
  have r7 := y7.rds o7
  have lk : ∀ (i : Nat) (hi : i < ([1, 0, c.b, c.l, c.r, c.g, c.c, 0, 0, 1] : List Int).length), ∃ q, ixB 1 v7 (i : Int) = some q ∧ ldT (.int .u64) h7 (some q) = some (([1, 0, c.b, c.l, c.r, c.g, c.c, 0, 0, 1] : List Int)[i]) := fun i hi => r7.int hi
  obtain ⟨q8, e8, e9⟩ := lk 2 (by simp)
  obtain ⟨q10, e10, e11⟩ := lk 3 (by simp)
  obtain ⟨q12, e12, e13⟩ := lk 4 (by simp)
  obtain ⟨q14, e14, e15⟩ := lk 5 (by simp)
  obtain ⟨q16, e16, e17⟩ := lk 6 (by simp)
  obtain ⟨q19, e19, e20⟩ := lk 8 (by simp)
  obtain ⟨q21, e21, e22⟩ := lk 9 (by simp)
  have e8 : ixB 1 v7 2 = some q8 := e8
  have e10 : ixB 1 v7 3 = some q10 := e10
  have e12 : ixB 1 v7 4 = some q12 := e12
  have e14 : ixB 1 v7 5 = some q14 := e14
  have e16 : ixB 1 v7 6 = some q16 := e16
  have e19 : ixB 1 v7 8 = some q19 := e19
  have e21 : ixB 1 v7 9 = some q21 := e21
  have e9 : ldT (.int .u64) h7 (some q8) = some c.b := e9
  have e11 : ldT (.int .u64) h7 (some q10) = some c.l := e11
  have e13 : ldT (.int .u64) h7 (some q12) = some c.r := e13
  have e15 : ldT (.int .u64) h7 (some q14) = some c.g := e15
  have e17 : ldT (.int .u64) h7 (some q16) = some c.c := e17
  have e20 : ldT (.int .u64) h7 (some q19) = some 0 := e20
  have e22 : ldT (.int .u64) h7 (some q21) = some 1 := e22
  have wb : IntKind.i64.wrap c.b = c.b := wrap_i64 (by omega) (by omega)
  have wl : IntKind.i64.wrap c.l = c.l := wrap_i64 (by omega) (by omega)
  have wr : IntKind.i64.wrap c.r = c.r := wrap_i64 (by omega) (by omega)
  have wg : IntKind.i64.wrap c.g = c.g := wrap_i64 (by omega) (by omega)
  have wc' : IntKind.i64.wrap c.c = c.c := wrap_i64 (by omega) (by omega)
  have f18 : fillL (List.replicate 5 (.int .i64 0)) [(0, 1, .int .i64 c.b), (1, 1, .int .i64 c.l), (2, 1, .int .i64 c.r), (3, 1, .int .i64 c.g), (4, 1, .int .i64 c.c)] = some c.cells := rfl
  have f23 : fillL Z [(0, 5, .agg ⟨c.cells⟩), (5, 1, .int .u64 0), (6, 1, .int .u64 1)] = some c.sup := by subst hZ; rfl
  have hZl : Z.length = 7 := by subst hZ; rfl
  have hful : writeAt Z 0 c.sup = c.sup := by subst hZ; rfl
  have o24 := o7.new (.cells Z false 0)
  generalize hq24 : h7.next = q24 at o24
  generalize hh24 : h7.new (.cells Z false 0) = h24 at o24
  have s25 := stBA_of (sp := none) (o := 0) (sz := 7) (vs := c.sup) o24.head rfl sup_cell (by rw [hZl]; decide)
  rw [hful] at s25
  have o25 := o24.put (.cells c.sup false 0)
  generalize hh25 : h24.put q24 (.cells c.sup false 0) = h25 at s25 o25
  have lsup : ∀ {hx : Heap} {X' : Ch} {q : Nat}, Own hx ((q, .cells c.sup false 0) :: X') → ldA 7 hx (some ⟨q, 0, none⟩) = some c.sup := fun oo => by rw [ldA_of oo.head (by simp [Cf.sup, Cf.cells])]; simp [Cf.sup, Cf.cells]
  obtain ⟨s27, h27, A27, e27, y27, o27⟩ := sencode_ok (n := n) hk hl (F := (q24, .cells c.sup false 0) :: (A7 ++ ((b, .cells xs ro es) :: (A6 ++ ((q0, .cells Z false 0) :: F))))) (by simp [hm0]) (by simp [hm1]) o25 (by omega)
  have y27' : Slc 1 s27 (supB c).length (iz .u8 (supB c)) A27 := by rw [supB_len]; exact y27
  have e28 := equal_ok (n := n) (y27'.rds o27) (hp.rds (h := h27) (F := A27 ++ ((q24, .cells c.sup false 0) :: (A7 ++ (A6 ++ ((q0, .cells Z false 0) :: F))))) (ro := ro) (es := es) (o27.to fun x => by simp only [cnt_append, cnt_cons]; omega)) hby hby
  have l33 := lsup (hx := h27) (q := q24) (X' := A27 ++ (A7 ++ ((b, .cells xs ro es) :: (A6 ++ ((q0, .cells Z false 0) :: F))))) (o27.to fun x => by simp only [cnt_append, cnt_cons]; omega)
  have o27 : Own h27 ((q0, .cells Z false 0) :: ((b, .cells xs ro es) :: F)) := o27.to fun x => by simp only [cnt_append, cnt_cons]; omega
  have s34 := stBA_of (sp := none) (o := 0) (sz := 7) (vs := c.sup) o27.head rfl sup_cell (by rw [hZl]; decide)
  rw [hful] at s34
  have o34 := o27.put (.cells c.sup false 0)
  refine ⟨_, ?_, o34.tail⟩
  have l35 := lsup o34
  simp only [f_super_Decode, ← hZ, bnd_eq, hh0, hlb, Option.bind_some, show (decide (((64 : Nat) : Int) = 64)) = true from rfl, Bool.not_true, cond_false, nwA_eq, hq0, e5, e6, e7, e8, e9, e10, e11, e12, e13, e14, e15, e16, e17, wb, wl, wr, wg, wc', f18, e19, e20, e21, e22, f23, hh24, hq24, s25, lsup o25, e27, decide_true, e28, l33, s34, l35]
end
end Go.Proofs.YtdlfdieehioolaaDoor
