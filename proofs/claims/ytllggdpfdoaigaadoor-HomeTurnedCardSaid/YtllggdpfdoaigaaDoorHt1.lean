/- The sum tells bytes that were turned. -/
import Derived.Test.YtllggdpfdoaigaaDoorHtAll
namespace Go.Proofs.YtllggdpfdoaigaaDoor
open Go
set_option linter.unusedVariables false
set_option linter.unusedSimpArgs false

theorem xor_cancel {a b c : Nat} (h : a ^^^ c = b ^^^ c) : a = b := by
  have : (a ^^^ c) ^^^ c = (b ^^^ c) ^^^ c := by rw [h]
  rwa [Nat.xor_assoc, Nat.xor_self, Nat.xor_zero, Nat.xor_assoc, Nat.xor_self, Nat.xor_zero] at this
theorem xor_zero' {a b : Nat} (h : a ^^^ b = 0) : a = b := xor_cancel (c := b) (by rw [h, Nat.xor_self])
theorem tab_xor {a b : Nat} (ha : a < 16) (hb : b < 16) : tabN.getD (a ^^^ b) 0 = tabN.getD a 0 ^^^ tabN.getD b 0 := by
  have : ∀ a b : Fin 16, tabN.getD (a.1 ^^^ b.1) 0 = tabN.getD a.1 0 ^^^ tabN.getD b.1 0 := by decide
  exact this ⟨a, ha⟩ ⟨b, hb⟩
theorem xor4 (a b c d : Nat) : (a ^^^ b) ^^^ (c ^^^ d) = (a ^^^ c) ^^^ (b ^^^ d) := by
  rw [Nat.xor_assoc, Nat.xor_assoc, ← Nat.xor_assoc b, Nat.xor_comm b c, Nat.xor_assoc c]
theorem hf_xor {x y : Nat} : hf (x ^^^ y) = hf x ^^^ hf y := by
  have h1 : (x ^^^ y) % 16 = (x % 16) ^^^ (y % 16) := Nat.xor_mod_two_pow (n := 4)
  have h2 : (x ^^^ y) / 16 = (x / 16) ^^^ (y / 16) := Nat.xor_div_two_pow (n := 4)
  unfold hf
  rw [h1, h2, tab_xor (Nat.mod_lt _ (by decide)) (Nat.mod_lt _ (by decide)), xor4]
def hh (x : Nat) : Nat := hf (hf x)
theorem hh_xor {x y : Nat} : hh (x ^^^ y) = hh x ^^^ hh y := by unfold hh; rw [hf_xor, hf_xor]
theorem hf_zero {x : Nat} (hx : x < 4294967296) (h : hf x = 0) : x = 0 := by
  have h1 : tabN.getD (x % 16) 0 = x / 16 := xor_zero' h
  have h2 : ∀ i : Fin 16, tabN.getD i.1 0 < 268435456 → i.1 = 0 := by decide
  have h3 := h2 ⟨x % 16, Nat.mod_lt _ (by decide)⟩ (by simp only; omega)
  simp only at h3
  rw [h3] at h1
  have : tabN.getD 0 0 = 0 := rfl
  omega
theorem hf_inj {x y : Nat} (hx : x < 4294967296) (hy : y < 4294967296) (h : hf x = hf y) : x = y := by
  have h1 : hf (x ^^^ y) = 0 := by rw [hf_xor, h, Nat.xor_self]
  exact xor_zero' (hf_zero (Nat.xor_lt_two_pow (n := 32) hx hy) h1)
theorem hh_lt {x : Nat} (hx : x < 4294967296) : hh x < 4294967296 := hf_lt (hf_lt hx)
theorem hh_inj {x y : Nat} (hx : x < 4294967296) (hy : y < 4294967296) (h : hh x = hh y) : x = y := hf_inj hx hy (hf_inj (hf_lt hx) (hf_lt hy) h)
theorem psh_inj {x y c : Nat} (hx : x < 4294967296) (hy : y < 4294967296) (hc : c < 256) (h : psh x c = psh y c) : x = y :=
  xor_cancel (hh_inj (Nat.xor_lt_two_pow (n := 32) hx (by omega)) (Nat.xor_lt_two_pow (n := 32) hy (by omega)) h)
theorem crcs_inj : ∀ {L : List Int} {x y : Nat}, Byt L → x < 4294967296 → y < 4294967296 → crcs L x = crcs L y → x = y := by
  intro L
  induction L with
  | nil => intro x y _ _ _ h; exact h
  | cons z L ih =>
    intro x y hL hx hy h
    have hz := hL z (List.mem_cons_self ..)
    exact psh_inj hx hy (by omega) (ih (fun w hw => hL w (List.mem_cons_of_mem _ hw)) (psh_lt hx (by omega)) (psh_lt hy (by omega)) h)

/-- The lowest byte alone. -/
theorem hh_low {w : Nat} : hh w = hh (w % 256) ^^^ (w / 256) := by
  have e1 : w % 256 % 16 = w % 16 := by omega
  have e2 : (w % 256) / 16 % 16 = w / 16 % 16 := by omega
  have e3 : (w % 256) / 16 / 16 = 0 := by omega
  have e4 : w / 16 / 16 = w / 256 := by omega
  have m : ∀ a b : Nat, (a ^^^ b) % 16 = (a % 16) ^^^ (b % 16) := fun a b => Nat.xor_mod_two_pow (n := 4)
  have d : ∀ a b : Nat, (a ^^^ b) / 16 = (a / 16) ^^^ (b / 16) := fun a b => Nat.xor_div_two_pow (n := 4)
  unfold hh hf
  rw [m, m, d, d, e1, e2, e3, e4, Nat.xor_zero, Nat.xor_assoc]
theorem psh_word {s w : Nat} : psh s (w % 256) ^^^ (w / 256) = hh (s ^^^ w) := by
  have : psh s (w % 256) = hh s ^^^ hh (w % 256) := by rw [← hh_xor]; rfl
  rw [this, hh_xor, hh_low (w := w), Nat.xor_assoc]
theorem crcs_le {s w : Nat} (hw : w < 4294967296) : crcs (le w 4) s = hh (hh (hh (hh (s ^^^ w)))) := by
  have n1 : ∀ a : Nat, ((a : Int)).toNat = a := fun a => Int.toNat_natCast a
  have e : crcs (le w 4) s = psh (psh (psh (psh s (w % 256)) (w / 256 % 256)) (w / 256 / 256 % 256)) (w / 256 / 256 / 256 % 256) := by
    simp only [le, crcs, List.foldl_cons, List.foldl_nil, n1]
  rw [e, ← psh_word, ← psh_word, ← psh_word, ← psh_word]
  have : w / 256 / 256 / 256 / 256 = 0 := by omega
  rw [this, Nat.xor_zero]

/-- A home's own sum. -/
theorem home_sum {k : Int} {V : List Int} (h1 : 0 ≤ k) (h2 : k < 64) (hb : Byt V) : crcs (enc k V) 4294967295 = hh (hh (hh (hh 4294967295))) := by
  have hl := crcs_lt (x := 4294967295) (encH_byt h1 h2 hb) (by decide)
  have hc : crc (encH k V) < 4294967296 := crc_lt (encH_byt h1 h2 hb)
  unfold enc
  rw [crcs_append, crcs_le hc]
  have : crcs (encH k V) 4294967295 ^^^ crc (encH k V) = 4294967295 := by
    unfold crc
    rw [Nat.xor_comm 4294967295, ← Nat.xor_assoc, Nat.xor_self, Nat.zero_xor]
  rw [this]

/-- Four bytes as a number. -/
def wd (a b c d : Nat) : Nat := a + 256 * (b + 256 * (c + 256 * d))
theorem le_wd {a b c d : Nat} (ha : a < 256) (hb : b < 256) (hc : c < 256) (hd : d < 256) : le (wd a b c d) 4 = [(a : Int), (b : Int), (c : Int), (d : Int)] := by
  have e1 : wd a b c d % 256 = a := by unfold wd; omega
  have e2 : wd a b c d / 256 % 256 = b := by unfold wd; omega
  have e3 : wd a b c d / 256 / 256 % 256 = c := by unfold wd; omega
  have e4 : wd a b c d / 256 / 256 / 256 % 256 = d := by unfold wd; omega
  simp only [le, e1, e2, e3, e4]
theorem wd_lt {a b c d : Nat} (ha : a < 256) (hb : b < 256) (hc : c < 256) (hd : d < 256) : wd a b c d < 4294967296 := by unfold wd; omega

/-- Two texts of one sum that differ in four bytes side by side at most do not differ. -/
theorem same_four {P S : List Int} {a b c d a' b' c' d' x : Nat} (hP : Byt P) (hS : Byt S) (hx : x < 4294967296) (ha : a < 256) (hb : b < 256) (hc : c < 256) (hd : d < 256) (ha' : a' < 256) (hb' : b' < 256) (hc' : c' < 256) (hd' : d' < 256)
    (h : crcs (P ++ ([(a : Int), (b : Int), (c : Int), (d : Int)] ++ S)) x = crcs (P ++ ([(a' : Int), (b' : Int), (c' : Int), (d' : Int)] ++ S)) x) : a = a' ∧ b = b' ∧ c = c' ∧ d = d' := by
  have hp := crcs_lt hP hx
  generalize hs : crcs P x = s at hp
  rw [crcs_append, crcs_append, crcs_append, crcs_append, hs, ← le_wd ha hb hc hd, ← le_wd ha' hb' hc' hd'] at h
  have l1 := wd_lt ha hb hc hd
  have l2 := wd_lt ha' hb' hc' hd'
  have h1 := crcs_inj hS (crcs_lt le_byt hp) (crcs_lt le_byt hp) h
  rw [crcs_le l1, crcs_le l2] at h1
  have x1 : s ^^^ wd a b c d < 4294967296 := Nat.xor_lt_two_pow (n := 32) hp l1
  have x2 : s ^^^ wd a' b' c' d' < 4294967296 := Nat.xor_lt_two_pow (n := 32) hp l2
  have h2 := hh_inj x1 x2 (hh_inj (hh_lt x1) (hh_lt x2) (hh_inj (hh_lt (hh_lt x1)) (hh_lt (hh_lt x2)) (hh_inj (hh_lt (hh_lt (hh_lt x1))) (hh_lt (hh_lt (hh_lt x2))) h1)))
  rw [Nat.xor_comm s, Nat.xor_comm s] at h2
  have h3 := xor_cancel h2
  unfold wd at h3
  omega
end Go.Proofs.YtllggdpfdoaigaaDoor
