/- The ledger's functions. -/
import Derived.Test.YtnkhlohphaomlaaLpCode
import Derived.Test.YtnkhlohphaomlaaSl
namespace Go.Proofs.Ytnkhlohphaomlaa
open Go
set_option linter.unusedVariables false
set_option linter.unusedSimpArgs false
variable {T : Nat → Option AFun} {H : Heap} {m : Nat}

def kvs (kv : List (Int × Int)) : List (Value × Value) := kv.map fun p => (.int .u64 p.1, .int .i64 p.2)
/-- Where a key stands, and its value. -/
def fidx (t : Int) : List (Int × Int) → Nat → Option (Nat × Int)
  | [], _ => none
  | (a, b) :: r, i => if a = t then some (i, b) else fidx t r (i + 1)
theorem findKv_kvs {t : Int} : ∀ (kv : List (Int × Int)) (i : Nat), findKv .u64 t (kvs kv) i = some ((fidx t kv i).map fun p => (p.1, .int .i64 p.2)) := by
  intro kv
  induction kv with
  | nil => intro i; rfl
  | cons p kv ih =>
    obtain ⟨a, b⟩ := p
    intro i
    by_cases h : a = t
    · subst h
      simp [kvs, findKv, fidx]
    · have hb : (a == t) = false := by simpa using h
      simp only [kvs, List.map_cons, findKv, if_true, hb, cond_false, fidx, h, if_false]
      exact ih (i + 1)

structure Ld (H : Heap) (l mb : Nat) (cap mark used res : Int) (kv : List (Int × Int)) : Prop where
  at_ : H.get l = some (.cells [.int .i64 cap, .int .i64 mark, .int .i64 used, .int .i64 res, .map (some mb)] false 0)
  mp : H.get mb = some (.map (kvs kv))

structure LdT (T : Nat → Option AFun) : Prop where
  new : T k_ledger_New = some c_ledger_New
  used : T k_ledger_Ledger_Used = some c_ledger_Ledger_Used
  reserved : T k_ledger_Ledger_Reserved = some c_ledger_Ledger_Reserved
  reserve : T k_ledger_Ledger_Reserve = some c_ledger_Ledger_Reserve
  append : T k_ledger_Ledger_Append = some c_ledger_Ledger_Append
  close : T k_ledger_Ledger_Close = some c_ledger_Ledger_Close
  free : T k_ledger_Ledger_Free = some c_ledger_Ledger_Free
  fits : T k_ledger_Ledger_Fits = some c_ledger_Ledger_Fits
  has : T k_ledger_Ledger_has = some c_ledger_Ledger_has

section
variable {l mb : Nat} {cap mark used res : Int} {kv : List (Int × Int)} {t n : Int}
theorem Ld.ne (h : Ld H l mb cap mark used res kv) : l ≠ mb := by
  rintro rfl; have := h.at_; rw [h.mp] at this; cases this

theorem lnew_ok (hT : LdT T) {c : Int} (h2 : 2 ≤ c) (h3 : c ≤ 64) (wf : WF H) :
    ∃ H', exec T (m + 1) (.fn k_ledger_New) [.int .i64 c, .int .i64 c] H = some (.tuple #[.pointer (some ⟨H.next + 1, 0, none⟩), .int .i64 0], H') ∧ Ld H' (H.next + 1) H.next c c 0 0 [] ∧ Fr H H' [] := by
  have e1 : ¬ c < 2 := by omega
  have e2 : ¬ 64 < c := by omega
  have e3 : ¬ c < 1 := by omega
  have f1 := Fr.new (o := .map []) wf []
  have f2 := Fr.new (o := .cells [.int .i64 c, .int .i64 c, .int .i64 0, .int .i64 0, .map (some H.next)] false 0) f1.wf []
  refine ⟨(H.new (.map [])).new (.cells [.int .i64 c, .int .i64 c, .int .i64 0, .int .i64 0, .map (some H.next)] false 0), ?_, ⟨by simp, by simp [kvs]⟩, f1.step wf f2 (by simp)⟩
  rw [exec_fn hT.new]
  simp [e1, e2, e3, writeAt, boxK_agg, endOf, takeAll, results?, resOf, endVal]

theorem lused_ok (hT : LdT T) (h : Ld H l mb cap mark used res kv) : exec T (m + 1) (.fn k_ledger_Ledger_Used) [.pointer (some ⟨l, 0, none⟩)] H = some (.int .i64 used, H) := by
  rw [exec_fn hT.used]
  simp [readCells_of h.at_, endOf, takeAll, results?, resOf, endVal]
theorem lreserved_ok (hT : LdT T) (h : Ld H l mb cap mark used res kv) : exec T (m + 1) (.fn k_ledger_Ledger_Reserved) [.pointer (some ⟨l, 0, none⟩)] H = some (.int .i64 res, H) := by
  rw [exec_fn hT.reserved]
  simp [readCells_of h.at_, endOf, takeAll, results?, resOf, endVal]

theorem lhas_ok (hT : LdT T) (h : Ld H l mb cap mark used res kv) : exec T (m + 1) (.fn k_ledger_Ledger_has) [.pointer (some ⟨l, 0, none⟩), .int .u64 t] H = some (.bool (fidx t kv 0).isSome, H) := by
  rw [exec_fn hT.has]
  cases hf : fidx t kv 0 with
  | none =>
    have e := lookupK_none (H := H) (k := .u64) (z := .int .i64 0) (ok := true) (t := t) h.mp (by rw [findKv_kvs, hf]; rfl)
    simp [readCells_of h.at_, e, endOf, takeAll, results?, resOf, endVal]
  | some p =>
    have e := lookupK_some (H := H) (k := .u64) (z := .int .i64 0) (ok := true) (t := t) h.mp (by rw [findKv_kvs, hf]; rfl)
    simp [readCells_of h.at_, e, endOf, takeAll, results?, resOf, endVal]

theorem lfits_ok (hT : LdT T) (h : Ld H l mb cap mark used res kv) (hc : 0 ≤ cap ∧ cap ≤ 64) (hu : 0 ≤ used ∧ used ≤ 64) (hr : 0 ≤ res ∧ res ≤ 64) :
    exec T (m + 1) (.fn k_ledger_Ledger_Fits) [.pointer (some ⟨l, 0, none⟩), .int .i64 n] H = some (.bool (decide (1 ≤ n ∧ n ≤ cap - used - res)), H) := by
  have w1 : IntKind.i64.wrap (cap - used) = cap - used := wrap_i64 (by omega) (by omega)
  have w2 : IntKind.i64.wrap (cap - used - res) = cap - used - res := wrap_i64 (by omega) (by omega)
  rw [exec_fn hT.fits]
  by_cases h1 : 1 ≤ n
  · simp (maxSteps := 1000000) [readCells_of h.at_, h1, w1, w2, endOf, takeAll, results?, resOf, endVal]
  · simp (maxSteps := 1000000) [readCells_of h.at_, h1, endOf, takeAll, results?, resOf, endVal]
end
end Go.Proofs.Ytnkhlohphaomlaa
