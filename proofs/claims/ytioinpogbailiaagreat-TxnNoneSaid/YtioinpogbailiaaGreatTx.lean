/- The two New of TxnNone. -/
import Derived.Test.YtioinpogbailiaaGreatTxCode
namespace Go.Proofs.YtioinpogbailiaaGreat
open Go
set_option linter.unusedVariables false
set_option linter.unusedSimpArgs false
variable {T : Nat → Option AFun} {H : Heap} {m : Nat}

theorem txnNew_in (hT : T k_txn_New = some c_txn_New) {cl : Int} (h0 : 0 ≤ cl) (h1 : cl < 8) :
    exec T (m + 1) (.fn k_txn_New) [.int .i64 cl] H = some (.tuple #[.pointer (some ⟨H.next, 0, none⟩), .int .i64 0], H.new (.cells [.int .i64 cl, .int .i64 0, .int .u64 0, .slice none 0 0, .pointer none] false 0)) := by
  have e1 : ¬ cl < 0 := by omega
  have e2 : ¬ 8 ≤ cl := by omega
  rw [exec_fn hT]
  simp [e1, e2, writeAt, boxK_agg, endOf, takeAll, results?, resOf, endVal]
theorem txnNew_out (hT : T k_txn_New = some c_txn_New) {cl : Int} (h : cl < 0 ∨ 8 ≤ cl) :
    exec T (m + 1) (.fn k_txn_New) [.int .i64 cl] H = some (.tuple #[.pointer none, .int .i64 2], H) := by
  rw [exec_fn hT]
  by_cases h0 : cl < 0
  · simp [h0, endOf, takeAll, results?, resOf, endVal]
  · have h1 : 8 ≤ cl := by omega
    simp [h0, h1, endOf, takeAll, results?, resOf, endVal]
theorem refNew_in (hT : T k_wicketref18_New = some c_wicketref18_New) {cl : Int} (h0 : 0 ≤ cl) (h1 : cl < 8) :
    exec T (m + 1) (.fn k_wicketref18_New) [.int .i64 cl] H = some (.tuple #[.pointer (some ⟨H.next, 0, none⟩), .int .i64 0], H.new (.cells [.int .i64 cl, .int .i64 0, .int .u64 0, .slice none 0 0, .pointer none] false 0)) := by
  have e1 : ¬ cl < 0 := by omega
  have e2 : ¬ 8 ≤ cl := by omega
  rw [exec_fn hT]
  simp [e1, e2, writeAt, boxK_agg, endOf, takeAll, results?, resOf, endVal]
theorem refNew_out (hT : T k_wicketref18_New = some c_wicketref18_New) {cl : Int} (h : cl < 0 ∨ 8 ≤ cl) :
    exec T (m + 1) (.fn k_wicketref18_New) [.int .i64 cl] H = some (.tuple #[.pointer none, .int .i64 2], H) := by
  rw [exec_fn hT]
  by_cases h0 : cl < 0
  · simp [h0, endOf, takeAll, results?, resOf, endVal]
  · have h1 : 8 ≤ cl := by omega
    simp [h0, h1, endOf, takeAll, results?, resOf, endVal]

/-- The registers behind both calls. -/
def tmNew (tm : Tr Value) (cl : Int) (p q : Option Addr) (e : Int) : Tr Value :=
  (((((((((((((tm.set 31 (some (.int .i64 cl))).set 32 (some (.tuple #[.pointer p, .int .i64 e]))).set 30 (some (.tuple #[.pointer p, .int .i64 e]))).set 33 (some (.pointer p))).set 34 (some (.int .i64 e))).set 6 (some (.pointer p))).set 7 (some (.int .i64 e))).set
    36 (some (.int .i64 cl))).set 37 (some (.tuple #[.pointer q, .int .i64 e]))).set 35 (some (.tuple #[.pointer q, .int .i64 e]))).set 38 (some (.pointer q))).set 39 (some (.int .i64 e))).set 8 (some (.pointer q))).set 9 (some (.int .i64 e))
def hNew (H : Heap) (cl : Int) : Heap := (H.new (.cells [.int .i64 cl, .int .i64 0, .int .u64 0, .slice none 0 0, .pointer none] false 0)).new (.cells [.int .i64 cl, .int .i64 0, .int .u64 0, .slice none 0 0, .pointer none] false 0)

theorem new_in (hT : T k_txn_New = some c_txn_New) (hR : T k_wicketref18_New = some c_wicketref18_New) {cl : Int} (h0 : 0 ≤ cl) (h1 : cl < 8) {tm : Tr Value} {ds : List Nat} {nn : Nat} {rd : Option Nat} {rest : AC} (t0 : tm.get 0 = some (.int .i64 cl)) :
    run (exec T (m + 1)) nn rd (.seq c_wicketlaw18_TxnNone_S5 (.seq c_wicketlaw18_TxnNone_S6 rest)) ⟨tm, H, ds⟩ = run (exec T (m + 1)) nn rd rest ⟨tmNew tm cl (some ⟨H.next, 0, none⟩) (some ⟨H.next + 1, 0, none⟩) 0, hNew H cl, ds⟩ := by
  simp [c_wicketlaw18_TxnNone_S5, c_wicketlaw18_TxnNone_S6, t0, txnNew_in hT h0 h1, refNew_in hR h0 h1, tmNew, hNew]
theorem new_out (hT : T k_txn_New = some c_txn_New) (hR : T k_wicketref18_New = some c_wicketref18_New) {cl : Int} (h : cl < 0 ∨ 8 ≤ cl) {tm : Tr Value} {ds : List Nat} {nn : Nat} {rd : Option Nat} {rest : AC} (t0 : tm.get 0 = some (.int .i64 cl)) :
    run (exec T (m + 1)) nn rd (.seq c_wicketlaw18_TxnNone_S5 (.seq c_wicketlaw18_TxnNone_S6 rest)) ⟨tm, H, ds⟩ = run (exec T (m + 1)) nn rd rest ⟨tmNew tm cl none none 2, H, ds⟩ := by
  simp [c_wicketlaw18_TxnNone_S5, c_wicketlaw18_TxnNone_S6, t0, txnNew_out hT h, refNew_out hR h, tmNew]

def stOf : Option (AExit × St) → St
  | some (_, s) => s
  | none => ⟨.nil, ⟨.nil, 0⟩, []⟩

theorem answers_args {k n : Nat} {args : List Value} (hk : isCode (T k) = true) (h : isEnd (resultsOf T k) (run (exec T n) n none (bodyOf T k) { tm := initTm 0 .nil args, h := H, ds := [] }) = true) : isTrue (exec T (n + 1) (.fn k) args H) = true := by
  simp only [exec]
  unfold bodyOf resultsOf at h
  cases hT : T k with
  | none => rw [hT] at hk; cases hk
  | some af =>
    rw [hT] at h hk
    obtain ⟨rs, bd, pr⟩ := af
    cases pr with
    | some p => cases hk
    | none =>
    simp only at h ⊢
    unfold isEnd at h
    split at h
    · rename_i heq; rw [heq]; exact h
    · rename_i heq; rw [heq]; exact h
    · cases h

section
variable {P : Program} {W : World} {base : Nat} {u : TypeId} {v : Value}
theorem cell_int {k : IntKind} (hu : P.underlying u = some (.int k)) (h : Cell.okWide P W .any base u v) : ∃ z, v = .int k z := by
  simp only [Cell.okWide, hu, Cell.ok] at h
  cases v <;> simp_all
theorem cell_slice {e : TypeId} (hu : P.underlying u = some (.slice e)) (h : Cell.okWide P W .any base u v) : v = .slice none 0 0 ∨ ∃ b off len cap, v = .slice (some ⟨b, off, none⟩) len cap ∧ len ≤ cap := by
  obtain ⟨a, len, cap, rfl⟩ : ∃ a len cap, v = .slice a len cap := by
    simp only [Cell.okWide, hu] at h
    cases v <;> simp_all [Cell.ok]
  simp only [Cell.okWide, hu] at h
  cases a with
  | none =>
    left
    simp only [Cell.ok, hu] at h
    split at h <;> first | (rename_i e1 e2; cases e2; rfl) | simp_all
  | some a =>
    right
    simp only [Cell.ok, hu, World.has] at h
    obtain ⟨b, off, sp⟩ := a
    obtain ⟨h1, _, _, h2, _⟩ := h
    simp only at h2
    subst h2
    exact ⟨b, off, len, cap, rfl, h1⟩
end

end Go.Proofs.YtioinpogbailiaaGreat
