/- TicketRises: the whole law. -/
import Derived.Test.YtiohkpjljinmfaaTr
import Derived.Test.YtiohkpjljinmfaaAw
namespace Go.Proofs.Ytiohkpjljinmfaa
open Go
set_option linter.unusedVariables false
set_option linter.unusedSimpArgs false
variable {T : Nat → Option AFun} {H : Heap} {m : Nat}

theorem rises_ok (hT : Tk T) (hS : T k_wicketlaw11_same = some c_wicketlaw11_same) (hA : T k_wicketlaw11_awake = some c_wicketlaw11_awake) (hL : T k_wicketlaw11_TicketRises = some c_wicketlaw11_TicketRises)
    (w0 : WF H) {v0 v1 : Value} {puts : List Int} {takes : List Bool} (hp : InSl H 1 v0 puts.length (iz .u64 puts)) (ht : InSl H 1 v1 takes.length (takes.map .bool)) (hm : 210 ≤ m) :
    ∃ H', exec T (m + 5) (.fn k_wicketlaw11_TicketRises) [v0, v1] H = some (.bool true, H') ∧ Fr H H' [] := by
  obtain ⟨H1, e1, f1⟩ := awake_ok (m := m) hT hS hA w0 (by omega)
  have f2 := Fr.new (o := .cells [.slice none 0 0, .int .u64 0] false 0) f1.wf []
  have f12 := f1.step w0 f2 (by simp)
  obtain ⟨a0, c0, rfl⟩ := hp.form
  obtain ⟨a1, c1, rfl⟩ := ht.form
  have loop : ∀ tm, Turn H H1.next (.slice a0 puts.length c0) (.slice a1 takes.length c1) 0 0 tm (H1.new (.cells [.slice none 0 0, .int .u64 0] false 0)) →
      ∃ e s', loopN (run (exec T (m + 4)) (m + 4) none c_wicketlaw11_TicketRises_L37) (m + 4) ⟨tm, H1.new (.cells [.slice none 0 0, .int .u64 0] false 0), []⟩ = some (e, s') ∧ e = .exit 0 ∧ Fr H s'.h [] ∧ s'.ds = [] := by
    intro tm h0
    refine Exists.elim (loopN_inv (f := run (exec T (m + 4)) (m + 4) none c_wicketlaw11_TicketRises_L37) (I := fun k st => ∃ i : Nat, k = 200 - i ∧ i ≤ 200 ∧ st.ds = [] ∧ Turn H H1.next (.slice a0 puts.length c0) (.slice a1 takes.length c1) i i st.tm st.h)
      (Q := fun e s' => e = .exit 0 ∧ Fr H s'.h [] ∧ s'.ds = []) ?_ 200 ⟨tm, _, []⟩ (m + 4) ⟨0, rfl, by decide, rfl, h0⟩ (by omega)) (fun e ⟨s', h1, _, h2⟩ => ⟨e, s', h1, h2⟩)
    rintro k ⟨tm1, H2, ds1⟩ ⟨i, hik, hi, hds, hTn⟩
    simp only at hds hTn
    subst hds
    obtain ⟨e, tm', H', h1, ⟨rfl, h2, h3, h4⟩ | ⟨rfl, h2⟩⟩ := outer_step (m := m + 1) (ds := []) hT w0 (by omega) hTn hp ht
    · exact ⟨.normal, _, h1, .inl ⟨rfl, 200 - i - 1, by omega, i + 1, by omega, by omega, rfl, h4⟩⟩
    · exact ⟨.exit 0, _, h1, .inr ⟨by simp, rfl, h2, rfl⟩⟩
  rw [exec_fn hL]
  simp [c_wicketlaw11_TicketRises, c_wicketlaw11_TicketRises_S0, c_wicketlaw11_TicketRises_S1, c_wicketlaw11_TicketRises_S2, c_wicketlaw11_TicketRises_S3, c_wicketlaw11_TicketRises_S4, c_wicketlaw11_TicketRises_S5, c_wicketlaw11_TicketRises_S6, c_wicketlaw11_TicketRises_S7, c_wicketlaw11_TicketRises_S38, e1, boxK_agg, run_loop]
  refine thru (G := fun X => ∃ H', endK [ARes.tmp 4] (seqK _ _ none _ (blockK 0 X)) = some (Value.bool true, H') ∧ Fr H H' []) (loop _ ?_) ?_
  · refine ⟨⟨.slice none 0 0, [], 0, 0, ⟨by simp, .empty⟩, trivial, by simp, by simp, by simp, by simp, by simp, by simp [blk], by simp, by simp, by simp⟩, f12, f1.le, by simp, by simp, by simp, by simp⟩
  · rintro e ⟨tm', H', ds'⟩ ⟨rfl, f, hds⟩
    simp only at f hds; subst hds
    exact ⟨H', by simp [c_wicketlaw11_TicketRises_S39, endOf, takeAll, results?, resOf, endVal], f⟩
end Go.Proofs.Ytiohkpjljinmfaa
