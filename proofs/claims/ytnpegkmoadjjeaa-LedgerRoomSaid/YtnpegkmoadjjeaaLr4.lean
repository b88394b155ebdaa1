/- LedgerRoom: one step of the script. -/
import Derived.Test.YtnpegkmoadjjeaaLr3
namespace Go.Proofs.Ytnpegkmoadjjeaa
open Go
set_option linter.unusedVariables false
set_option linter.unusedSimpArgs false
variable {T : Nat → Option AFun} {H : Heap} {m : Nat}

structure Op4 where
  kind : Int
  which : Int
  ticket : Int
  n : Int
def Op4.cells (o : Op4) : List Value := [.int .i64 o.kind, .int .i64 o.which, .int .u64 o.ticket, .int .i64 o.n]

structure Room (H0 : Heap) (l mb : Nat) (c : Int) (v1 : Value) (i k : Nat) (kv : List (Int × Int)) (used : Int) (st sl : Value) (tm : Tr Value) (H : Heap) : Prop where
  ld : Ld H l mb c c used (tot kv) kv
  sst : Sl H 1 st kv.length (iz .u64 (kv.map (·.1)))
  ssl : Sl H 1 sl kv.length (iz .i64 (kv.map (·.2)))
  dis : ∀ b ∈ blk st, b ∉ blk sl
  bst : ∀ b ∈ blk st, H0.next ≤ b
  bsl : ∀ b ∈ blk sl, H0.next ≤ b
  nodup : (kv.map (·.1)).Nodup
  nn : ∀ p ∈ kv, 0 ≤ p.2
  hu : 0 ≤ used
  hle : used + tot kv ≤ c
  len : kv.length ≤ k
  cst : capOf st ≤ k
  csl : capOf sl ≤ k
  fr : Fr H0 H []
  hl : H0.next ≤ l
  hmb : H0.next ≤ mb
  hc : 2 ≤ c ∧ c ≤ 64
  r1 : tm.get 1 = some v1
  r5 : tm.get 5 = some (.int .i64 c)
  r6 : tm.get 6 = some (.pointer (some ⟨l, 0, none⟩))
  r8 : tm.get 8 = some st
  r9 : tm.get 9 = some sl
  r10 : tm.get 10 = some (.int .i64 used)
  r11 : tm.get 11 = some (.int .i64 i)

theorem Room.tm {H0 : Heap} {l mb : Nat} {c : Int} {v1 : Value} {i k : Nat} {kv : List (Int × Int)} {used : Int} {st sl : Value} {tm tm' : Tr Value} (h : Room H0 l mb c v1 i k kv used st sl tm H) (hk : Keeps 12 tm tm') : Room H0 l mb c v1 i k kv used st sl tm' H :=
  { h with r1 := hk.get h.r1, r5 := hk.get h.r5, r6 := hk.get h.r6, r8 := hk.get h.r8, r9 := hk.get h.r9, r10 := hk.get h.r10, r11 := hk.get h.r11 }
theorem Room.heap {H0 H' : Heap} {l mb : Nat} {c : Int} {v1 : Value} {i k : Nat} {kv : List (Int × Int)} {used : Int} {st sl : Value} {tm : Tr Value} (w0 : WF H0) (h : Room H0 l mb c v1 i k kv used st sl tm H) (f : Fr H H' []) : Room H0 l mb c v1 i k kv used st sl tm H' :=
  { h with ld := h.ld.fr f (by simp) (by simp), sst := h.sst.fr f (by simp), ssl := h.ssl.fr f (by simp), fr := h.fr.step w0 f (by simp) }

/-- What stands behind the scan: the step's box, where its ticket stands, what is kept. -/
structure Seen (box : Nat) (o : Op4) (kv : List (Int × Int)) (tm : Tr Value) (H : Heap) : Prop where
  hb : H.get box = some (.cells o.cells false 0)
  r12 : tm.get 12 = some (.pointer (some ⟨box, 0, none⟩))
  r13 : tm.get 13 = some (.int .i64 (atOf o.ticket kv))
  r14 : tm.get 14 = some (.int .i64 (tot kv))

def prefixC : AC := .seq c_wicketlaw12_LedgerRoom_S12 <| .seq c_wicketlaw12_LedgerRoom_S13 <| .seq c_wicketlaw12_LedgerRoom_S21 <| .seq c_wicketlaw12_LedgerRoom_S24 c_wicketlaw12_LedgerRoom_S25

theorem prefix_ok (hT : LdT T) {H0 : Heap} (w0 : WF H0) {l mb : Nat} {c : Int} {v1 : Value} {i k n : Nat} {kv : List (Int × Int)} {used : Int} {st sl : Value} {tm : Tr Value} {ds : List Nat} (h : Room H0 l mb c v1 i k kv used st sl tm H) (hk : k ≤ 200) (hm : 300 ≤ m) {o : Op4}
    (hv : ∃ b0 sp, v1 = .slice (some ⟨b0, 0, sp⟩) n n ∧ readCells H b0 (i * 4) 4 = some o.cells) (hi : i < n) (hi2 : i < 1000) :
    ∃ tm' box H', run (exec T (m + 1)) (m + 1) none prefixC ⟨tm, H, ds⟩ = some (.normal, ⟨tm', H', ds⟩) ∧ Room H0 l mb c v1 i k kv used st sl tm' H' ∧ Seen box o kv tm' H' ∧ H0.next ≤ box ∧ tm'.get 96 = some (.int .i64 o.kind) := by
  obtain ⟨b0, sp, rfl, hr⟩ := hv
  have f1 := Fr.new (o := .cells [.int .i64 0, .int .i64 0, .int .u64 0, .int .i64 0] false 0) h.fr.wf []
  have f2 := Fr.put (r := H.next) (o := .cells o.cells false 0) (fp := [H.next]) f1.wf (by simp) (by simp)
  have f12 := f1.step h.fr.wf f2 (by simp)
  have hst : storeK (H.new (.cells [.int .i64 0, .int .i64 0, .int .u64 0, .int .i64 0] false 0)) 4 (.agg ⟨o.cells⟩) (.pointer (some ⟨H.next, 0, none⟩)) = some (undef, (H.new (.cells [.int .i64 0, .int .i64 0, .int .u64 0, .int .i64 0] false 0)).put H.next (.cells o.cells false 0)) := by
    rw [storeK_ptr (by simp [Op4.cells]) (by simp [Op4.cells]), writeCells_of (cs := [.int .i64 0, .int .i64 0, .int .u64 0, .int .i64 0]) (es := 0) (by simp) (by simp [Op4.cells])]
    simp [Op4.cells, writeAt]
  have h2 := h.heap w0 f12
  have r1 := h.r1; have r11 := h.r11; have r6 := h.r6; have r10 := h.r10; have r5 := h.r5
  have hi' : (i : Int) < n := by omega
  obtain ⟨t0, e0, k0, i12, i13, i14⟩ : ∃ t0, run (exec T (m + 1)) (m + 1) none (.seq c_wicketlaw12_LedgerRoom_S12 c_wicketlaw12_LedgerRoom_S13) ⟨tm, H, ds⟩ = some (.normal, ⟨t0, (H.new (.cells [.int .i64 0, .int .i64 0, .int .u64 0, .int .i64 0] false 0)).put H.next (.cells o.cells false 0), ds⟩) ∧ Keeps 12 tm t0 ∧
      t0.get 12 = some (.pointer (some ⟨H.next, 0, none⟩)) ∧ t0.get 13 = some (.int .i64 (-1)) ∧ t0.get 14 = some (.int .i64 0) := by
    simp (disch := first | omega | (simp; omega) | (simp; done) | fail) [c_wicketlaw12_LedgerRoom_S12, c_wicketlaw12_LedgerRoom_S13, r1, r11, idxK_of, hr, hst]
  obtain ⟨t1, e1, k01, j15⟩ : ∃ t1, run (exec T (m + 1)) (m + 1) none c_wicketlaw12_LedgerRoom_S14 ⟨t0, (H.new (.cells [.int .i64 0, .int .i64 0, .int .u64 0, .int .i64 0] false 0)).put H.next (.cells o.cells false 0), ds⟩ = some (.normal, ⟨t1, (H.new (.cells [.int .i64 0, .int .i64 0, .int .u64 0, .int .i64 0] false 0)).put H.next (.cells o.cells false 0), ds⟩) ∧ Keeps 15 t0 t1 ∧ t1.get 15 = some (.int .i64 0) := by
    simp [c_wicketlaw12_LedgerRoom_S14]
  have k1 : Keeps 12 tm t1 := k0.trans (k01.le (by decide))
  have j12 := k01.get i12
  have j13 := k01.get i13
  have j14 := k01.get i14
  have hbox : ((H.new (.cells [.int .i64 0, .int .i64 0, .int .u64 0, .int .i64 0] false 0)).put H.next (.cells o.cells false 0)).get H.next = some (.cells o.cells false 0) := by simp
  have hcc := h.hc
  have hu := h.hu
  have hle := h.hle
  have hpos := tot_nonneg h.nn
  obtain ⟨ex, ⟨t2, H2, ds2⟩, e2, rfl, hH, hds, kk, g13, g14⟩ := scan_ok (m := m + 1) (T := T) (tm := t1) (ds := ds) (t := o.ticket) h2.sst.toRd h2.ssl.toRd hbox rfl h.nodup h.nn (by omega) (by have := h.len; omega) (by have := h.len; omega) (k1.get h.r8) (k1.get h.r9) j12 j13 j14 j15
  simp only at hH hds kk g13 g14
  subst hH hds
  have k2 : Keeps 12 tm t2 := fun q hq => (kk q (by omega) (by simp; omega)).trans (k1 q hq)
  have u1 := lused_ok (m := m) hT h2.ld
  have u2 := lreserved_ok (m := m) hT h2.ld
  have w1 : IntKind.i64.wrap (used + tot kv) = used + tot kv := wrap_i64 (by omega) (by omega)
  have hgt : ¬ c < used + tot kv := by omega
  have hrd : readCells ((H.new (.cells [.int .i64 0, .int .i64 0, .int .u64 0, .int .i64 0] false 0)).put H.next (.cells o.cells false 0)) H.next 0 1 = some [.int .i64 o.kind] := by
    rw [readCells_of hbox (by simp [Op4.cells])]; simp [Op4.cells]
  have g12 : t2.get 12 = some (.pointer (some ⟨H.next, 0, none⟩)) := kk.get j12
  obtain ⟨t3, e3, k3, j96⟩ : ∃ t3, run (exec T (m + 1)) (m + 1) none (.seq c_wicketlaw12_LedgerRoom_S24 c_wicketlaw12_LedgerRoom_S25) ⟨t2, (H.new (.cells [.int .i64 0, .int .i64 0, .int .u64 0, .int .i64 0] false 0)).put H.next (.cells o.cells false 0), ds2⟩ = some (.normal, ⟨t3, (H.new (.cells [.int .i64 0, .int .i64 0, .int .u64 0, .int .i64 0] false 0)).put H.next (.cells o.cells false 0), ds2⟩) ∧ Keeps 16 t2 t3 ∧ t3.get 96 = some (.int .i64 o.kind) := by
    simp (maxSteps := 1000000) (disch := first | omega | (simp; omega) | (simp; done) | fail) [c_wicketlaw12_LedgerRoom_S22, c_wicketlaw12_LedgerRoom_S23, c_wicketlaw12_LedgerRoom_S24, c_wicketlaw12_LedgerRoom_S25, k2.get r6, k2.get r10, k2.get r5, g14, g12, u1, u2, w1, hgt, hrd]
  refine ⟨t3, H.next, _, ?_, (h2.tm k2).tm (k3.le (by decide)), ⟨hbox, k3.get g12, k3.get g13, k3.get g14⟩, h.fr.le, j96⟩
  have e21 : run (exec T (m + 1)) (m + 1) none c_wicketlaw12_LedgerRoom_S21 ⟨t0, (H.new (.cells [.int .i64 0, .int .i64 0, .int .u64 0, .int .i64 0] false 0)).put H.next (.cells o.cells false 0), ds2⟩ = some (.normal, ⟨t2, (H.new (.cells [.int .i64 0, .int .i64 0, .int .u64 0, .int .i64 0] false 0)).put H.next (.cells o.cells false 0), ds2⟩) := by
    rw [c_wicketlaw12_LedgerRoom_S21, run_seq, e1, seqK_normal, run_block, run_loop, e2]; rfl
  rw [prefixC, run_pre2, e0, seqK_normal, run_seq, e21, seqK_normal, e3]
end Go.Proofs.Ytnpegkmoadjjeaa
