/- Drawn regions whose small operations make and read rows: what is hidden comes back. -/
import Derived.Test.YtkfdikcnpaechaaSl
namespace Go.Proofs.Ytkfdikcnpaechaa
open Go
set_option linter.unusedVariables false
set_option linter.unusedSimpArgs false
variable {H : Heap} {self : Self} {tm : Tr Value} {ds : List Nat}

theorem Tr.setF_get {α : Type} {v : α} : ∀ (f : Nat) (t : Tr α) (k : Nat), k < f → t.get k = some v → Tr.setF f t k (some v) = t := by
  intro f
  induction f with
  | zero => intro t k h; omega
  | succ f ih =>
    intro t k hk hg
    cases t with
    | nil => cases hg
    | node l x r =>
      cases k with
      | zero => simp only [Tr.get] at hg; subst hg; rfl
      | succ k =>
        simp only [Tr.get] at hg
        simp only [Tr.setF]
        cases hb : Nat.beq (k % 2) 0 <;> simp only [cond_true, cond_false, hb] at hg ⊢ <;> rw [ih _ _ (by omega) hg]

theorem Tr.setF_comm {α : Type} {x y : Option α} : ∀ (f g : Nat) (t : Tr α) (a b : Nat), a < g → b < f → a ≠ b → Tr.setF f (Tr.setF g t a x) b y = Tr.setF g (Tr.setF f t b y) a x := by
  intro f
  induction f with
  | zero => intro g t a b _ h; omega
  | succ f ih =>
    intro g t a b ha hb hne
    cases g with
    | zero => omega
    | succ g =>
      cases t with
      | nil =>
        cases a with
        | zero =>
          cases b with
          | zero => exact absurd rfl hne
          | succ b => simp only [Tr.setF]; cases Nat.beq (b % 2) 0 <;> rfl
        | succ a =>
          cases b with
          | zero => simp only [Tr.setF]; cases Nat.beq (a % 2) 0 <;> rfl
          | succ b =>
            simp only [Tr.setF]
            cases h1 : Nat.beq (a % 2) 0 <;> cases h2 : Nat.beq (b % 2) 0 <;> simp only [cond_true, cond_false, Tr.setF, h1, h2] <;> try rfl
            all_goals
              rw [ih g .nil (a / 2) (b / 2) (by omega) (by omega) (by
                intro he
                have e1 := Nat.div_add_mod a 2
                have e2 := Nat.div_add_mod b 2
                have h1' : Nat.beq (a % 2) 0 = Nat.beq (b % 2) 0 := by rw [h1, h2]
                have : a % 2 = b % 2 := by
                  rcases Nat.mod_two_eq_zero_or_one a with q | q <;> rcases Nat.mod_two_eq_zero_or_one b with q' | q' <;> rw [q, q'] at h1' <;> simp_all
                omega)]
      | node l v r =>
        cases a with
        | zero =>
          cases b with
          | zero => exact absurd rfl hne
          | succ b => simp only [Tr.setF]; cases Nat.beq (b % 2) 0 <;> rfl
        | succ a =>
          cases b with
          | zero => simp only [Tr.setF]; cases Nat.beq (a % 2) 0 <;> rfl
          | succ b =>
            simp only [Tr.setF]
            cases h1 : Nat.beq (a % 2) 0 <;> cases h2 : Nat.beq (b % 2) 0 <;> simp only [cond_true, cond_false, Tr.setF, h1, h2] <;> try rfl
            all_goals
              rw [ih g _ (a / 2) (b / 2) (by omega) (by omega) (by
                intro he
                have e1 := Nat.div_add_mod a 2
                have e2 := Nat.div_add_mod b 2
                have h1' : Nat.beq (a % 2) 0 = Nat.beq (b % 2) 0 := by rw [h1, h2]
                have : a % 2 = b % 2 := by
                  rcases Nat.mod_two_eq_zero_or_one a with q | q <;> rcases Nat.mod_two_eq_zero_or_one b with q' | q' <;> rw [q, q'] at h1' <;> simp_all
                omega)]

theorem drop_put {b : Nat} {o : AObj} (h : H.get b = some o) : (H.drop b).put b o = H := by
  simp only [Heap.put, Heap.drop, Tr.set]
  rw [Tr.setF_setF _ _ _ (Nat.lt_succ_self b), Tr.setF_get _ _ _ (Nat.lt_succ_self b) h]
theorem put_put_comm {a b : Nat} {o o' : AObj} (hne : a ≠ b) : (H.put a o).put b o' = (H.put b o').put a o := by
  simp only [Heap.put, Tr.set]
  rw [Tr.setF_comm _ _ _ _ _ (Nat.lt_succ_self a) (Nat.lt_succ_self b) hne]
theorem drop_new_put {b : Nat} {o B : AObj} (h : H.get b = some o) (hb : b < H.next) : ((H.drop b).new B).put b o = H.new B := by
  simp only [Heap.put, Heap.drop, Heap.new, Tr.set]
  rw [Tr.setF_comm _ _ _ _ _ (Nat.lt_succ_self H.next) (Nat.lt_succ_self b) (by omega), Tr.setF_setF _ _ _ (Nat.lt_succ_self b), Tr.setF_get _ _ _ (Nat.lt_succ_self b) h]
theorem put_self {b : Nat} {o : AObj} (h : H.get b = some o) : H.put b o = H := by
  simp only [Heap.put, Tr.set]
  rw [Tr.setF_get _ _ _ (Nat.lt_succ_self b) h]
theorem new_put {o o' : AObj} : (H.new o).put H.next o' = H.new o' := by
  simp only [Heap.put, Heap.new, Tr.set]
  rw [Tr.setF_setF _ _ _ (Nat.lt_succ_self _)]

def Heap.back (H : Heap) (b : Nat) (x : Option AObj) : Heap := { H with tr := H.tr.set b x }
@[simp] theorem back_some {b : Nat} {o : AObj} : H.back b (some o) = H.put b o := rfl
theorem doperK_h {i big dst op log b} (hb : b < H.next) : doperK self i big dst op tm H ds log [b] [] =
    noteK i big tm ds dst (readsOf (St.val tm) op) H log ((opRun self (St.val tm) (H.drop b) op).map fun p => (p.1, p.2.back b (H.get b))) := by
  have e : Nat.blt b H.next = true := Nat.ble_eq_true_of_le hb
  simp only [doperK, List.all_cons, e, List.all_nil, Bool.and_self, cond_true, Heap.dropAll, Heap.roAll, List.append_nil, Heap.putBack]; rfl
theorem doperK_r {i big dst op log r} : doperK self i big dst op tm H ds log [] [r] =
    noteK i big tm ds dst (readsOf (St.val tm) op) H log ((opRun self (St.val tm) (H.roAt r) op).map fun p => (p.1, p.2.back r (H.get r))) := doperK_read
theorem doperK_hr' {i big dst op log b r} (hb : b < H.next) : doperK self i big dst op tm H ds log [b] [r] =
    noteK i big tm ds dst (readsOf (St.val tm) op) H log ((opRun self (St.val tm) ((H.drop b).roAt r) op).map fun p => (p.1, (p.2.back r (H.get r)).back b (H.get b))) := doperK_hr hb
def ptrReads : Value → List Nat
  | .pointer (some p) => [p.block]
  | _ => []
@[simp] theorem readsOf_load {ev : Operand → Value} {g n x} : readsOf ev (.load g n x) = ptrReads (ev x) := by
  simp only [readsOf]; cases ev x <;> rfl
@[simp] theorem ptrReads_ptr {p} : ptrReads (.pointer (some p)) = [p.block] := rfl
end Go.Proofs.Ytkfdikcnpaechaa
