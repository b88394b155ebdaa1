/- TicketPlays. -/
import Derived.Test.YtpcmjoghflllfaaTp8
namespace Go.Proofs.Ytpcmjoghflllfaa
open Go
set_option linter.unusedVariables false
set_option linter.unusedSimpArgs false

section
variable {p N n : Nat} {D : Nat → Sd} {K : List (Nat × Nat)} {L F G : Ch} {h : Heap}

theorem plays_ok (hP : PSx p D K N L) (ho : Own h (L ++ F)) (o : OpT) (hN : N ≤ 900) (hn : 2000 ≤ n) :
    ∃ h' L' D' K', f_wicketlaw11_pair_plays n (some ⟨p, 0, none⟩) (.agg ⟨o.cells⟩) h = some ((true, ()), h') ∧ PSx p D' K' (N + 1) L' ∧ Own h' (L' ++ F) := by
  by_cases h14 : o.kind = 1 ∨ o.kind = 2 ∨ o.kind = 3 ∨ o.kind = 4
  · obtain ⟨h', L', D', e⟩ := plays1 hP ho o h14 hN hn; exact ⟨h', L', D', K, e⟩
  by_cases h5 : o.kind = 5
  · obtain ⟨h', L', D', e⟩ := plays5 hP ho o h5 hN hn; exact ⟨h', L', D', K, e⟩
  by_cases h6 : o.kind = 6
  · obtain ⟨h', L', K', e⟩ := plays6 hP ho o h6 hN hn; exact ⟨h', L', D, K', e⟩
  by_cases h7 : o.kind = 7
  · exact plays7 hP ho o h7 hN hn
  simp only [not_or] at h14
  obtain ⟨h', L', e⟩ := plays0 (n := n) hP ho o ⟨h14.1, h14.2.1, h14.2.2.1, h14.2.2.2, h5, h6, h7⟩
  exact ⟨h', L', D, K, e⟩

theorem upd_same {w : Nat} : upd D w (D w).xs (D w).last = D := by
  funext i
  simp only [upd]
  split
  · rename_i e; rw [e]
  · rfl

/-- The script. -/
theorem script_ok {u : Value} {k : Nat} {cs : List Value} {h9 : Heap} (hu : Sow 4 u k cs G) (hops : ∀ i, i < k → ∃ o : OpT, (cs.drop (i * 4)).take 4 = o.cells) (hp : h9.next = p) (hP : PSx p D K 0 L) (ho : Own h (L ++ G)) (hn : 2000 ≤ n) :
    ∃ h' L' D' K', f_wicketlaw11_TicketPlays_C23 n u h9 h = some (.inl ((false, ()), h')) ∧ PSx p D' K' 60 L' ∧ Own h' (L' ++ G) := by
  obtain ⟨r, e1, h', L', D', K', rfl, e2, e3⟩ := loopT_up (f := fun a : (Bool × Int × Unit) × Heap => f_wicketlaw11_TicketPlays_L22 n u h9 a.1.1 a.1.2.1 a.2)
    (I := fun j a => a.1.1 = false ∧ a.1.2.1 = (j : Int) ∧ ∃ L D K, PSx p D K j L ∧ Own a.2 (L ++ G)) (Q := fun r => ∃ h' L' D' K', r = .inl ((false, ()), h') ∧ PSx p D' K' 60 L' ∧ Own h' (L' ++ G)) (N := min k 60) (k := n) (j := 0) (a := ((false, 0, ()), h)) (by omega) (Nat.zero_le _) ⟨rfl, rfl, L, D, K, hP, ho⟩ (by
      rintro j ⟨⟨b, i, _⟩, hh⟩ hj ⟨rfl, rfl, L, D, K, hP, ow⟩
      simp only at ow
      have hjk : j < k := by omega
      have hj60 : (j : Int) < 60 := by omega
      have rd : Rds hh 4 u k cs := hu hh fun x hx => ow.get x (by simp [hx])
      obtain ⟨q, a1, a2⟩ := rd.ix j hjk
      obtain ⟨o, ho⟩ := hops j hjk
      rw [ho] at a2
      have ld : ldA 4 hh (some q) = some o.cells := by rw [a2.ldA0 (by simp [OpT.cells])]; rfl
      obtain ⟨h', L', D', K', e, hP', ow'⟩ := plays_ok (n := n) hP ow o (by omega) hn
      refine .inl ⟨((false, ((j + 1 : Nat) : Int), ()), h'), ?_, rfl, rfl, L', D', K', hP', ow'⟩
      simp [f_wicketlaw11_TicketPlays_L22, rd.lenB, hjk, hj60, a1, ld, hp, e, wrap_succ (j := j) (by omega)]) (by
      rintro ⟨⟨b, i, _⟩, hh⟩ ⟨rfl, rfl, L, D, K, hP, ow⟩
      simp only at ow
      have rd : Rds hh 4 u k cs := hu hh fun x hx => ow.get x (by simp [hx])
      refine ⟨_, ?_, hh, L, D, K, rfl, ?_, ow⟩
      · by_cases hk : min k 60 < k
        · have e60 : min k 60 = 60 := by omega
          simp [f_wicketlaw11_TicketPlays_L22, rd.lenB, e60, (show 60 < k by omega)]
        · have e60 : min k 60 = k := by omega
          simp [f_wicketlaw11_TicketPlays_L22, rd.lenB, e60]
      · obtain ⟨ks, Q0, R0, Q1, R1, A, hs, hL⟩ := hP
        exact ⟨ks, Q0, R0, Q1, R1, A, { hs with len := fun i hi => Nat.le_trans (hs.len i hi) (by omega), klen := Nat.le_trans hs.klen (by omega) }, hL⟩)
  exact ⟨h', L', D', K', e1, e2, e3⟩

/-- Both queues are the document's. -/
theorem both_ok {h9 : Heap} {a24 : (Bool × Unit) × Heap} (ha : a24.1.1 = false) (hp : h9.next = p) (hP : PSx p D K N L) (ho : Own h (L ++ G)) (hN : N ≤ 800) (hn : 2000 ≤ n) :
    ∃ h' L', f_wicketlaw11_TicketPlays_C39 n h9 a24 h = some (.inl ((false, ()), h')) ∧ PSx p D K (N + 2) L' ∧ Own h' (L' ++ G) := by
  obtain ⟨r, e1, h', L', rfl, e2, e3⟩ := loopT_up (f := fun a : (Bool × Int × Unit) × Heap => f_wicketlaw11_TicketPlays_L38 n h9 a.1.1 a.1.2.1 a.2)
    (I := fun j a => a.1.1 = false ∧ a.1.2.1 = (j : Int) ∧ ∃ L, PSx p D K (N + j) L ∧ Own a.2 (L ++ G)) (Q := fun r => ∃ h' L', r = .inl ((false, ()), h') ∧ PSx p D K (N + 2) L' ∧ Own h' (L' ++ G)) (N := 2) (k := n) (j := 0) (a := ((false, 0, ()), h)) (by omega) (Nat.zero_le _) ⟨rfl, rfl, L, hP, ho⟩ (by
      rintro w ⟨⟨b, i, _⟩, hh⟩ hw ⟨rfl, rfl, L, hP, ow⟩
      simp only at ow
      obtain ⟨ks, Q, R, X, hq, hr, hri, hlen, o1, fin⟩ := hP.side ow hw
      have gp := o1.head
      have ldq : ldT .ptr hh (some ⟨p, w, none⟩) = some (some ⟨(D w).q, 0, none⟩) := by rw [ldT_of gp, pget_q hw]; rfl
      have iq : ixA 2 1 (some ⟨p, 0, none⟩) (w : Int) = some ⟨p, w, none⟩ := by rw [ixA_of hw]; simp
      have ir : ixA 2 1 (some ⟨p, 2, none⟩) (w : Int) = some ⟨p, 2 + w, none⟩ := by rw [ixA_of hw]; simp
      obtain ⟨s1, h1, A1, e1, l1, o2⟩ := listed_ok (n := n) (m := -1) hq (F := (p, .cells (pcells D ks) false 0) :: (R ++ (X ++ G))) (o1.to fun x => by simp only [cnt_append, cnt_cons, cnt_nil]; omega) (by omega) hn
      obtain ⟨s, A, hs, rfl⟩ := hr
      have o3 : Own h1 ((p, .cells (pcells D ks) false 0) :: (Q ++ (((D w).r, .cells [s, .int .u64 (D w).last] false 0) :: (A ++ (A1 ++ (X ++ G)))))) := o2.to fun x => by simp only [cnt_append, cnt_cons, cnt_nil, List.cons_append]; omega
      have ldr : ldT .ptr h1 (some ⟨p, 2 + w, none⟩) = some (some ⟨(D w).r, 0, none⟩) := by rw [ldT_of o3.head, pget_r hw]; rfl
      have gr : h1.get (D w).r = some (.cells [s, .int .u64 (D w).last] false 0) := o3.get ((D w).r, _) (by simp)
      have rd1 : Rds h1 1 s1 (D w).xs.length (iz .u64 (D w).xs) := l1.sow h1 fun x hx => o3.get x (by simp [hx])
      have rds : Rds h1 1 s (D w).xs.length (iz .u64 (D w).xs) := hs.sow h1 fun x hx => o3.get x (by simp [hx])
      have e3 := same_ok (n := n) rd1 rds (by omega) hn
      obtain ⟨L', f1, f2⟩ := fin h1 Q (((D w).r, .cells [s, .int .u64 (D w).last] false 0) :: A) _ _ hq ⟨s, A, hs, rfl⟩ hri (by omega) (o3.to fun x => by simp only [cnt_append, cnt_cons, cnt_nil, List.cons_append]; omega)
      rw [upd_same] at f1
      refine .inl ⟨((false, ((w + 1 : Nat) : Int), ()), h1), ?_, rfl, rfl, L', f1, f2⟩
      have hw2 : (w : Int) < 2 := by omega
      simp only [f_wicketlaw11_TicketPlays_L38, nwA_eq, hp, fa_mk, Nat.zero_add, hw2, decide_true, cond_true, iq, ir, Option.bind_some, ldq, e1]
      simp [ldr, ldT_of gr, e3, wrap_succ (j := w) (by omega)]) (by
      rintro ⟨⟨b, i, _⟩, hh⟩ ⟨rfl, rfl, L, hP, ow⟩
      exact ⟨.inl ((false, ()), hh), by simp [f_wicketlaw11_TicketPlays_L38], hh, L, rfl, hP, ow⟩)
  rw [f_wicketlaw11_TicketPlays_C39, ha]
  exact ⟨h', L', e1, e2, e3⟩
end
end Go.Proofs.Ytpcmjoghflllfaa
