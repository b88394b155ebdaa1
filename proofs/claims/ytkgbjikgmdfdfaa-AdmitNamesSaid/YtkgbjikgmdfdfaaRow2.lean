/- Laws without arguments that read tables of the package level. -/
import Derived.Test.YtkgbjikgmdfdfaaRow
import Derived.Lib.LaidTab
namespace Go.Proofs.Ytkgbjikgmdfdfaa
open Go Go.ChangeShapes Go.WideShapes Go.ChangeAt Go.RowKit
set_option linter.unusedVariables false
set_option linter.unusedSimpArgs false

/-- A table: the variable's number, its kind, its numbers. -/
structure Tab where
  g : Nat
  k : IntKind
  zs : List Int

def Tab.cells (t : Tab) : List Value := t.zs.map fun z => .int t.k z

def heapT : List Tab → Heap → Heap
  | [], H => H
  | t :: rest, H => (heapT rest H).put t.g (.cells t.cells true 0)

def heap1 (P : Program) (tabs : List Tab) : Heap := heapT tabs (heap0 P)

theorem heapT_next : ∀ (tabs : List Tab) (H : Heap), (heapT tabs H).next = H.next := by
  intro tabs
  induction tabs with
  | nil => intro H; rfl
  | cons t rest ih => intro H; exact ih H

theorem heapT_get : ∀ (tabs : List Tab) (H : Heap) (r : Nat) (o : AObj), (heapT tabs H).get r = some o → (∃ t ∈ tabs, r = t.g ∧ o = .cells t.cells true 0) ∨ H.get r = some o := by
  intro tabs
  induction tabs with
  | nil => intro H r o h; exact .inr h
  | cons t rest ih =>
    intro H r o h
    simp only [heapT] at h
    rw [Heap.get_put] at h
    by_cases e : r = t.g
    · rw [if_pos e] at h; cases h
      exact .inl ⟨t, List.mem_cons_self .., e, rfl⟩
    · rw [if_neg e] at h
      rcases ih H r o h with ⟨t', h1, h2⟩ | h1
      · exact .inl ⟨t', List.mem_cons_of_mem _ h1, h2⟩
      · exact .inr h1

def TabHolds (P : Program) (w : World) (t : Tab) : Prop := t.g < P.globals.size ∧ ∃ el fr, w.heap[t.g]? = some (.cells ⟨t.cells⟩ el fr)

theorem tabHolds_of {P : Program} {w : World} {name : String} {t : Tab} (hg : P.globalNamed name = some t.g) (hlt : t.g < P.globals.size) (h : Lib.TabIs P w name t.k t.zs) : TabHolds P w t := by
  refine ⟨hlt, ?_⟩
  unfold Lib.TabIs World.var? at h
  rw [hg] at h
  simp only [Option.bind_some] at h
  split at h
  · rename_i c el fr hc
    simp only [Option.some.injEq] at h
    exact ⟨el, fr, by rw [hc, h]; rfl⟩
  · cases h

theorem vals_all2 {ι : Emb} : ∀ (args : List Value), (∀ v ∈ args, (∃ kk z, v = .int kk z) ∨ ∃ b, v = .bool b) → All2 (VR ι) args args := by
  intro args
  induction args with
  | nil => intro _; exact .nil
  | cons v vs ih =>
    intro hargs
    refine .cons ?_ (ih fun x hx => hargs x (List.mem_cons_of_mem _ hx))
    rcases hargs v (List.mem_cons_self ..) with ⟨kk, z, rfl⟩ | ⟨b, rfl⟩
    · exact .atom (.int _ _)
    · exact .atom (.bool _)

/-- A law whose arguments are integers and truth values, over tables. -/
theorem vals_calls {P : Program} {T : Nat → Option AFun} (hT : TOk P T) (hm : P.follows .mixedOrders = true) {k n : Nat} {tabs : List Tab} {args : List Value} (hargs : ∀ v ∈ args, (∃ kk z, v = .int kk z) ∨ ∃ b, v = .bool b)
    (he : isTrue (exec T n (.fn k) args (heap1 P tabs)) = true) (w : World) (ht : ∀ t ∈ tabs, TabHolds P w t) : Calls P k ⟨args⟩ w fun e w' => e = .returned (.bool true) ∧ Kept w w' := by
  obtain ⟨H', he⟩ := isTrue_inv he
  have hget : ∀ r o, (heap1 P tabs).get r = some o → ∃ t ∈ tabs, r = t.g ∧ o = .cells t.cells true 0 := by
    intro r o h
    rcases heapT_get _ _ _ _ h with h | h
    · exact h
    · simp [heap0, Heap.get, Tr.get] at h
  have hs : Sat P (glob0 P) (heap1 P tabs) w := by
    refine ⟨fun r o h => ?_, fun r r' o o' x x' h _ _ ho => ?_, fun r x h => ?_⟩
    · obtain ⟨t, hm, rfl, rfl⟩ := hget r o h
      obtain ⟨hlt, el, fr, hh⟩ := ht t hm
      refine ⟨t.g, 0, 0, _, by simp [glob0, hlt], hh, fun h => (by cases h), by simp, fun i v hi => ?_⟩
      refine ⟨v, by simpa using hi, ?_⟩
      unfold Tab.cells at hi
      rw [List.getElem?_map] at hi
      cases hz : t.zs[i]? with
      | none => rw [hz] at hi; cases hi
      | some z => rw [hz] at hi; cases hi; exact .atom (.int _ _)
    · obtain ⟨t, _, rfl, rfl⟩ := hget r o h
      cases ho
    · unfold glob0 at h
      split at h
      · rename_i hlt
        show r < (heap1 P tabs).next
        unfold heap1
        rw [heapT_next]; exact hlt
      · cases h
  have hg : Glob P (glob0 P) := fun g hg => by simp [glob0, hg]
  have hall : All2 (VR (glob0 P)) args args := vals_all2 args hargs
  obtain ⟨_, hc⟩ := exec_sound hT hm n (.fn k) args _ _ _ he _ w args hs hg hall
  refine (callsIn_wide.1 hc).mono ?_
  rintro e w' ⟨v', ι', rfl, hv, hst⟩
  refine ⟨?_, hst.os, hst.output, hst.size, fun b hb => hst.frame b hb fun r o x hr ho => ?_⟩
  · cases hv with
    | val h => cases h with
      | cell h => cases h with
        | atom h => cases h; rfl
  · obtain ⟨t, _, _, rfl⟩ := hget r o hr
    cases ho

/-- A law without arguments, over tables. -/
theorem tabs_calls {P : Program} {T : Nat → Option AFun} (hT : TOk P T) (hm : P.follows .mixedOrders = true) {k n : Nat} {tabs : List Tab} (he : isTrue (exec T n (.fn k) [] (heap1 P tabs)) = true) (w : World)
    (ht : ∀ t ∈ tabs, TabHolds P w t) : Calls P k #[] w fun e w' => e = .returned (.bool true) ∧ Kept w w' :=
  vals_calls hT hm (args := []) (fun v h => absurd h List.not_mem_nil) he w ht

/-- The answer of a law whose arguments lie in no memory. -/
theorem plain_post {H : Type} {enc : TypeId × Value → H} {P : Program} {f : Func} {s : ChangeSpec} {apart fresh handsOn again : Bool} {W W' : World} {args : Array Value} {ty : TypeId} {ds : List (DataW H)}
    (hW : DataW.Whole enc P f.params.toList s.vars apart W args.toList ds [] []) (hv : s.vars = []) (hr : f.resultTypes = #[ty]) (hb : P.underlying ty = some .bool)
    (hfn : s.fn H ds = { results := [.lit (.bool true)], args := ds }) (hargs : ∀ (w : World) sp, DataW.TrodAll enc P w 0 sp true f.params.toList args.toList ds []) (hk : Kept W W') :
    s.post enc P f apart fresh handsOn again W args (.bool true) W' := by
  have hone : (Value.bool true).resultList f.resultTypes.size = [.bool true] := by rw [hr]; rfl
  have hres : ∀ b sp hd, DataW.TrodAll enc P W' b sp hd f.resultTypes.toList ((Value.bool true).resultList f.resultTypes.size) (s.fn H (ds ++ [])).results [] := by
    intro b sp hd
    rw [hone, hr, List.append_nil, hfn]
    exact trodAll_mk1 (shut_bool hb true)
  have ha : ∀ sp, DataW.TrodAll enc P W' 0 sp true f.params.toList args.toList (s.fn H (ds ++ [])).args [] := by
    intro sp; rw [List.append_nil, hfn]; exact hargs W' sp
  refine ⟨ds, [], [], [], [], [], hW, hres _ _ _, ha _, ?_, hk.keptBut _, fun _ => ⟨ok_one hr rfl (okWide_bool_mk hb true), (s.fn H (ds ++ [])).results ++ ds, [], [], ⟨[], [], ?_, ?_, rfl, fun _ _ h => absurd h List.not_mem_nil, fun _ => List.nodup_nil⟩, fun _ h => absurd h List.not_mem_nil⟩⟩
  · rw [hv, List.append_nil, hfn]; rfl
  · exact trodAll_append (hargs W' _) (hres _ _ _)
  · rw [hv]; rfl

/-- A block that holds a table. -/
def setTab (t : Tab) (h : Array Obj) : Array Obj := h.modify t.g fun
  | .cells _ ty fr => .cells ⟨t.cells⟩ ty fr
  | o => o

/- ===== an evaluation in parts ===== -/
def seqL : AC → AC
  | .seq a _ => a
  | c => c
def seqR : AC → AC
  | .seq _ b => b
  | c => c
def isSeq : AC → Bool
  | .seq _ _ => true
  | _ => false
def seqRs : Nat → AC → AC
  | 0, c => c
  | j + 1, c => seqRs j (seqR c)
def isSeqs : Nat → AC → Bool
  | 0, _ => true
  | j + 1, c => isSeq c && isSeqs j (seqR c)

/-- The first statements of a sequence. -/
def runN (self : Self) (n : Nat) (rd : Option Nat) : Nat → AC → St → Option (AExit × St)
  | 0, _, s => some (.normal, s)
  | j + 1, c, s => match run self n rd (seqL c) s with
    | some (.normal, s') => runN self n rd j (seqR c) s'
    | r => r

theorem runN_run {self : Self} {n : Nat} {rd : Option Nat} : ∀ (j : Nat) (c : AC) (s s' : St), isSeqs j c = true → runN self n rd j c s = some (.normal, s') → run self n rd c s = run self n rd (seqRs j c) s' := by
  intro j
  induction j with
  | zero => intro c s s' _ h; simp only [runN, Option.some.injEq, Prod.mk.injEq, true_and] at h; subst h; rfl
  | succ j ih =>
    intro c s s' hs h
    simp only [isSeqs, Bool.and_eq_true] at hs
    cases c with
    | seq a b =>
      simp only [runN, seqL, seqR] at h hs
      simp only [seqRs, seqR]
      cases hr : run self n rd a s with
      | none => simp [hr] at h
      | some x =>
        obtain ⟨e, s1⟩ := x
        cases e with
        | normal =>
          simp only [hr] at h
          rw [← ih b s1 s' hs.2 h]
          simp [run, hr]
        | exit i => simp [hr] at h
        | ret => simp [hr] at h
    | _ => cases hs.1

def bodyOf (T : Nat → Option AFun) (k : Nat) : AC := match T k with
  | some af => af.body
  | none => .skip
def resultsOf (T : Nat → Option AFun) (k : Nat) : List ARes := match T k with
  | some af => af.results
  | none => []
def isEnd (rs : List ARes) : Option (AExit × St) → Bool
  | some (.normal, s) => isTrue (endOf s rs)
  | some (.ret, s) => isTrue (endOf s rs)
  | _ => false

def isCode : Option AFun → Bool
  | some ⟨_, _, none⟩ => true
  | _ => false

theorem answers_of {T : Nat → Option AFun} {k n : Nat} {H : Heap} (hk : isCode (T k) = true) (h : isEnd (resultsOf T k) (run (exec T n) n none (bodyOf T k) { tm := .nil, h := H, ds := [] }) = true) : isTrue (exec T (n + 1) (.fn k) [] H) = true := by
  simp only [exec, initTm]
  unfold bodyOf resultsOf at h
  cases hT : T k with
  | none => rw [hT] at hk; cases hk
  | some af =>
    rw [hT] at h hk
    obtain ⟨rs, bd, pr⟩ := af
    cases pr with
    | some p => cases hk
    | none =>
    simp only at h ⊢
    unfold isEnd at h
    split at h
    · rename_i heq; rw [heq]; exact h
    · rename_i heq; rw [heq]; exact h
    · cases h

/-- Cells that hold integers of one kind. -/
def iz (k : IntKind) (zs : List Int) : List Value := zs.map fun z => .int k z

end Go.Proofs.Ytkgbjikgmdfdfaa
