/- SectorKeeps: the law, put together. -/
import Derived.Test.YtempahfiiofjkaaSk8
namespace Go.Proofs.Ytempahfiiofjkaa
open Go
set_option linter.unusedVariables false
set_option linter.unusedSimpArgs false

/-- How a list is handed in. -/
def Lst (u : Value) (n : Nat) : Prop := u = .slice none 0 0 ∨ ∃ b, u = .slice (some ⟨b, 0, none⟩) n n

section
variable {n : Nat} {G : Ch} {h : Heap} {u0 u1 u2 : Value} {X0 X1 X2 : List Int}

theorem sectorKeeps_ok (hu0 : Sow 1 u0 X0.length (iz .i64 X0) G) (hu1 : Sow 1 u1 X1.length (iz .i64 X1) G) (hu2 : Sow 1 u2 X2.length (iz .i64 X2) G)
    (hf0 : Lst u0 X0.length) (hf1 : Lst u1 X1.length) (hf2 : Lst u2 X2.length) (ho : Own h G) (hn : 5000 ≤ n) :
    ∃ h', f_wicketlaw04_SectorKeeps n u0 u1 u2 h = some ((true, ()), h') := by
  have aw : f_wicketlaw04_awake n h = some ((true, ()), h) := rfl
  have ho : Own h (G ++ []) := by simpa using ho
  obtain ⟨s1, h1, A1, e1, a1, o1⟩ := some_ok (n := n) hu0 hf0 ho
  obtain ⟨s2, h2, A2, e2, a2, o2⟩ := some_ok (n := n) hu1 hf1 (F := A1) (o1.to fun x => by simp only [cnt_append, cnt_nil]; omega)
  obtain ⟨s3, h3, A3, e3, a3, o3⟩ := some_ok (n := n) hu2 hf2 (F := A1 ++ A2) (o2.to fun x => by simp only [cnt_append, cnt_nil]; omega)
  have n1 : (X0.take 30).length ≤ 30 := by simp; omega
  have n2 : (X1.take 30).length ≤ 30 := by simp; omega
  have n3 : (X2.take 30).length ≤ 30 := by simp; omega
  generalize X0.take 30 = Y at a1 n1
  generalize X1.take 30 = W at a2 n2
  generalize X2.take 30 = K at a3 n3
  obtain ⟨p, h4, L4, e4, d4, o4⟩ := new_ok (n := n) (N := 8) (h := h3) (F := A1 ++ (A2 ++ A3)) (o3.to fun x => by simp only [cnt_append]; omega) (by omega) (by omega)
  have e4 : f_sector_New n 8 h3 = some ((some ⟨p, 0, none⟩, (0, ())), h4) := e4
  obtain ⟨h5, L5, e5, d5, o5⟩ := put_ok (n := n) (sp := none) d4 a1.sow (F := A2 ++ A3) o4 (by simp) n1 (by simp) (by omega)
  rw [List.nil_append] at d5
  obtain ⟨h7, L7, e7, d7, o7⟩ := flush_ok (n := n) (sp := none) d5 o5 (by simp; omega) (by omega)
  rw [wsOf_len] at e7 d7
  have hD1 : (ak (fun _ => true) (wsOf Y) Y.length (List.replicate 8 (List.replicate 64 0))).length = 8 := by rw [ak_len, List.length_replicate]
  generalize ak (fun _ => true) (wsOf Y) Y.length (List.replicate 8 (List.replicate 64 0)) = D1 at d7 hD1
  obtain ⟨s8, h8, A8, e8, a8, o8⟩ := image_ok' (n := n) (sp := none) d7 o7 (by omega) (by omega)
  rw [hD1] at a8
  have ew := waiting_nil (n := n) (sp := none) d7 (F := A8 ++ (A1 ++ (A2 ++ A3))) (h := h8) (o8.to fun x => by simp only [cnt_append]; omega) (by omega)
  obtain ⟨h13, L13, e13, d13, o13⟩ := put_ok (n := n) (sp := none) d7 a2.sow (F := A8 ++ (A1 ++ A3)) (h := h8) (o8.to fun x => by simp only [cnt_append]; omega) hD1 n2 (by simp) (by omega)
  rw [List.nil_append] at d13
  have t14 := (a8.rds (h := h13) (F := L13 ++ (A2 ++ (A1 ++ A3))) (o13.to fun x => by simp only [cnt_append]; omega)).str
  obtain ⟨A8', oh, back⟩ := hid_str a8 (h := h13) (F := L13 ++ (A1 ++ (A2 ++ A3))) (o13.to fun x => by simp only [cnt_append]; omega)
  obtain ⟨s15, h15, A15, e15, a15, o15⟩ := image_ok' (n := n) (sp := none) d13 (F := A8' ++ (A1 ++ (A2 ++ A3))) (h := hid h13 [] (strReads s8 ++ [])) (oh.to fun x => by simp only [cnt_append]; omega) (by omega) (by omega)
  rw [hD1] at a15
  have o16 := back h15 (A15 ++ (L13 ++ (A1 ++ (A2 ++ A3)))) (o15.to fun x => by simp only [cnt_append]; omega)
  generalize hh16 : h15.putBack h13 ([] ++ (strReads s8 ++ [])) = h16 at o16
  have t17 := (a15.rds (h := h16) (F := A8 ++ (L13 ++ (A1 ++ (A2 ++ A3)))) (o16.to fun x => by simp only [cnt_append]; omega)).str
  obtain ⟨q, h20, L20, e20, d20, o20⟩ := copy_ok' (n := n) d13 (F := A8 ++ (A1 ++ (A2 ++ A3))) (h := h16) (o16.to fun x => by simp only [cnt_append]; omega) (by omega) (by simp; omega)
  obtain ⟨h21, L21, e21, d21, o21⟩ := crash_ok (n := n) (sp := none) d13 a3.sow (F := L20 ++ (A8 ++ (A1 ++ A2))) (h := h20) (o20.to fun x => by simp only [cnt_append]; omega) (by simp; omega) (by omega) (by omega)
  rw [wsOf_len] at e21 d21
  have okd : Okd D1 (wsOf W) := by obtain ⟨_, _, _, _, _, _, h, _⟩ := d13; exact h
  generalize hD2 : ak (fun j => decide ((j : Int) ∈ K)) (wsOf W) W.length D1 = D2 at d21
  have hl2 : D2.length = 8 := by rw [← hD2, ak_len, hD1]
  obtain ⟨s22, h22, A22, e22, a22, o22⟩ := image_ok' (n := n) (sp := none) d21 (F := A3 ++ (L20 ++ (A8 ++ (A1 ++ A2)))) (h := h21) (o21.to fun x => by simp only [cnt_append]; omega) (by omega) (by omega)
  rw [hl2] at a22
  have ew2 := waiting_nil (n := n) (sp := none) d21 (F := A22 ++ (A3 ++ (L20 ++ (A8 ++ (A1 ++ A2))))) (h := h22) (o22.to fun x => by simp only [cnt_append]; omega) (by omega)
  obtain ⟨h73, e73, o73⟩ := sectors_ok (n := n) (hh2 := h2) (hh3 := h3) (hh4 := h4) (hh8 := h8) (hh22 := h22) (v4 := 0) (G := A2 ++ A3) hD1 okd hD2.symm (a2.sow.mono fun x hx => by simp [hx]) (a3.sow.mono fun x hx => by simp [hx]) a8 a22 d21 (F := L20 ++ A1) (h := h22) (o22.to fun x => by simp only [cnt_append]; omega) (by omega) (by omega) (by omega)
  obtain ⟨v83, h83, A83, e83, a83, o83⟩ := all_ok (n := n) (hh2 := h2) (N := W.length) a2.lenB o73 (by omega) (by omega)
  obtain ⟨r, h84, L84, e84, d84, o84⟩ := copy_ok' (n := n) d20 (F := A83) (h := h83) (o83.to fun x => by simp only [cnt_append]; omega) (by omega) (by simp; omega)
  obtain ⟨h85, L85, e85, d85, o85⟩ := crash_ok (n := n) (sp := none) (K := down W.length W.length) d20 (by rw [down_len]; exact a83.sow) (F := L84) (h := h84) (o84.to fun x => by simp only [cnt_append]; omega) (by simp; omega) (by rw [down_len]; omega) (by omega)
  obtain ⟨h86, L86, e86, d86, o86⟩ := flush_ok (n := n) (sp := none) d84 (F := L85 ++ A83) (h := h85) (o85.to fun x => by simp only [cnt_append]; omega) (by simp; omega) (by omega)
  rw [wsOf_len] at e85 d85 e86 d86
  rw [ak_congr (P := fun j => decide ((j : Int) ∈ down W.length W.length)) (Q := fun _ => true) fun j hj => by rw [decide_eq_true (down_mem hj)]] at d85
  have hl3 : (ak (fun _ => true) (wsOf W) W.length D1).length = 8 := by rw [ak_len, hD1]
  generalize ak (fun _ => true) (wsOf W) W.length D1 = D3 at d85 d86 hl3
  obtain ⟨s87, h87, A87, e87, a87, o87⟩ := image_ok' (n := n) (sp := none) d85 (F := L86 ++ A83) (h := h86) (o86.to fun x => by simp only [cnt_append]; omega) (by omega) (by omega)
  have t88 := (a87.rds o87).str
  obtain ⟨A87', oh2, back2⟩ := hid_str a87 (h := h87) (F := L86 ++ (L85 ++ A83)) (o87.to fun x => by simp only [cnt_append]; omega)
  obtain ⟨s89, h89, A89, e89, a89, o89⟩ := image_ok' (n := n) (sp := none) d86 (F := A87' ++ (L85 ++ A83)) (h := hid h87 [] (strReads s87 ++ [])) (oh2.to fun x => by simp only [cnt_append]; omega) (by omega) (by omega)
  have o90 := back2 h89 (A89 ++ (L86 ++ (L85 ++ A83))) (o89.to fun x => by simp only [cnt_append]; omega)
  generalize hh90 : h89.putBack h87 ([] ++ (strReads s87 ++ [])) = h90 at o90
  have t91 := (a89.rds (h := h90) (F := A87 ++ (L86 ++ (L85 ++ A83))) (o90.to fun x => by simp only [cnt_append]; omega)).str
  have sq : ∀ (hh : Heap) (x : ByteArray), binsT .bool hh .eql (.string x) (.string x) = some true := fun hh x => by simp [binsT, binsK, strOp, Ty.prj]
  refine ⟨h90, ?_⟩
  have l12 : lenB (.slice none 0 0) = some 0 := rfl
  simp only [f_wicketlaw04_SectorKeeps, aw, Option.bind_some, Bool.not_true, cond_false, e1, e2, e3, e4, Option.isNone_some, decide_true, e5, e7, e8, a1.lenB, a8.lenB, show (!decide (((8 * 64 : Nat) : Int) = 512)) = false from rfl, ew, l12, show (!decide (((0 : Nat) : Int) = 0)) = false from rfl, e13, t14, e15, bnd_eq, hh16, t17, str_eq rfl, e20, e21, e22, a2.lenB, a22.lenB, ew2, e73, thenB_inl, e83, e84, e85, e86, cond_true, e87, t88, e89, hh90, t91, sq]
end
end Go.Proofs.Ytempahfiiofjkaa
