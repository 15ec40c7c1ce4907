/- The reference's Apply: of one value. -/
import Derived.Test.YtmadnehipagakaaGreatDoorRt
namespace Go.Proofs.YtmadnehipagakaaGreatDoor
open Go.RowKit Go.Lib Go.Sort KP
set_option maxHeartbeats 2000000 in
theorem rapply_not (A : Option Addr) (c : Nat) (a : Vl) (w : World) (hv : ValsAt w A [a]) :
    Calls Tryz.prog 14 #[.string ⟨#[110, 111, 116]⟩, .slice A 1 c] w fun e w' => e = .returned (pairV (vB (!trueB a), 0)) ∧ Below w.heap.size w w' := by
  have h0 : Hid (Below w.heap.size w (w.alloc (.cells #[.int .i64 0, .int .i64 0, .string ⟨#[]⟩] 26))) := Lib.hid ((Below.refl _ _).alloc (Nat.le_refl _) _)
  have KN := Lib.hid (fun W => (show knownB ⟨#[110, 111, 116]⟩ = true by decide +kernel) ▸ rknown_c ⟨#[110, 111, 116]⟩ W)
  have FT := Lib.hid (fun W => (show fits (arity ⟨#[110, 111, 116]⟩) 1 = true by decide +kernel) ▸ rfits_c ⟨#[110, 111, 116]⟩ 1 W)
  obtain ⟨ad, rfl, hlt, c0, c1, c2⟩ := hv.one
  clear hv
  have TC := Lib.hid (fun W => rtrue_c a W)
  generalize trueB a = q at *
  obtain ⟨a1, a2, a3⟩ := a
  dsimp only at *
  have HS : Hid (∀ w', Below w.heap.size w w' → (w'.cell? ad = some (.int .i64 a1) ∧ w'.cell? ⟨ad.block, ad.off + 1, none⟩ = some (.int .i64 a2) ∧ w'.cell? ⟨ad.block, ad.off + 2, none⟩ = some (.string a3))) := Lib.hid (fun w' h => ⟨(h.cell hlt).trans c0, (h.cell (p := ⟨ad.block, ad.off + 1, none⟩) hlt).trans c1, (h.cell (p := ⟨ad.block, ad.off + 2, none⟩) hlt).trans c2⟩)
  clear hlt c0 c1 c2
  go_enter Tryz.func14, Tryz.ntmps14
  go_wp2_with fail
  refine (KN.out _).mono ?_
  rintro e w1 ⟨rfl, b1⟩
  have E1 := Lib.hid b1; clear b1
  have EW := Lib.hid (h0.out.trans (E1.out.mono h0.out.size))
  go_wp2_with fail
  refine (FT.out _).mono ?_
  rintro e w' ⟨rfl, rfl⟩
  obtain ⟨c0, c1, c2⟩ := HS.out _ EW.out
  go_wp2_with fail
  refine (TC.out _).mono ?_
  rintro e w3 ⟨rfl, b3⟩
  have E3 := Lib.hid (E1.out.trans (b3.mono E1.out.size)); clear b3
  go_wp2_with fail
  refine (rBool_c (!q) _).mono ?_
  rintro e w4 ⟨rfl, b4⟩
  have E4 := Lib.hid (E3.out.trans (b4.mono E3.out.size)); clear b4
  obtain ⟨⟨_, _, _⟩, ⟨_, _, _⟩⟩ := new3g (heap_alloc_new w _) E4.out
  have E9 := Lib.hid (bel_new E4.out)
  go_wp2_with fail
  exact bodyPost_ret (v := .tuple #[Vl.val (vB (!q)), .int .i64 0]) (by simp [results, Tryz.results14, go_sem, *]) rfl ⟨rfl, put3 E9.out⟩
set_option maxHeartbeats 2000000 in
theorem rapply_len_no (A : Option Addr) (c : Nat) (a : Vl) (w : World) (hv : ValsAt w A [a]) (h3 : a.1 ≠ 3) :
    Calls Tryz.prog 14 #[.string ⟨#[108, 101, 110, 103, 116, 104]⟩, .slice A 1 c] w fun e w' => e = .returned (pairV (v0, 8)) ∧ Below w.heap.size w w' := by
  have h0 : Hid (Below w.heap.size w (w.alloc (.cells #[.int .i64 0, .int .i64 0, .string ⟨#[]⟩] 26))) := Lib.hid ((Below.refl _ _).alloc (Nat.le_refl _) _)
  have KN := Lib.hid (fun W => (show knownB ⟨#[108, 101, 110, 103, 116, 104]⟩ = true by decide +kernel) ▸ rknown_c ⟨#[108, 101, 110, 103, 116, 104]⟩ W)
  have FT := Lib.hid (fun W => (show fits (arity ⟨#[108, 101, 110, 103, 116, 104]⟩) 1 = true by decide +kernel) ▸ rfits_c ⟨#[108, 101, 110, 103, 116, 104]⟩ 1 W)
  obtain ⟨ad, rfl, hlt, c0, c1, c2⟩ := hv.one
  clear hv
  obtain ⟨a1, a2, a3⟩ := a
  dsimp only at *
  have HS : Hid (∀ w', Below w.heap.size w w' → (w'.cell? ad = some (.int .i64 a1) ∧ w'.cell? ⟨ad.block, ad.off + 1, none⟩ = some (.int .i64 a2) ∧ w'.cell? ⟨ad.block, ad.off + 2, none⟩ = some (.string a3))) := Lib.hid (fun w' h => ⟨(h.cell hlt).trans c0, (h.cell (p := ⟨ad.block, ad.off + 1, none⟩) hlt).trans c1, (h.cell (p := ⟨ad.block, ad.off + 2, none⟩) hlt).trans c2⟩)
  clear hlt c0 c1 c2
  go_enter Tryz.func14, Tryz.ntmps14
  go_wp2_with fail
  refine (KN.out _).mono ?_
  rintro e w1 ⟨rfl, b1⟩
  have E1 := Lib.hid b1; clear b1
  have EW := Lib.hid (h0.out.trans (E1.out.mono h0.out.size))
  go_wp2_with fail
  refine (FT.out _).mono ?_
  rintro e w' ⟨rfl, rfl⟩
  obtain ⟨c0, c1, c2⟩ := HS.out _ EW.out
  have e3 : (a1 != 3) = true := by simp [h3]
  clear h3
  obtain ⟨⟨_, _, _⟩, ⟨_, _, _⟩⟩ := new3g (heap_alloc_new w _) E1.out
  have E9 := Lib.hid (bel_new E1.out)
  go_wp2_with fail
  exact bodyPost_ret (v := .tuple #[Vl.val v0, .int .i64 8]) (by simp [results, Tryz.results14, go_sem, *]) rfl ⟨rfl, put3 E9.out⟩
set_option maxHeartbeats 2000000 in
theorem rapply_len (A : Option Addr) (c : Nat) (a : Vl) (w : World) (hv : ValsAt w A [a]) (h3 : a.1 = 3) :
    Calls Tryz.prog 14 #[.string ⟨#[108, 101, 110, 103, 116, 104]⟩, .slice A 1 c] w fun e w' => e = .returned (pairV (vI a.2.2.size, 0)) ∧ Below w.heap.size w w' := by
  have h0 : Hid (Below w.heap.size w (w.alloc (.cells #[.int .i64 0, .int .i64 0, .string ⟨#[]⟩] 26))) := Lib.hid ((Below.refl _ _).alloc (Nat.le_refl _) _)
  have KN := Lib.hid (fun W => (show knownB ⟨#[108, 101, 110, 103, 116, 104]⟩ = true by decide +kernel) ▸ rknown_c ⟨#[108, 101, 110, 103, 116, 104]⟩ W)
  have FT := Lib.hid (fun W => (show fits (arity ⟨#[108, 101, 110, 103, 116, 104]⟩) 1 = true by decide +kernel) ▸ rfits_c ⟨#[108, 101, 110, 103, 116, 104]⟩ 1 W)
  obtain ⟨ad, rfl, hlt, c0, c1, c2⟩ := hv.one
  clear hv
  obtain ⟨a1, a2, a3⟩ := a
  dsimp only at *
  have HS : Hid (∀ w', Below w.heap.size w w' → (w'.cell? ad = some (.int .i64 a1) ∧ w'.cell? ⟨ad.block, ad.off + 1, none⟩ = some (.int .i64 a2) ∧ w'.cell? ⟨ad.block, ad.off + 2, none⟩ = some (.string a3))) := Lib.hid (fun w' h => ⟨(h.cell hlt).trans c0, (h.cell (p := ⟨ad.block, ad.off + 1, none⟩) hlt).trans c1, (h.cell (p := ⟨ad.block, ad.off + 2, none⟩) hlt).trans c2⟩)
  clear hlt c0 c1 c2
  go_enter Tryz.func14, Tryz.ntmps14
  go_wp2_with fail
  refine (KN.out _).mono ?_
  rintro e w1 ⟨rfl, b1⟩
  have E1 := Lib.hid b1; clear b1
  have EW := Lib.hid (h0.out.trans (E1.out.mono h0.out.size))
  go_wp2_with fail
  refine (FT.out _).mono ?_
  rintro e w' ⟨rfl, rfl⟩
  obtain ⟨c0, c1, c2⟩ := HS.out _ EW.out
  subst h3
  go_wp2_with fail
  refine (rInt_c (a3.size : Int) _).mono ?_
  rintro e w3 ⟨rfl, b3⟩
  have E3 := Lib.hid (E1.out.trans (b3.mono E1.out.size)); clear b3
  obtain ⟨⟨_, _, _⟩, ⟨_, _, _⟩⟩ := new3g (heap_alloc_new w _) E3.out
  have E9 := Lib.hid (bel_new E3.out)
  go_wp2_with fail
  exact bodyPost_ret (v := .tuple #[Vl.val (vI a3.size), .int .i64 0]) (by simp [results, Tryz.results14, go_sem, *]) rfl ⟨rfl, put3 E9.out⟩
set_option maxHeartbeats 2000000 in
theorem rapply_type1 (A : Option Addr) (c : Nat) (a : Vl) (w : World) (hv : ValsAt w A [a]) (h3 : a.1 = 1) :
    Calls Tryz.prog 14 #[.string ⟨#[116, 121, 112, 101]⟩, .slice A 1 c] w fun e w' => e = .returned (pairV (vS (typeS a.1), 0)) ∧ Below w.heap.size w w' := by
  have h0 : Hid (Below w.heap.size w (w.alloc (.cells #[.int .i64 0, .int .i64 0, .string ⟨#[]⟩] 26))) := Lib.hid ((Below.refl _ _).alloc (Nat.le_refl _) _)
  have KN := Lib.hid (fun W => (show knownB ⟨#[116, 121, 112, 101]⟩ = true by decide +kernel) ▸ rknown_c ⟨#[116, 121, 112, 101]⟩ W)
  have FT := Lib.hid (fun W => (show fits (arity ⟨#[116, 121, 112, 101]⟩) 1 = true by decide +kernel) ▸ rfits_c ⟨#[116, 121, 112, 101]⟩ 1 W)
  obtain ⟨ad, rfl, hlt, c0, c1, c2⟩ := hv.one
  clear hv
  obtain ⟨a1, a2, a3⟩ := a
  dsimp only at *
  have HS : Hid (∀ w', Below w.heap.size w w' → (w'.cell? ad = some (.int .i64 a1) ∧ w'.cell? ⟨ad.block, ad.off + 1, none⟩ = some (.int .i64 a2) ∧ w'.cell? ⟨ad.block, ad.off + 2, none⟩ = some (.string a3))) := Lib.hid (fun w' h => ⟨(h.cell hlt).trans c0, (h.cell (p := ⟨ad.block, ad.off + 1, none⟩) hlt).trans c1, (h.cell (p := ⟨ad.block, ad.off + 2, none⟩) hlt).trans c2⟩)
  clear hlt c0 c1 c2
  go_enter Tryz.func14, Tryz.ntmps14
  go_wp2_with fail
  refine (KN.out _).mono ?_
  rintro e w1 ⟨rfl, b1⟩
  have E1 := Lib.hid b1; clear b1
  have EW := Lib.hid (h0.out.trans (E1.out.mono h0.out.size))
  go_wp2_with fail
  refine (FT.out _).mono ?_
  rintro e w' ⟨rfl, rfl⟩
  obtain ⟨c0, c1, c2⟩ := HS.out _ EW.out
  subst h3
  go_wp2_with fail
  refine (rSym_c ⟨#[73, 78, 84, 69, 71, 69, 82]⟩ _).mono ?_
  rintro e w3 ⟨rfl, b3⟩
  have E3 := Lib.hid (E1.out.trans (b3.mono E1.out.size)); clear b3
  obtain ⟨⟨_, _, _⟩, ⟨_, _, _⟩⟩ := new3g (heap_alloc_new w _) E3.out
  have E9 := Lib.hid (bel_new E3.out)
  go_wp2_with fail
  exact bodyPost_ret (v := .tuple #[Vl.val (vS ⟨#[73, 78, 84, 69, 71, 69, 82]⟩), .int .i64 0]) (by simp [results, Tryz.results14, go_sem, *]) rfl ⟨rfl, put3 E9.out⟩
set_option maxHeartbeats 2000000 in
theorem rapply_type2 (A : Option Addr) (c : Nat) (a : Vl) (w : World) (hv : ValsAt w A [a]) (h3 : a.1 = 2) :
    Calls Tryz.prog 14 #[.string ⟨#[116, 121, 112, 101]⟩, .slice A 1 c] w fun e w' => e = .returned (pairV (vS (typeS a.1), 0)) ∧ Below w.heap.size w w' := by
  have h0 : Hid (Below w.heap.size w (w.alloc (.cells #[.int .i64 0, .int .i64 0, .string ⟨#[]⟩] 26))) := Lib.hid ((Below.refl _ _).alloc (Nat.le_refl _) _)
  have KN := Lib.hid (fun W => (show knownB ⟨#[116, 121, 112, 101]⟩ = true by decide +kernel) ▸ rknown_c ⟨#[116, 121, 112, 101]⟩ W)
  have FT := Lib.hid (fun W => (show fits (arity ⟨#[116, 121, 112, 101]⟩) 1 = true by decide +kernel) ▸ rfits_c ⟨#[116, 121, 112, 101]⟩ 1 W)
  obtain ⟨ad, rfl, hlt, c0, c1, c2⟩ := hv.one
  clear hv
  obtain ⟨a1, a2, a3⟩ := a
  dsimp only at *
  have HS : Hid (∀ w', Below w.heap.size w w' → (w'.cell? ad = some (.int .i64 a1) ∧ w'.cell? ⟨ad.block, ad.off + 1, none⟩ = some (.int .i64 a2) ∧ w'.cell? ⟨ad.block, ad.off + 2, none⟩ = some (.string a3))) := Lib.hid (fun w' h => ⟨(h.cell hlt).trans c0, (h.cell (p := ⟨ad.block, ad.off + 1, none⟩) hlt).trans c1, (h.cell (p := ⟨ad.block, ad.off + 2, none⟩) hlt).trans c2⟩)
  clear hlt c0 c1 c2
  go_enter Tryz.func14, Tryz.ntmps14
  go_wp2_with fail
  refine (KN.out _).mono ?_
  rintro e w1 ⟨rfl, b1⟩
  have E1 := Lib.hid b1; clear b1
  have EW := Lib.hid (h0.out.trans (E1.out.mono h0.out.size))
  go_wp2_with fail
  refine (FT.out _).mono ?_
  rintro e w' ⟨rfl, rfl⟩
  obtain ⟨c0, c1, c2⟩ := HS.out _ EW.out
  subst h3
  go_wp2_with fail
  refine (rSym_c ⟨#[83, 89, 77, 66, 79, 76]⟩ _).mono ?_
  rintro e w3 ⟨rfl, b3⟩
  have E3 := Lib.hid (E1.out.trans (b3.mono E1.out.size)); clear b3
  obtain ⟨⟨_, _, _⟩, ⟨_, _, _⟩⟩ := new3g (heap_alloc_new w _) E3.out
  have E9 := Lib.hid (bel_new E3.out)
  go_wp2_with fail
  exact bodyPost_ret (v := .tuple #[Vl.val (vS ⟨#[83, 89, 77, 66, 79, 76]⟩), .int .i64 0]) (by simp [results, Tryz.results14, go_sem, *]) rfl ⟨rfl, put3 E9.out⟩
set_option maxHeartbeats 2000000 in
theorem rapply_type3 (A : Option Addr) (c : Nat) (a : Vl) (w : World) (hv : ValsAt w A [a]) (h3 : a.1 = 3) :
    Calls Tryz.prog 14 #[.string ⟨#[116, 121, 112, 101]⟩, .slice A 1 c] w fun e w' => e = .returned (pairV (vS (typeS a.1), 0)) ∧ Below w.heap.size w w' := by
  have h0 : Hid (Below w.heap.size w (w.alloc (.cells #[.int .i64 0, .int .i64 0, .string ⟨#[]⟩] 26))) := Lib.hid ((Below.refl _ _).alloc (Nat.le_refl _) _)
  have KN := Lib.hid (fun W => (show knownB ⟨#[116, 121, 112, 101]⟩ = true by decide +kernel) ▸ rknown_c ⟨#[116, 121, 112, 101]⟩ W)
  have FT := Lib.hid (fun W => (show fits (arity ⟨#[116, 121, 112, 101]⟩) 1 = true by decide +kernel) ▸ rfits_c ⟨#[116, 121, 112, 101]⟩ 1 W)
  obtain ⟨ad, rfl, hlt, c0, c1, c2⟩ := hv.one
  clear hv
  obtain ⟨a1, a2, a3⟩ := a
  dsimp only at *
  have HS : Hid (∀ w', Below w.heap.size w w' → (w'.cell? ad = some (.int .i64 a1) ∧ w'.cell? ⟨ad.block, ad.off + 1, none⟩ = some (.int .i64 a2) ∧ w'.cell? ⟨ad.block, ad.off + 2, none⟩ = some (.string a3))) := Lib.hid (fun w' h => ⟨(h.cell hlt).trans c0, (h.cell (p := ⟨ad.block, ad.off + 1, none⟩) hlt).trans c1, (h.cell (p := ⟨ad.block, ad.off + 2, none⟩) hlt).trans c2⟩)
  clear hlt c0 c1 c2
  go_enter Tryz.func14, Tryz.ntmps14
  go_wp2_with fail
  refine (KN.out _).mono ?_
  rintro e w1 ⟨rfl, b1⟩
  have E1 := Lib.hid b1; clear b1
  have EW := Lib.hid (h0.out.trans (E1.out.mono h0.out.size))
  go_wp2_with fail
  refine (FT.out _).mono ?_
  rintro e w' ⟨rfl, rfl⟩
  obtain ⟨c0, c1, c2⟩ := HS.out _ EW.out
  subst h3
  go_wp2_with fail
  refine (rSym_c ⟨#[83, 84, 82, 73, 78, 71]⟩ _).mono ?_
  rintro e w3 ⟨rfl, b3⟩
  have E3 := Lib.hid (E1.out.trans (b3.mono E1.out.size)); clear b3
  obtain ⟨⟨_, _, _⟩, ⟨_, _, _⟩⟩ := new3g (heap_alloc_new w _) E3.out
  have E9 := Lib.hid (bel_new E3.out)
  go_wp2_with fail
  exact bodyPost_ret (v := .tuple #[Vl.val (vS ⟨#[83, 84, 82, 73, 78, 71]⟩), .int .i64 0]) (by simp [results, Tryz.results14, go_sem, *]) rfl ⟨rfl, put3 E9.out⟩
end Go.Proofs.YtmadnehipagakaaGreatDoor
