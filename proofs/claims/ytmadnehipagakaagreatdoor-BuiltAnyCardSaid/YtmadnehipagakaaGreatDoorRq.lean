/- The reference's Apply: what is refused, comparisons of values. -/
import Derived.Test.YtmadnehipagakaaGreatDoorRg
import Derived.Test.YtmadnehipagakaaGreatDoorBu
namespace Go.Proofs.YtmadnehipagakaaGreatDoor
open Go.RowKit Go.Lib Go.Sort KP
theorem rapply_unknown (s : ByteArray) (hk : knownB s = false) (A : Option Addr) (n c : Nat) (w : World) :
    Calls Tryz.prog 14 #[.string s, .slice A n c] w fun e w' => e = .returned (pairV (v0, 5)) ∧ Below w.heap.size w w' := by
  have h0 : Hid (Below w.heap.size w (w.alloc (.cells #[.int .i64 0, .int .i64 0, .string ⟨#[]⟩] 26))) := Lib.hid ((Below.refl _ _).alloc (Nat.le_refl _) _)
  have KN := Lib.hid (fun W => hk ▸ rknown_c s W)
  clear hk
  go_enter Tryz.func14, Tryz.ntmps14
  go_wp2_with fail
  refine (KN.out _).mono ?_
  rintro e w1 ⟨rfl, b1⟩
  obtain ⟨⟨_, _, _⟩, ⟨_, _, _⟩⟩ := new3g (heap_alloc_new w _) b1
  have E1 := Lib.hid (bel_new b1); clear b1
  go_wp2_with fail
  exact bodyPost_ret (v := .tuple #[Vl.val v0, .int .i64 5]) (by simp [results, Tryz.results14, go_sem, *]) rfl ⟨rfl, put3 E1.out⟩
theorem rapply_nofit (s : ByteArray) (hk : knownB s = true) (A : Option Addr) (n c : Nat) (hf : fits (arity s) n = false) (w : World) :
    Calls Tryz.prog 14 #[.string s, .slice A n c] w fun e w' => e = .returned (pairV (v0, 1)) ∧ Below w.heap.size w w' := by
  have h0 : Hid (Below w.heap.size w (w.alloc (.cells #[.int .i64 0, .int .i64 0, .string ⟨#[]⟩] 26))) := Lib.hid ((Below.refl _ _).alloc (Nat.le_refl _) _)
  have KN := Lib.hid (fun W => hk ▸ rknown_c s W)
  have FT := Lib.hid (fun W => hf ▸ rfits_c s n W)
  clear hk hf
  go_enter Tryz.func14, Tryz.ntmps14
  go_wp2_with fail
  refine (KN.out _).mono ?_
  rintro e w1 ⟨rfl, b1⟩
  obtain ⟨⟨_, _, _⟩, ⟨_, _, _⟩⟩ := new3g (heap_alloc_new w _) b1
  have E1 := Lib.hid (bel_new b1); clear b1
  go_wp2_with fail
  refine (FT.out _).mono ?_
  rintro e w' ⟨rfl, rfl⟩
  go_wp2_with fail
  exact bodyPost_ret (v := .tuple #[Vl.val v0, .int .i64 1]) (by simp [results, Tryz.results14, go_sem, *]) rfl ⟨rfl, put3 E1.out⟩
set_option maxHeartbeats 2000000 in
theorem rapply_eqv (A : Option Addr) (c : Nat) (a b : Vl) (w : World) (hv : ValsAt w A [a, b]) :
    Calls Tryz.prog 14 #[.string ⟨#[101, 113]⟩, .slice A 2 c] w fun e w' => e = .returned (pairV (vB (decide (a = b)), 0)) ∧ Below w.heap.size w w' := by
  have h0 : Hid (Below w.heap.size w (w.alloc (.cells #[.int .i64 0, .int .i64 0, .string ⟨#[]⟩] 26))) := Lib.hid ((Below.refl _ _).alloc (Nat.le_refl _) _)
  have KN := Lib.hid (fun W => (show knownB ⟨#[101, 113]⟩ = true by decide +kernel) ▸ rknown_c ⟨#[101, 113]⟩ W)
  have FT := Lib.hid (fun W => (show fits (arity ⟨#[101, 113]⟩) 2 = true by decide +kernel) ▸ rfits_c ⟨#[101, 113]⟩ 2 W)
  obtain ⟨ad, rfl, hlt, ⟨c0, c1, c2⟩, ⟨d0, d1, d2⟩⟩ := hv.two
  clear hv
  obtain ⟨a1, a2, a3⟩ := a
  obtain ⟨b1, b2, b3⟩ := b
  dsimp only at c0 c1 c2 d0 d1 d2
  generalize hq : decide ((a1, a2, a3) = (b1, b2, b3)) = q at *
  have SC : Hid (∀ W, Below w.heap.size w W → Calls Tryz.prog 17 #[.agg #[.int .i64 a1, .int .i64 a2, .string a3], .agg #[.int .i64 b1, .int .i64 b2, .string b3]] W fun e w' => e = .returned (.bool q) ∧ Below W.heap.size W w') := Lib.hid (fun W _ => by rw [← hq]; exact rsame_c (a1, a2, a3) (b1, b2, b3) W)
  clear hq
  have HS : Hid (∀ w', Below w.heap.size w w' → (fun w' => Below w.heap.size w w' ∧ w'.cell? ad = some (.int .i64 a1) ∧ w'.cell? ⟨ad.block, ad.off + 1, none⟩ = some (.int .i64 a2) ∧ w'.cell? ⟨ad.block, ad.off + 2, none⟩ = some (.string a3) ∧ w'.cell? ⟨ad.block, ad.off + 3, none⟩ = some (.int .i64 b1) ∧ w'.cell? ⟨ad.block, ad.off + 3 + 1, none⟩ = some (.int .i64 b2) ∧ w'.cell? ⟨ad.block, ad.off + 3 + 2, none⟩ = some (.string b3)) w') := Lib.hid (fun w' h => ⟨h, (h.cell hlt).trans c0, (h.cell (p := ⟨ad.block, ad.off + 1, none⟩) hlt).trans c1, (h.cell (p := ⟨ad.block, ad.off + 2, none⟩) hlt).trans c2, (h.cell (p := ⟨ad.block, ad.off + 3, none⟩) hlt).trans d0, (h.cell (p := ⟨ad.block, ad.off + 3 + 1, none⟩) hlt).trans d1, (h.cell (p := ⟨ad.block, ad.off + 3 + 2, none⟩) hlt).trans d2⟩)
  clear hlt c0 c1 c2 d0 d1 d2
  go_enter Tryz.func14, Tryz.ntmps14
  go_wp2_with fail
  refine (KN.out _).mono ?_
  rintro e w1 ⟨rfl, b1⟩
  have BLK0 := Lib.hid ((b1.block w.heap.size (by simp)).trans (heap_alloc_new w (.cells #[.int .i64 0, .int .i64 0, .string ⟨#[]⟩] 26)))
  have HZB := Lib.hid (show w.heap.size < w1.heap.size by have := b1.size; simp at this; omega)
  have E1 := Lib.hid (h0.out.trans (b1.mono h0.out.size)); clear b1
  go_wp2_with fail
  refine (FT.out _).mono ?_
  rintro e w' ⟨rfl, rfl⟩
  go_wp2_with fail
  refine wp_region_held_drew (S := (fun w' => Below w.heap.size w w' ∧ w'.cell? ad = some (.int .i64 a1) ∧ w'.cell? ⟨ad.block, ad.off + 1, none⟩ = some (.int .i64 a2) ∧ w'.cell? ⟨ad.block, ad.off + 2, none⟩ = some (.string a3) ∧ w'.cell? ⟨ad.block, ad.off + 3, none⟩ = some (.int .i64 b1) ∧ w'.cell? ⟨ad.block, ad.off + 3 + 1, none⟩ = some (.int .i64 b2) ∧ w'.cell? ⟨ad.block, ad.off + 3 + 2, none⟩ = some (.string b3))) (by kernel_rfl) (HS.out _ (belN E1.out 1)) (fun hHeld => ?_)
  refine wpAnyH_take (i := 0) (oi := ⟨_, _, _, _, _, _⟩) (v := ?_) rfl (by kernel_rfl) (by kernel_rfl) (by kernel_rfl) (fun _ _ _ h => h) (Or.inl ⟨by rfl, ?_⟩) (by assumption) ?_
  rotate_left
  · intro w' hSw; (try dsimp only at hSw); go_simp; (try with_reducible rfl)
  try simp only [Act.put, List.setIfInBounds_toArray, List.set_cons_zero, List.set_cons_succ]
  refine wpAnyH_take (i := 1) (oi := ⟨_, _, _, _, _, _⟩) (v := ?_) rfl (by kernel_rfl) (by kernel_rfl) (by kernel_rfl) (fun _ _ _ h => h) (Or.inl ⟨by rfl, ?_⟩) (by assumption) ?_
  rotate_left
  · intro w' hSw; (try dsimp only at hSw); go_simp; (try with_reducible rfl)
  try simp only [Act.put, List.setIfInBounds_toArray, List.set_cons_zero, List.set_cons_succ]
  refine wpAnyH_take (i := 2) (oi := ⟨_, _, _, _, _, _⟩) (v := ?_) rfl (by kernel_rfl) (by kernel_rfl) (by kernel_rfl) (fun _ _ _ h => h) (Or.inl ⟨by rfl, ?_⟩) (by assumption) ?_
  rotate_left
  · intro w' hSw; (try dsimp only at hSw); go_simp; (try with_reducible rfl)
  try simp only [Act.put, List.setIfInBounds_toArray, List.set_cons_zero, List.set_cons_succ]
  refine wpAnyH_take (i := 3) (oi := ⟨_, _, _, _, _, _⟩) (v := ?_) rfl (by kernel_rfl) (by kernel_rfl) (by kernel_rfl) (fun _ _ _ h => h) (Or.inl ⟨by rfl, ?_⟩) (by assumption) ?_
  rotate_left
  · intro w' hSw; (try dsimp only at hSw); go_simp; (try with_reducible rfl)
  try simp only [Act.put, List.setIfInBounds_toArray, List.set_cons_zero, List.set_cons_succ]
  refine wpAnyH_take (i := 4) (oi := ⟨_, _, _, _, _, _⟩) (v := ?_) rfl (by kernel_rfl) (by kernel_rfl) (by kernel_rfl) (fun _ _ _ h => h) (Or.inl ⟨by rfl, ?_⟩) (by assumption) ?_
  rotate_left
  · intro w' hSw; (try dsimp only at hSw); go_simp; (try with_reducible rfl)
  try simp only [Act.put, List.setIfInBounds_toArray, List.set_cons_zero, List.set_cons_succ]
  refine wpAnyH_take (i := 5) (oi := ⟨_, _, _, _, _, _⟩) (v := ?_) rfl (by kernel_rfl) (by kernel_rfl) (by kernel_rfl) (fun _ _ _ h => h) (Or.inl ⟨by rfl, ?_⟩) (by assumption) ?_
  rotate_left
  · intro w' hSw; (try dsimp only at hSw); go_simp; (try with_reducible rfl)
  try simp only [Act.put, List.setIfInBounds_toArray, List.set_cons_zero, List.set_cons_succ]
  refine wpAnyH_ready (rs := [6]) (by kernel_rfl) (by simp) ?_
  refine AllReadyH.cons (o := ⟨_, _, _, _, _, _⟩) rfl (fun K9 hK9 => ?_) AllReadyH.nil
  go_simp
  (with_reducible refine ((SC.out _ hHeld.1)).mono ?_)
  rintro e w2 ⟨rfl, bb1⟩
  have E2 := Lib.hid (hHeld.1.trans (bb1.mono hHeld.1.size))
  have BLK := Lib.hid ((bb1.block w.heap.size HZB.out).trans BLK0.out)
  clear bb1
  go_wp2_with fail
  refine hK9.out _ _ (HS.out _ E2.out) (fun hHeld => ?_)
  clear hK9 K9
  try simp only [Act.put, List.setIfInBounds_toArray, List.set_cons_zero, List.set_cons_succ]
  refine wpAnyH_ready (rs := [7]) (by kernel_rfl) (by simp) ?_
  refine AllReadyH.cons (o := ⟨_, _, _, _, _, _⟩) rfl (fun K9 hK9 => ?_) AllReadyH.nil
  go_simp
  (with_reducible refine ((rBool_c q _)).mono ?_)
  rintro e w3 ⟨rfl, bb2⟩
  have E3 := Lib.hid (E2.out.trans (bb2.mono E2.out.size))
  obtain ⟨⟨_, _, _⟩, ⟨_, _, _⟩⟩ := new3g BLK.out bb2
  clear bb2
  go_wp2_with fail
  refine hK9.out _ _ (HS.out _ E3.out) (fun hHeld => ?_)
  clear hK9 K9
  try simp only [Act.put, List.setIfInBounds_toArray, List.set_cons_zero, List.set_cons_succ]
  refine wpAnyH_ready (rs := [8]) (by kernel_rfl) (by simp) ?_
  refine AllReadyH.cons (o := ⟨_, _, _, _, _, _⟩) rfl (fun K9 hK9 => ?_) AllReadyH.nil
  go_simp
  refine hK9.out _ _ (HS.out _ (put3 E3.out)) (fun hHeld => ?_)
  clear hK9 K9
  try simp only [Act.put, List.setIfInBounds_toArray, List.set_cons_zero, List.set_cons_succ]
  refine wpAnyH_take (i := 9) (oi := ⟨_, _, _, _, _, _⟩) (v := ?_) rfl (by kernel_rfl) (by kernel_rfl) (by kernel_rfl) (fun _ _ _ h => h) (Or.inl ⟨by rfl, ?_⟩) (by assumption) ?_
  rotate_left
  · intro w' hSw; (try dsimp only at hSw); go_simp; (try with_reducible rfl)
  try simp only [Act.put, List.setIfInBounds_toArray, List.set_cons_zero, List.set_cons_succ]
  refine wpAnyH_done (by kernel_rfl) ?_ _
  go_wp2_with fail
  exact bodyPost_ret (v := .tuple #[Vl.val (vB q), .int .i64 0]) (by simp [results, Tryz.results14, go_sem, *]) rfl ⟨rfl, put3 E3.out⟩
set_option maxHeartbeats 2000000 in
theorem rapply_neqv (A : Option Addr) (c : Nat) (a b : Vl) (w : World) (hv : ValsAt w A [a, b]) :
    Calls Tryz.prog 14 #[.string ⟨#[110, 101, 113]⟩, .slice A 2 c] w fun e w' => e = .returned (pairV (vB (!decide (a = b)), 0)) ∧ Below w.heap.size w w' := by
  have h0 : Hid (Below w.heap.size w (w.alloc (.cells #[.int .i64 0, .int .i64 0, .string ⟨#[]⟩] 26))) := Lib.hid ((Below.refl _ _).alloc (Nat.le_refl _) _)
  have KN := Lib.hid (fun W => (show knownB ⟨#[110, 101, 113]⟩ = true by decide +kernel) ▸ rknown_c ⟨#[110, 101, 113]⟩ W)
  have FT := Lib.hid (fun W => (show fits (arity ⟨#[110, 101, 113]⟩) 2 = true by decide +kernel) ▸ rfits_c ⟨#[110, 101, 113]⟩ 2 W)
  obtain ⟨ad, rfl, hlt, ⟨c0, c1, c2⟩, ⟨d0, d1, d2⟩⟩ := hv.two
  clear hv
  obtain ⟨a1, a2, a3⟩ := a
  obtain ⟨b1, b2, b3⟩ := b
  dsimp only at c0 c1 c2 d0 d1 d2
  generalize hq : decide ((a1, a2, a3) = (b1, b2, b3)) = q at *
  have SC : Hid (∀ W, Below w.heap.size w W → Calls Tryz.prog 17 #[.agg #[.int .i64 a1, .int .i64 a2, .string a3], .agg #[.int .i64 b1, .int .i64 b2, .string b3]] W fun e w' => e = .returned (.bool q) ∧ Below W.heap.size W w') := Lib.hid (fun W _ => by rw [← hq]; exact rsame_c (a1, a2, a3) (b1, b2, b3) W)
  clear hq
  have HS : Hid (∀ w', Below w.heap.size w w' → (fun w' => Below w.heap.size w w' ∧ w'.cell? ad = some (.int .i64 a1) ∧ w'.cell? ⟨ad.block, ad.off + 1, none⟩ = some (.int .i64 a2) ∧ w'.cell? ⟨ad.block, ad.off + 2, none⟩ = some (.string a3) ∧ w'.cell? ⟨ad.block, ad.off + 3, none⟩ = some (.int .i64 b1) ∧ w'.cell? ⟨ad.block, ad.off + 3 + 1, none⟩ = some (.int .i64 b2) ∧ w'.cell? ⟨ad.block, ad.off + 3 + 2, none⟩ = some (.string b3)) w') := Lib.hid (fun w' h => ⟨h, (h.cell hlt).trans c0, (h.cell (p := ⟨ad.block, ad.off + 1, none⟩) hlt).trans c1, (h.cell (p := ⟨ad.block, ad.off + 2, none⟩) hlt).trans c2, (h.cell (p := ⟨ad.block, ad.off + 3, none⟩) hlt).trans d0, (h.cell (p := ⟨ad.block, ad.off + 3 + 1, none⟩) hlt).trans d1, (h.cell (p := ⟨ad.block, ad.off + 3 + 2, none⟩) hlt).trans d2⟩)
  clear hlt c0 c1 c2 d0 d1 d2
  go_enter Tryz.func14, Tryz.ntmps14
  go_wp2_with fail
  refine (KN.out _).mono ?_
  rintro e w1 ⟨rfl, b1⟩
  have BLK0 := Lib.hid ((b1.block w.heap.size (by simp)).trans (heap_alloc_new w (.cells #[.int .i64 0, .int .i64 0, .string ⟨#[]⟩] 26)))
  have HZB := Lib.hid (show w.heap.size < w1.heap.size by have := b1.size; simp at this; omega)
  have E1 := Lib.hid (h0.out.trans (b1.mono h0.out.size)); clear b1
  go_wp2_with fail
  refine (FT.out _).mono ?_
  rintro e w' ⟨rfl, rfl⟩
  go_wp2_with fail
  refine wp_region_held_drew (S := (fun w' => Below w.heap.size w w' ∧ w'.cell? ad = some (.int .i64 a1) ∧ w'.cell? ⟨ad.block, ad.off + 1, none⟩ = some (.int .i64 a2) ∧ w'.cell? ⟨ad.block, ad.off + 2, none⟩ = some (.string a3) ∧ w'.cell? ⟨ad.block, ad.off + 3, none⟩ = some (.int .i64 b1) ∧ w'.cell? ⟨ad.block, ad.off + 3 + 1, none⟩ = some (.int .i64 b2) ∧ w'.cell? ⟨ad.block, ad.off + 3 + 2, none⟩ = some (.string b3))) (by kernel_rfl) (HS.out _ (belN E1.out 1)) (fun hHeld => ?_)
  refine wpAnyH_take (i := 0) (oi := ⟨_, _, _, _, _, _⟩) (v := ?_) rfl (by kernel_rfl) (by kernel_rfl) (by kernel_rfl) (fun _ _ _ h => h) (Or.inl ⟨by rfl, ?_⟩) (by assumption) ?_
  rotate_left
  · intro w' hSw; (try dsimp only at hSw); go_simp; (try with_reducible rfl)
  try simp only [Act.put, List.setIfInBounds_toArray, List.set_cons_zero, List.set_cons_succ]
  refine wpAnyH_take (i := 1) (oi := ⟨_, _, _, _, _, _⟩) (v := ?_) rfl (by kernel_rfl) (by kernel_rfl) (by kernel_rfl) (fun _ _ _ h => h) (Or.inl ⟨by rfl, ?_⟩) (by assumption) ?_
  rotate_left
  · intro w' hSw; (try dsimp only at hSw); go_simp; (try with_reducible rfl)
  try simp only [Act.put, List.setIfInBounds_toArray, List.set_cons_zero, List.set_cons_succ]
  refine wpAnyH_take (i := 2) (oi := ⟨_, _, _, _, _, _⟩) (v := ?_) rfl (by kernel_rfl) (by kernel_rfl) (by kernel_rfl) (fun _ _ _ h => h) (Or.inl ⟨by rfl, ?_⟩) (by assumption) ?_
  rotate_left
  · intro w' hSw; (try dsimp only at hSw); go_simp; (try with_reducible rfl)
  try simp only [Act.put, List.setIfInBounds_toArray, List.set_cons_zero, List.set_cons_succ]
  refine wpAnyH_take (i := 3) (oi := ⟨_, _, _, _, _, _⟩) (v := ?_) rfl (by kernel_rfl) (by kernel_rfl) (by kernel_rfl) (fun _ _ _ h => h) (Or.inl ⟨by rfl, ?_⟩) (by assumption) ?_
  rotate_left
  · intro w' hSw; (try dsimp only at hSw); go_simp; (try with_reducible rfl)
  try simp only [Act.put, List.setIfInBounds_toArray, List.set_cons_zero, List.set_cons_succ]
  refine wpAnyH_take (i := 4) (oi := ⟨_, _, _, _, _, _⟩) (v := ?_) rfl (by kernel_rfl) (by kernel_rfl) (by kernel_rfl) (fun _ _ _ h => h) (Or.inl ⟨by rfl, ?_⟩) (by assumption) ?_
  rotate_left
  · intro w' hSw; (try dsimp only at hSw); go_simp; (try with_reducible rfl)
  try simp only [Act.put, List.setIfInBounds_toArray, List.set_cons_zero, List.set_cons_succ]
  refine wpAnyH_take (i := 5) (oi := ⟨_, _, _, _, _, _⟩) (v := ?_) rfl (by kernel_rfl) (by kernel_rfl) (by kernel_rfl) (fun _ _ _ h => h) (Or.inl ⟨by rfl, ?_⟩) (by assumption) ?_
  rotate_left
  · intro w' hSw; (try dsimp only at hSw); go_simp; (try with_reducible rfl)
  try simp only [Act.put, List.setIfInBounds_toArray, List.set_cons_zero, List.set_cons_succ]
  refine wpAnyH_ready (rs := [6]) (by kernel_rfl) (by simp) ?_
  refine AllReadyH.cons (o := ⟨_, _, _, _, _, _⟩) rfl (fun K9 hK9 => ?_) AllReadyH.nil
  go_simp
  (with_reducible refine ((SC.out _ hHeld.1)).mono ?_)
  rintro e w2 ⟨rfl, bb1⟩
  have E2 := Lib.hid (hHeld.1.trans (bb1.mono hHeld.1.size))
  have BLK := Lib.hid ((bb1.block w.heap.size HZB.out).trans BLK0.out)
  clear bb1
  go_wp2_with fail
  refine hK9.out _ _ (HS.out _ E2.out) (fun hHeld => ?_)
  clear hK9 K9
  try simp only [Act.put, List.setIfInBounds_toArray, List.set_cons_zero, List.set_cons_succ]
  refine wpAnyH_take (i := 7) (oi := ⟨_, _, _, _, _, _⟩) (v := ?_) rfl (by kernel_rfl) (by kernel_rfl) (by kernel_rfl) (fun _ _ _ h => h) (Or.inl ⟨by rfl, ?_⟩) (by assumption) ?_
  rotate_left
  · intro w' hSw; (try dsimp only at hSw); go_simp; (try with_reducible rfl)
  try simp only [Act.put, List.setIfInBounds_toArray, List.set_cons_zero, List.set_cons_succ]
  refine wpAnyH_ready (rs := [8]) (by kernel_rfl) (by simp) ?_
  refine AllReadyH.cons (o := ⟨_, _, _, _, _, _⟩) rfl (fun K9 hK9 => ?_) AllReadyH.nil
  go_simp
  (with_reducible refine ((rBool_c (!q) _)).mono ?_)
  rintro e w3 ⟨rfl, bb2⟩
  have E3 := Lib.hid (E2.out.trans (bb2.mono E2.out.size))
  obtain ⟨⟨_, _, _⟩, ⟨_, _, _⟩⟩ := new3g BLK.out bb2
  clear bb2
  go_wp2_with fail
  refine hK9.out _ _ (HS.out _ E3.out) (fun hHeld => ?_)
  clear hK9 K9
  try simp only [Act.put, List.setIfInBounds_toArray, List.set_cons_zero, List.set_cons_succ]
  refine wpAnyH_ready (rs := [9]) (by kernel_rfl) (by simp) ?_
  refine AllReadyH.cons (o := ⟨_, _, _, _, _, _⟩) rfl (fun K9 hK9 => ?_) AllReadyH.nil
  go_simp
  refine hK9.out _ _ (HS.out _ (put3 E3.out)) (fun hHeld => ?_)
  clear hK9 K9
  try simp only [Act.put, List.setIfInBounds_toArray, List.set_cons_zero, List.set_cons_succ]
  refine wpAnyH_take (i := 10) (oi := ⟨_, _, _, _, _, _⟩) (v := ?_) rfl (by kernel_rfl) (by kernel_rfl) (by kernel_rfl) (fun _ _ _ h => h) (Or.inl ⟨by rfl, ?_⟩) (by assumption) ?_
  rotate_left
  · intro w' hSw; (try dsimp only at hSw); go_simp; (try with_reducible rfl)
  try simp only [Act.put, List.setIfInBounds_toArray, List.set_cons_zero, List.set_cons_succ]
  refine wpAnyH_done (by kernel_rfl) ?_ _
  go_wp2_with fail
  exact bodyPost_ret (v := .tuple #[Vl.val (vB (!q)), .int .i64 0]) (by simp [results, Tryz.results14, go_sem, *]) rfl ⟨rfl, put3 E3.out⟩
end Go.Proofs.YtmadnehipagakaaGreatDoor
