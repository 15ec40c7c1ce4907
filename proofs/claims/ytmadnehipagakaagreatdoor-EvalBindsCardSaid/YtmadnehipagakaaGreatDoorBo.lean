/- built.one, name by name. -/
import Derived.Test.YtmadnehipagakaaGreatDoorBr
namespace Go.Proofs.YtmadnehipagakaaGreatDoor
open Go.RowKit Go.Lib Go.Sort KP
def typeS (k : Int) : ByteArray := if k = 1 then ⟨#[73, 78, 84, 69, 71, 69, 82]⟩ else if k = 2 then ⟨#[83, 89, 77, 66, 79, 76]⟩ else if k = 3 then ⟨#[83, 84, 82, 73, 78, 71]⟩ else ⟨#[]⟩
theorem ValsAt.one {W : World} {A : Option Addr} {a : Vl} {l : List Vl} (h : ValsAt W A (a :: l)) : ∃ ad, A = some ad ∧ ad.block < W.heap.size ∧ W.cell? ad = some (.int .i64 a.1) ∧ W.cell? ⟨ad.block, ad.off + 1, none⟩ = some (.int .i64 a.2.1) ∧ W.cell? ⟨ad.block, ad.off + 2, none⟩ = some (.string a.2.2) := by
  obtain ⟨ad, e, c0, c1, c2⟩ := h.at (k := 0) (by simp)
  have e0 : ad.add (0 * 3) = ad := by simp [Addr.add]
  rw [e0] at c0 c1 c2
  exact ⟨ad, e, World.block_lt_of_cell? _ _ c0, c0, c1, c2⟩
theorem ValsAt.two {W : World} {A : Option Addr} {a b : Vl} {l : List Vl} (h : ValsAt W A (a :: b :: l)) : ∃ ad, A = some ad ∧ ad.block < W.heap.size ∧ (W.cell? ad = some (.int .i64 a.1) ∧ W.cell? ⟨ad.block, ad.off + 1, none⟩ = some (.int .i64 a.2.1) ∧ W.cell? ⟨ad.block, ad.off + 2, none⟩ = some (.string a.2.2)) ∧
    (W.cell? ⟨ad.block, ad.off + 3, none⟩ = some (.int .i64 b.1) ∧ W.cell? ⟨ad.block, ad.off + 3 + 1, none⟩ = some (.int .i64 b.2.1) ∧ W.cell? ⟨ad.block, ad.off + 3 + 2, none⟩ = some (.string b.2.2)) := by
  obtain ⟨ad, e, hl, c0, c1, c2⟩ := h.one
  obtain ⟨ad', e', d0, d1, d2⟩ := h.at (k := 1) (by simp)
  rw [e] at e'
  injection e' with e'
  subst e'
  exact ⟨ad, e, hl, ⟨c0, c1, c2⟩, ⟨d0, d1, d2⟩⟩
set_option maxHeartbeats 2000000 in
theorem one_eq (A : Option Addr) (c : Nat) (a b : Vl) (w : World) (hv : ValsAt w A [a, b]) :
    Calls Tryz.prog 44 #[.string ⟨#[101, 113]⟩, .slice A 2 c] w fun e w' => e = .returned (.tuple #[Vl.val (vB (decide (a = b))), .int .i64 0]) ∧ Below w.heap.size w w' := by
  have h0 : Hid (Below w.heap.size w (w.alloc (.cells #[.int .i64 0, .int .i64 0, .string ⟨#[]⟩] 26))) := Lib.hid ((Below.refl _ _).alloc (Nat.le_refl _) _)
  obtain ⟨ad, rfl, hlt, ⟨c0, c1, c2⟩, ⟨d0, d1, d2⟩⟩ := hv.two
  clear hv
  obtain ⟨a1, a2, a3⟩ := a
  obtain ⟨b1, b2, b3⟩ := b
  dsimp only at c0 c1 c2 d0 d1 d2
  generalize hq : decide ((a1, a2, a3) = (b1, b2, b3)) = q at *
  have SC : Hid (∀ W, Below w.heap.size w W → Calls Tryz.prog 71 #[.agg #[.int .i64 a1, .int .i64 a2, .string a3], .agg #[.int .i64 b1, .int .i64 b2, .string b3]] W fun e w' => e = .returned (.bool q) ∧ Below W.heap.size W w') := Lib.hid (fun W _ => by rw [← hq]; exact same_c (a1, a2, a3) (b1, b2, b3) W)
  clear hq
  have HS : Hid (∀ w', Below w.heap.size w w' → (fun w' => Below w.heap.size w w' ∧ w'.cell? ad = some (.int .i64 a1) ∧ w'.cell? ⟨ad.block, ad.off + 1, none⟩ = some (.int .i64 a2) ∧ w'.cell? ⟨ad.block, ad.off + 2, none⟩ = some (.string a3) ∧ w'.cell? ⟨ad.block, ad.off + 3, none⟩ = some (.int .i64 b1) ∧ w'.cell? ⟨ad.block, ad.off + 3 + 1, none⟩ = some (.int .i64 b2) ∧ w'.cell? ⟨ad.block, ad.off + 3 + 2, none⟩ = some (.string b3)) w') := Lib.hid (fun w' h => ⟨h, (h.cell hlt).trans c0, (h.cell (p := ⟨ad.block, ad.off + 1, none⟩) hlt).trans c1, (h.cell (p := ⟨ad.block, ad.off + 2, none⟩) hlt).trans c2, (h.cell (p := ⟨ad.block, ad.off + 3, none⟩) hlt).trans d0, (h.cell (p := ⟨ad.block, ad.off + 3 + 1, none⟩) hlt).trans d1, (h.cell (p := ⟨ad.block, ad.off + 3 + 2, none⟩) hlt).trans d2⟩)
  clear hlt c0 c1 c2 d0 d1 d2
  go_enter Tryz.func44, Tryz.ntmps44
  go_wp2_with fail
  refine wp_region_held_drew (S := (fun w' => Below w.heap.size w w' ∧ w'.cell? ad = some (.int .i64 a1) ∧ w'.cell? ⟨ad.block, ad.off + 1, none⟩ = some (.int .i64 a2) ∧ w'.cell? ⟨ad.block, ad.off + 2, none⟩ = some (.string a3) ∧ w'.cell? ⟨ad.block, ad.off + 3, none⟩ = some (.int .i64 b1) ∧ w'.cell? ⟨ad.block, ad.off + 3 + 1, none⟩ = some (.int .i64 b2) ∧ w'.cell? ⟨ad.block, ad.off + 3 + 2, none⟩ = some (.string b3))) (by kernel_rfl) (HS.out _ h0.out.drew) (fun hHeld => ?_)
  refine wpAnyH_take (i := 0) (oi := ⟨_, _, _, _, _, _⟩) (v := ?_) rfl (by kernel_rfl) (by kernel_rfl) (by kernel_rfl) (fun _ _ _ h => h) (Or.inl ⟨by rfl, ?_⟩) (by assumption) ?_
  rotate_left
  · intro w' hSw; (try dsimp only at hSw); go_simp; (try with_reducible rfl)
  try simp only [Act.put, List.setIfInBounds_toArray, List.set_cons_zero, List.set_cons_succ]
  refine wpAnyH_take (i := 1) (oi := ⟨_, _, _, _, _, _⟩) (v := ?_) rfl (by kernel_rfl) (by kernel_rfl) (by kernel_rfl) (fun _ _ _ h => h) (Or.inl ⟨by rfl, ?_⟩) (by assumption) ?_
  rotate_left
  · intro w' hSw; (try dsimp only at hSw); go_simp; (try with_reducible rfl)
  try simp only [Act.put, List.setIfInBounds_toArray, List.set_cons_zero, List.set_cons_succ]
  refine wpAnyH_take (i := 2) (oi := ⟨_, _, _, _, _, _⟩) (v := ?_) rfl (by kernel_rfl) (by kernel_rfl) (by kernel_rfl) (fun _ _ _ h => h) (Or.inl ⟨by rfl, ?_⟩) (by assumption) ?_
  rotate_left
  · intro w' hSw; (try dsimp only at hSw); go_simp; (try with_reducible rfl)
  try simp only [Act.put, List.setIfInBounds_toArray, List.set_cons_zero, List.set_cons_succ]
  refine wpAnyH_take (i := 3) (oi := ⟨_, _, _, _, _, _⟩) (v := ?_) rfl (by kernel_rfl) (by kernel_rfl) (by kernel_rfl) (fun _ _ _ h => h) (Or.inl ⟨by rfl, ?_⟩) (by assumption) ?_
  rotate_left
  · intro w' hSw; (try dsimp only at hSw); go_simp; (try with_reducible rfl)
  try simp only [Act.put, List.setIfInBounds_toArray, List.set_cons_zero, List.set_cons_succ]
  refine wpAnyH_take (i := 4) (oi := ⟨_, _, _, _, _, _⟩) (v := ?_) rfl (by kernel_rfl) (by kernel_rfl) (by kernel_rfl) (fun _ _ _ h => h) (Or.inl ⟨by rfl, ?_⟩) (by assumption) ?_
  rotate_left
  · intro w' hSw; (try dsimp only at hSw); go_simp; (try with_reducible rfl)
  try simp only [Act.put, List.setIfInBounds_toArray, List.set_cons_zero, List.set_cons_succ]
  refine wpAnyH_take (i := 5) (oi := ⟨_, _, _, _, _, _⟩) (v := ?_) rfl (by kernel_rfl) (by kernel_rfl) (by kernel_rfl) (fun _ _ _ h => h) (Or.inl ⟨by rfl, ?_⟩) (by assumption) ?_
  rotate_left
  · intro w' hSw; (try dsimp only at hSw); go_simp; (try with_reducible rfl)
  try simp only [Act.put, List.setIfInBounds_toArray, List.set_cons_zero, List.set_cons_succ]
  refine wpAnyH_ready (rs := [6]) (by kernel_rfl) (by simp) ?_
  refine AllReadyH.cons (o := ⟨_, _, _, _, _, _⟩) rfl (fun K9 hK9 => ?_) AllReadyH.nil
  go_simp
  (with_reducible refine ((SC.out _ hHeld.1)).mono ?_)
  rintro e w1 ⟨rfl, bb1⟩
  have E1 := Lib.hid (hHeld.1.trans (bb1.mono hHeld.1.size))
  have BLK := Lib.hid ((bb1.block w.heap.size (by simp)).trans (heap_alloc_new w (.cells #[.int .i64 0, .int .i64 0, .string ⟨#[]⟩] 26)))
  clear bb1
  go_wp2_with fail
  refine hK9.out _ _ (HS.out _ E1.out) (fun hHeld => ?_)
  clear hK9 K9
  try simp only [Act.put, List.setIfInBounds_toArray, List.set_cons_zero, List.set_cons_succ]
  refine wpAnyH_ready (rs := [7]) (by kernel_rfl) (by simp) ?_
  refine AllReadyH.cons (o := ⟨_, _, _, _, _, _⟩) rfl (fun K9 hK9 => ?_) AllReadyH.nil
  go_simp
  (with_reducible refine ((ofBool_c q _)).mono ?_)
  rintro e w2 ⟨rfl, bb2⟩
  have E2 := Lib.hid (E1.out.trans (bb2.mono E1.out.size))
  obtain ⟨⟨_, _, _⟩, ⟨_, _, _⟩⟩ := new3g BLK.out bb2
  clear bb2
  go_wp2_with fail
  refine hK9.out _ _ (HS.out _ E2.out) (fun hHeld => ?_)
  clear hK9 K9
  try simp only [Act.put, List.setIfInBounds_toArray, List.set_cons_zero, List.set_cons_succ]
  refine wpAnyH_ready (rs := [8]) (by kernel_rfl) (by simp) ?_
  refine AllReadyH.cons (o := ⟨_, _, _, _, _, _⟩) rfl (fun K9 hK9 => ?_) AllReadyH.nil
  go_simp
  refine hK9.out _ _ (HS.out _ (put3 E2.out)) (fun hHeld => ?_)
  clear hK9 K9
  try simp only [Act.put, List.setIfInBounds_toArray, List.set_cons_zero, List.set_cons_succ]
  refine wpAnyH_take (i := 9) (oi := ⟨_, _, _, _, _, _⟩) (v := ?_) rfl (by kernel_rfl) (by kernel_rfl) (by kernel_rfl) (fun _ _ _ h => h) (Or.inl ⟨by rfl, ?_⟩) (by assumption) ?_
  rotate_left
  · intro w' hSw; (try dsimp only at hSw); go_simp; (try with_reducible rfl)
  try simp only [Act.put, List.setIfInBounds_toArray, List.set_cons_zero, List.set_cons_succ]
  refine wpAnyH_done (by kernel_rfl) ?_ _
  go_wp2
  exact bodyPost_ret (v := .tuple #[Vl.val (vB q), .int .i64 0]) (by simp [results, Tryz.results44, go_sem, *]) rfl ⟨rfl, put3 E2.out⟩
set_option maxHeartbeats 2000000 in
theorem one_neq (A : Option Addr) (c : Nat) (a b : Vl) (w : World) (hv : ValsAt w A [a, b]) :
    Calls Tryz.prog 44 #[.string ⟨#[110, 101, 113]⟩, .slice A 2 c] w fun e w' => e = .returned (.tuple #[Vl.val (vB (!decide (a = b))), .int .i64 0]) ∧ Below w.heap.size w w' := by
  have h0 : Hid (Below w.heap.size w (w.alloc (.cells #[.int .i64 0, .int .i64 0, .string ⟨#[]⟩] 26))) := Lib.hid ((Below.refl _ _).alloc (Nat.le_refl _) _)
  obtain ⟨ad, rfl, hlt, ⟨c0, c1, c2⟩, ⟨d0, d1, d2⟩⟩ := hv.two
  clear hv
  obtain ⟨a1, a2, a3⟩ := a
  obtain ⟨b1, b2, b3⟩ := b
  dsimp only at c0 c1 c2 d0 d1 d2
  generalize hq : decide ((a1, a2, a3) = (b1, b2, b3)) = q at *
  have SC : Hid (∀ W, Below w.heap.size w W → Calls Tryz.prog 71 #[.agg #[.int .i64 a1, .int .i64 a2, .string a3], .agg #[.int .i64 b1, .int .i64 b2, .string b3]] W fun e w' => e = .returned (.bool q) ∧ Below W.heap.size W w') := Lib.hid (fun W _ => by rw [← hq]; exact same_c (a1, a2, a3) (b1, b2, b3) W)
  clear hq
  have HS : Hid (∀ w', Below w.heap.size w w' → (fun w' => Below w.heap.size w w' ∧ w'.cell? ad = some (.int .i64 a1) ∧ w'.cell? ⟨ad.block, ad.off + 1, none⟩ = some (.int .i64 a2) ∧ w'.cell? ⟨ad.block, ad.off + 2, none⟩ = some (.string a3) ∧ w'.cell? ⟨ad.block, ad.off + 3, none⟩ = some (.int .i64 b1) ∧ w'.cell? ⟨ad.block, ad.off + 3 + 1, none⟩ = some (.int .i64 b2) ∧ w'.cell? ⟨ad.block, ad.off + 3 + 2, none⟩ = some (.string b3)) w') := Lib.hid (fun w' h => ⟨h, (h.cell hlt).trans c0, (h.cell (p := ⟨ad.block, ad.off + 1, none⟩) hlt).trans c1, (h.cell (p := ⟨ad.block, ad.off + 2, none⟩) hlt).trans c2, (h.cell (p := ⟨ad.block, ad.off + 3, none⟩) hlt).trans d0, (h.cell (p := ⟨ad.block, ad.off + 3 + 1, none⟩) hlt).trans d1, (h.cell (p := ⟨ad.block, ad.off + 3 + 2, none⟩) hlt).trans d2⟩)
  clear hlt c0 c1 c2 d0 d1 d2
  go_enter Tryz.func44, Tryz.ntmps44
  go_wp2_with fail
  refine wp_region_held_drew (S := (fun w' => Below w.heap.size w w' ∧ w'.cell? ad = some (.int .i64 a1) ∧ w'.cell? ⟨ad.block, ad.off + 1, none⟩ = some (.int .i64 a2) ∧ w'.cell? ⟨ad.block, ad.off + 2, none⟩ = some (.string a3) ∧ w'.cell? ⟨ad.block, ad.off + 3, none⟩ = some (.int .i64 b1) ∧ w'.cell? ⟨ad.block, ad.off + 3 + 1, none⟩ = some (.int .i64 b2) ∧ w'.cell? ⟨ad.block, ad.off + 3 + 2, none⟩ = some (.string b3))) (by kernel_rfl) (HS.out _ h0.out.drew) (fun hHeld => ?_)
  refine wpAnyH_take (i := 0) (oi := ⟨_, _, _, _, _, _⟩) (v := ?_) rfl (by kernel_rfl) (by kernel_rfl) (by kernel_rfl) (fun _ _ _ h => h) (Or.inl ⟨by rfl, ?_⟩) (by assumption) ?_
  rotate_left
  · intro w' hSw; (try dsimp only at hSw); go_simp; (try with_reducible rfl)
  try simp only [Act.put, List.setIfInBounds_toArray, List.set_cons_zero, List.set_cons_succ]
  refine wpAnyH_take (i := 1) (oi := ⟨_, _, _, _, _, _⟩) (v := ?_) rfl (by kernel_rfl) (by kernel_rfl) (by kernel_rfl) (fun _ _ _ h => h) (Or.inl ⟨by rfl, ?_⟩) (by assumption) ?_
  rotate_left
  · intro w' hSw; (try dsimp only at hSw); go_simp; (try with_reducible rfl)
  try simp only [Act.put, List.setIfInBounds_toArray, List.set_cons_zero, List.set_cons_succ]
  refine wpAnyH_take (i := 2) (oi := ⟨_, _, _, _, _, _⟩) (v := ?_) rfl (by kernel_rfl) (by kernel_rfl) (by kernel_rfl) (fun _ _ _ h => h) (Or.inl ⟨by rfl, ?_⟩) (by assumption) ?_
  rotate_left
  · intro w' hSw; (try dsimp only at hSw); go_simp; (try with_reducible rfl)
  try simp only [Act.put, List.setIfInBounds_toArray, List.set_cons_zero, List.set_cons_succ]
  refine wpAnyH_take (i := 3) (oi := ⟨_, _, _, _, _, _⟩) (v := ?_) rfl (by kernel_rfl) (by kernel_rfl) (by kernel_rfl) (fun _ _ _ h => h) (Or.inl ⟨by rfl, ?_⟩) (by assumption) ?_
  rotate_left
  · intro w' hSw; (try dsimp only at hSw); go_simp; (try with_reducible rfl)
  try simp only [Act.put, List.setIfInBounds_toArray, List.set_cons_zero, List.set_cons_succ]
  refine wpAnyH_take (i := 4) (oi := ⟨_, _, _, _, _, _⟩) (v := ?_) rfl (by kernel_rfl) (by kernel_rfl) (by kernel_rfl) (fun _ _ _ h => h) (Or.inl ⟨by rfl, ?_⟩) (by assumption) ?_
  rotate_left
  · intro w' hSw; (try dsimp only at hSw); go_simp; (try with_reducible rfl)
  try simp only [Act.put, List.setIfInBounds_toArray, List.set_cons_zero, List.set_cons_succ]
  refine wpAnyH_take (i := 5) (oi := ⟨_, _, _, _, _, _⟩) (v := ?_) rfl (by kernel_rfl) (by kernel_rfl) (by kernel_rfl) (fun _ _ _ h => h) (Or.inl ⟨by rfl, ?_⟩) (by assumption) ?_
  rotate_left
  · intro w' hSw; (try dsimp only at hSw); go_simp; (try with_reducible rfl)
  try simp only [Act.put, List.setIfInBounds_toArray, List.set_cons_zero, List.set_cons_succ]
  refine wpAnyH_ready (rs := [6]) (by kernel_rfl) (by simp) ?_
  refine AllReadyH.cons (o := ⟨_, _, _, _, _, _⟩) rfl (fun K9 hK9 => ?_) AllReadyH.nil
  go_simp
  (with_reducible refine ((SC.out _ hHeld.1)).mono ?_)
  rintro e w1 ⟨rfl, bb1⟩
  have E1 := Lib.hid (hHeld.1.trans (bb1.mono hHeld.1.size))
  have BLK := Lib.hid ((bb1.block w.heap.size (by simp)).trans (heap_alloc_new w (.cells #[.int .i64 0, .int .i64 0, .string ⟨#[]⟩] 26)))
  clear bb1
  go_wp2_with fail
  refine hK9.out _ _ (HS.out _ E1.out) (fun hHeld => ?_)
  clear hK9 K9
  try simp only [Act.put, List.setIfInBounds_toArray, List.set_cons_zero, List.set_cons_succ]
  refine wpAnyH_take (i := 7) (oi := ⟨_, _, _, _, _, _⟩) (v := ?_) rfl (by kernel_rfl) (by kernel_rfl) (by kernel_rfl) (fun _ _ _ h => h) (Or.inl ⟨by rfl, ?_⟩) (by assumption) ?_
  rotate_left
  · intro w' hSw; (try dsimp only at hSw); go_simp; (try with_reducible rfl)
  try simp only [Act.put, List.setIfInBounds_toArray, List.set_cons_zero, List.set_cons_succ]
  refine wpAnyH_ready (rs := [8]) (by kernel_rfl) (by simp) ?_
  refine AllReadyH.cons (o := ⟨_, _, _, _, _, _⟩) rfl (fun K9 hK9 => ?_) AllReadyH.nil
  go_simp
  (with_reducible refine ((ofBool_c (!q) _)).mono ?_)
  rintro e w2 ⟨rfl, bb2⟩
  have E2 := Lib.hid (E1.out.trans (bb2.mono E1.out.size))
  obtain ⟨⟨_, _, _⟩, ⟨_, _, _⟩⟩ := new3g BLK.out bb2
  clear bb2
  go_wp2_with fail
  refine hK9.out _ _ (HS.out _ E2.out) (fun hHeld => ?_)
  clear hK9 K9
  try simp only [Act.put, List.setIfInBounds_toArray, List.set_cons_zero, List.set_cons_succ]
  refine wpAnyH_ready (rs := [9]) (by kernel_rfl) (by simp) ?_
  refine AllReadyH.cons (o := ⟨_, _, _, _, _, _⟩) rfl (fun K9 hK9 => ?_) AllReadyH.nil
  go_simp
  refine hK9.out _ _ (HS.out _ (put3 E2.out)) (fun hHeld => ?_)
  clear hK9 K9
  try simp only [Act.put, List.setIfInBounds_toArray, List.set_cons_zero, List.set_cons_succ]
  refine wpAnyH_take (i := 10) (oi := ⟨_, _, _, _, _, _⟩) (v := ?_) rfl (by kernel_rfl) (by kernel_rfl) (by kernel_rfl) (fun _ _ _ h => h) (Or.inl ⟨by rfl, ?_⟩) (by assumption) ?_
  rotate_left
  · intro w' hSw; (try dsimp only at hSw); go_simp; (try with_reducible rfl)
  try simp only [Act.put, List.setIfInBounds_toArray, List.set_cons_zero, List.set_cons_succ]
  refine wpAnyH_done (by kernel_rfl) ?_ _
  go_wp2
  exact bodyPost_ret (v := .tuple #[Vl.val (vB (!q)), .int .i64 0]) (by simp [results, Tryz.results44, go_sem, *]) rfl ⟨rfl, put3 E2.out⟩
set_option maxHeartbeats 2000000 in
theorem one_not (A : Option Addr) (c : Nat) (a : Vl) (w : World) (hv : ValsAt w A [a]) :
    Calls Tryz.prog 44 #[.string ⟨#[110, 111, 116]⟩, .slice A 1 c] w fun e w' => e = .returned (.tuple #[Vl.val (vB (!trueB a)), .int .i64 0]) ∧ Below w.heap.size w w' := by
  have h0 : Hid (Below w.heap.size w (w.alloc (.cells #[.int .i64 0, .int .i64 0, .string ⟨#[]⟩] 26))) := Lib.hid ((Below.refl _ _).alloc (Nat.le_refl _) _)
  obtain ⟨ad, rfl, hlt, c0, c1, c2⟩ := hv.one
  clear hv
  have d0 := (h0.out.cell hlt).trans c0
  have d1 := (h0.out.cell (p := ⟨ad.block, ad.off + 1, none⟩) hlt).trans c1
  have d2 := (h0.out.cell (p := ⟨ad.block, ad.off + 2, none⟩) hlt).trans c2
  clear hlt c0 c1 c2
  obtain ⟨a1, a2, a3⟩ := a
  dsimp only at d0 d1 d2
  have TC := Lib.hid (fun W => true_c (a1, a2, a3) W)
  generalize trueB (a1, a2, a3) = q at *
  go_enter Tryz.func44, Tryz.ntmps44
  go_wp2_with fail
  refine (TC.out _).mono ?_
  rintro e w1 ⟨rfl, b1⟩
  have E1 := Lib.hid (h0.out.trans (b1.mono h0.out.size))
  have BLK := Lib.hid ((b1.block w.heap.size (by simp)).trans (heap_alloc_new w (.cells #[.int .i64 0, .int .i64 0, .string ⟨#[]⟩] 26)))
  clear b1
  go_wp2_with fail
  refine (ofBool_c (!q) _).mono ?_
  rintro e w2 ⟨rfl, b2⟩
  have E2 := Lib.hid (E1.out.trans (b2.mono E1.out.size))
  obtain ⟨⟨_, _, _⟩, ⟨_, _, _⟩⟩ := new3g BLK.out b2
  clear b2
  go_wp2_with fail
  exact bodyPost_ret (v := .tuple #[Vl.val (vB (!q)), .int .i64 0]) (by simp [results, Tryz.results44, go_sem, *]) rfl ⟨rfl, put3 E2.out⟩
set_option maxHeartbeats 2000000 in
theorem one_len1 (A : Option Addr) (c : Nat) (a : Vl) (w : World) (hv : ValsAt w A [a]) (h3 : a.1 ≠ 3) :
    Calls Tryz.prog 44 #[.string ⟨#[108, 101, 110, 103, 116, 104]⟩, .slice A 1 c] w fun e w' => e = .returned (.tuple #[Vl.val v0, .int .i64 8]) ∧ Below w.heap.size w w' := by
  have h0 : Hid (Below w.heap.size w (w.alloc (.cells #[.int .i64 0, .int .i64 0, .string ⟨#[]⟩] 26))) := Lib.hid ((Below.refl _ _).alloc (Nat.le_refl _) _)
  obtain ⟨ad, rfl, hlt, c0, c1, c2⟩ := hv.one
  clear hv
  have d0 := (h0.out.cell hlt).trans c0
  have d1 := (h0.out.cell (p := ⟨ad.block, ad.off + 1, none⟩) hlt).trans c1
  have d2 := (h0.out.cell (p := ⟨ad.block, ad.off + 2, none⟩) hlt).trans c2
  clear hlt c0 c1 c2
  obtain ⟨a1, a2, a3⟩ := a
  dsimp only at d0 d1 d2 h3
  have e3 : (a1 != 3) = true := by simp [h3]
  clear h3
  go_enter Tryz.func44, Tryz.ntmps44
  go_wp2_with fail
  exact bodyPost_ret (v := .tuple #[Vl.val v0, .int .i64 8]) (by simp [results, Tryz.results44, go_sem, *]) rfl ⟨rfl, h0.out⟩
set_option maxHeartbeats 2000000 in
theorem one_len2 (A : Option Addr) (c : Nat) (a : Vl) (w : World) (hv : ValsAt w A [a]) (h3 : a.1 = 3) :
    Calls Tryz.prog 44 #[.string ⟨#[108, 101, 110, 103, 116, 104]⟩, .slice A 1 c] w fun e w' => e = .returned (.tuple #[Vl.val (vI a.2.2.size), .int .i64 0]) ∧ Below w.heap.size w w' := by
  have h0 : Hid (Below w.heap.size w (w.alloc (.cells #[.int .i64 0, .int .i64 0, .string ⟨#[]⟩] 26))) := Lib.hid ((Below.refl _ _).alloc (Nat.le_refl _) _)
  obtain ⟨ad, rfl, hlt, c0, c1, c2⟩ := hv.one
  clear hv
  have d0 := (h0.out.cell hlt).trans c0
  have d1 := (h0.out.cell (p := ⟨ad.block, ad.off + 1, none⟩) hlt).trans c1
  have d2 := (h0.out.cell (p := ⟨ad.block, ad.off + 2, none⟩) hlt).trans c2
  clear hlt c0 c1 c2
  obtain ⟨a1, a2, a3⟩ := a
  dsimp only at d0 d1 d2 h3
  subst h3
  go_enter Tryz.func44, Tryz.ntmps44
  go_wp2_with fail
  refine (ofInt_c (a3.size : Int) _).mono ?_
  rintro e w1 ⟨rfl, b1⟩
  obtain ⟨⟨_, _, _⟩, ⟨_, _, _⟩⟩ := new3g (heap_alloc_new w _) b1
  have E1 := Lib.hid (bel_new b1); clear b1
  go_wp2_with fail
  exact bodyPost_ret (v := .tuple #[Vl.val (vI a3.size), .int .i64 0]) (by simp [results, Tryz.results44, go_sem, *]) rfl ⟨rfl, put3 E1.out⟩
set_option maxHeartbeats 2000000 in
theorem one_type (A : Option Addr) (c : Nat) (a : Vl) (w : World) (hv : ValsAt w A [a]) :
    Calls Tryz.prog 44 #[.string ⟨#[116, 121, 112, 101]⟩, .slice A 1 c] w fun e w' => e = .returned (.tuple #[Vl.val (vS (typeS a.1)), .int .i64 0]) ∧ Below w.heap.size w w' := by
  have h0 : Hid (Below w.heap.size w (w.alloc (.cells #[.int .i64 0, .int .i64 0, .string ⟨#[]⟩] 26))) := Lib.hid ((Below.refl _ _).alloc (Nat.le_refl _) _)
  obtain ⟨ad, rfl, hlt, c0, c1, c2⟩ := hv.one
  clear hv
  have d0 := (h0.out.cell hlt).trans c0
  have d1 := (h0.out.cell (p := ⟨ad.block, ad.off + 1, none⟩) hlt).trans c1
  have d2 := (h0.out.cell (p := ⟨ad.block, ad.off + 2, none⟩) hlt).trans c2
  clear hlt c0 c1 c2
  obtain ⟨a1, a2, a3⟩ := a
  dsimp only at d0 d1 d2
  by_cases h1 : a1 = 1
  · subst h1
    have H : Hid (typeS 1 = ⟨#[73, 78, 84, 69, 71, 69, 82]⟩) := Lib.hid rfl
    go_enter Tryz.func44, Tryz.ntmps44
    go_wp2_with fail
    refine (ofSym_c ⟨#[73, 78, 84, 69, 71, 69, 82]⟩ _).mono ?_
    rintro e w1 ⟨rfl, b1⟩
    obtain ⟨⟨_, _, _⟩, ⟨_, _, _⟩⟩ := new3g (heap_alloc_new w _) b1
    have E1 := Lib.hid (bel_new b1); clear b1
    go_wp2_with fail
    exact bodyPost_ret (v := .tuple #[Vl.val (vS ⟨#[73, 78, 84, 69, 71, 69, 82]⟩), .int .i64 0]) (by simp [results, Tryz.results44, go_sem, *]) rfl ⟨by rw [H.out], put3 E1.out⟩
  by_cases h2 : a1 = 2
  · subst h2
    have H : Hid (typeS 2 = ⟨#[83, 89, 77, 66, 79, 76]⟩) := Lib.hid rfl
    go_enter Tryz.func44, Tryz.ntmps44
    go_wp2_with fail
    refine (ofSym_c ⟨#[83, 89, 77, 66, 79, 76]⟩ _).mono ?_
    rintro e w1 ⟨rfl, b1⟩
    obtain ⟨⟨_, _, _⟩, ⟨_, _, _⟩⟩ := new3g (heap_alloc_new w _) b1
    have E1 := Lib.hid (bel_new b1); clear b1
    go_wp2_with fail
    exact bodyPost_ret (v := .tuple #[Vl.val (vS ⟨#[83, 89, 77, 66, 79, 76]⟩), .int .i64 0]) (by simp [results, Tryz.results44, go_sem, *]) rfl ⟨by rw [H.out], put3 E1.out⟩
  by_cases h3 : a1 = 3
  · subst h3
    have H : Hid (typeS 3 = ⟨#[83, 84, 82, 73, 78, 71]⟩) := Lib.hid rfl
    go_enter Tryz.func44, Tryz.ntmps44
    go_wp2_with fail
    refine (ofSym_c ⟨#[83, 84, 82, 73, 78, 71]⟩ _).mono ?_
    rintro e w1 ⟨rfl, b1⟩
    obtain ⟨⟨_, _, _⟩, ⟨_, _, _⟩⟩ := new3g (heap_alloc_new w _) b1
    have E1 := Lib.hid (bel_new b1); clear b1
    go_wp2_with fail
    exact bodyPost_ret (v := .tuple #[Vl.val (vS ⟨#[83, 84, 82, 73, 78, 71]⟩), .int .i64 0]) (by simp [results, Tryz.results44, go_sem, *]) rfl ⟨by rw [H.out], put3 E1.out⟩
  have H : Hid (typeS a1 = ⟨#[]⟩) := Lib.hid (by simp [typeS, h1, h2, h3])
  have e1 : (a1 == 1) = false := by simp [h1]
  have e2 : (a1 == 2) = false := by simp [h2]
  have e3 : (a1 == 3) = false := by simp [h3]
  clear h1 h2 h3
  go_enter Tryz.func44, Tryz.ntmps44
  go_wp2_with fail
  refine (ofSym_c ⟨#[]⟩ _).mono ?_
  rintro e w1 ⟨rfl, b1⟩
  obtain ⟨⟨_, _, _⟩, ⟨_, _, _⟩⟩ := new3g (heap_alloc_new w _) b1
  have E1 := Lib.hid (bel_new b1); clear b1
  go_wp2_with fail
  exact bodyPost_ret (v := .tuple #[Vl.val (vS ⟨#[]⟩), .int .i64 0]) (by simp [results, Tryz.results44, go_sem, *]) rfl ⟨by rw [H.out], put3 E1.out⟩
end Go.Proofs.YtmadnehipagakaaGreatDoor
