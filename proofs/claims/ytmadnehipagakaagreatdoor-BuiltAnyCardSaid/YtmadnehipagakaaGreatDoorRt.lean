/- The reference's True. -/
import Derived.Test.YtmadnehipagakaaGreatDoorRq
namespace Go.Proofs.YtmadnehipagakaaGreatDoor
open Go.RowKit Go.Lib Go.Sort KP
set_option maxHeartbeats 1000000 in
theorem rtrue_c (a : Vl) (w : World) : Calls Tryz.prog 54 #[a.val] w fun e w' => e = .returned (.bool (trueB a)) ∧ Below w.heap.size w w' := by
  have HT : Hid (trueB a = !decide (a = vS ⟨#[70, 65, 76, 83, 69]⟩)) := Lib.hid rfl
  have SM := Lib.hid (fun W => rsame_c a (vS ⟨#[70, 65, 76, 83, 69]⟩) W)
  rw [HT.out]
  generalize decide (a = vS ⟨#[70, 65, 76, 83, 69]⟩) = q at *
  obtain ⟨a1, a2, a3⟩ := a
  go_enter Tryz.func54, Tryz.ntmps54
  go_wp2_with fail
  have hB := one_box w (a1, a2, a3) 26
  dsimp only at hB
  generalize hw2 : w.alloc (.cells #[.int .i64 a1, .int .i64 a2, .string a3] 26) = w2 at hB ⊢
  clear hw2
  obtain ⟨⟨c0, c1, c2⟩, hb, hz⟩ := hB
  have E2 := Lib.hid hb
  have HS : Hid (∀ w', Below w2.heap.size w2 w' → (fun w' => Below w2.heap.size w2 w' ∧ w'.cell? ⟨w.heap.size, 0, none⟩ = some (.int .i64 a1) ∧ w'.cell? ⟨w.heap.size, 1, none⟩ = some (.int .i64 a2) ∧ w'.cell? ⟨w.heap.size, 2, none⟩ = some (.string a3)) w') :=
    Lib.hid (fun w' h => ⟨h, (h.cell (p := ⟨w.heap.size, 0, none⟩) (by show w.heap.size < _; omega)).trans c0, (h.cell (p := ⟨w.heap.size, 1, none⟩) (by show w.heap.size < _; omega)).trans c1, (h.cell (p := ⟨w.heap.size, 2, none⟩) (by show w.heap.size < _; omega)).trans c2⟩)
  clear hb hz c0 c1 c2
  refine wp_region_held_drew (S := (fun w' => Below w2.heap.size w2 w' ∧ w'.cell? ⟨w.heap.size, 0, none⟩ = some (.int .i64 a1) ∧ w'.cell? ⟨w.heap.size, 1, none⟩ = some (.int .i64 a2) ∧ w'.cell? ⟨w.heap.size, 2, none⟩ = some (.string a3))) (by kernel_rfl) (HS.out _ (belN (Below.refl _ _) 1)) (fun hHeld => ?_)
  refine wpAnyH_take (i := 0) (oi := ⟨_, _, _, _, _, _⟩) (v := ?_) rfl (by kernel_rfl) (by kernel_rfl) (by kernel_rfl) (fun _ _ _ h => h) (Or.inl ⟨by rfl, ?_⟩) (by assumption) ?_
  rotate_left
  · intro w' hSw; (try dsimp only at hSw); go_simp; (try with_reducible rfl)
  try simp only [Act.put, List.setIfInBounds_toArray, List.set_cons_zero, List.set_cons_succ]
  refine wpAnyH_ready (rs := [1]) (by kernel_rfl) (by simp) ?_
  refine AllReadyH.cons (o := ⟨_, _, _, _, _, _⟩) rfl (fun K9 hK9 => ?_) AllReadyH.nil
  go_simp
  (with_reducible refine ((rSym_c ⟨#[70, 65, 76, 83, 69]⟩ _)).mono ?_)
  rintro e w3 ⟨rfl, b3⟩
  have E3 := Lib.hid (hHeld.1.trans (b3.mono hHeld.1.size))
  clear b3
  go_wp2_with fail
  refine hK9.out _ _ (HS.out _ E3.out) (fun hHeld => ?_)
  clear hK9 K9
  try simp only [Act.put, List.setIfInBounds_toArray, List.set_cons_zero, List.set_cons_succ]
  refine wpAnyH_ready (rs := [2]) (by kernel_rfl) (by simp) ?_
  refine AllReadyH.cons (o := ⟨_, _, _, _, _, _⟩) rfl (fun K9 hK9 => ?_) AllReadyH.nil
  go_simp
  (with_reducible refine ((SM.out _)).mono ?_)
  rintro e w4 ⟨rfl, b4⟩
  have E4 := Lib.hid (E3.out.trans (b4.mono E3.out.size))
  clear b4
  go_wp2_with fail
  refine hK9.out _ _ (HS.out _ E4.out) (fun hHeld => ?_)
  clear hK9 K9
  try simp only [Act.put, List.setIfInBounds_toArray, List.set_cons_zero, List.set_cons_succ]
  refine wpAnyH_take (i := 3) (oi := ⟨_, _, _, _, _, _⟩) (v := ?_) rfl (by kernel_rfl) (by kernel_rfl) (by kernel_rfl) (fun _ _ _ h => h) (Or.inl ⟨by rfl, ?_⟩) (by assumption) ?_
  rotate_left
  · intro w' hSw; (try dsimp only at hSw); go_simp; (try with_reducible rfl)
  try simp only [Act.put, List.setIfInBounds_toArray, List.set_cons_zero, List.set_cons_succ]
  refine wpAnyH_take (i := 4) (oi := ⟨_, _, _, _, _, _⟩) (v := ?_) rfl (by kernel_rfl) (by kernel_rfl) (by kernel_rfl) (fun _ _ _ h => h) (Or.inl ⟨by rfl, ?_⟩) (by assumption) ?_
  rotate_left
  · intro w' hSw; (try dsimp only at hSw); go_simp; (try with_reducible rfl)
  try simp only [Act.put, List.setIfInBounds_toArray, List.set_cons_zero, List.set_cons_succ]
  refine wpAnyH_done (by kernel_rfl) ?_ _
  go_wp2_with fail
  go_ret
  exact ⟨rfl, E2.out.trans (E4.out.mono E2.out.size)⟩
end Go.Proofs.YtmadnehipagakaaGreatDoor
