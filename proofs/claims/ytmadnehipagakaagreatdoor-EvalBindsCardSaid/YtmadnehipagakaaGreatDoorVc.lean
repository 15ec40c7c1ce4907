/- val.Compare, val.Same, val.True; the reference's Same, True. -/
import Derived.Test.YtmadnehipagakaaGreatDoorVb
namespace Go.Proofs.YtmadnehipagakaaGreatDoor
open Go.RowKit Go.Lib KP
theorem two_boxes (W : World) (a b : Vl) (T U : TypeId) :
    let w2 := (W.alloc (.cells a.cs T)).alloc (.cells b.cs U)
    ((w2.cell? ⟨W.heap.size, 0, none⟩ = some (.int .i64 a.1) ∧ w2.cell? ⟨W.heap.size, 1, none⟩ = some (.int .i64 a.2.1) ∧ w2.cell? ⟨W.heap.size, 2, none⟩ = some (.string a.2.2)) ∧
    (w2.cell? ⟨W.heap.size + 1, 0, none⟩ = some (.int .i64 b.1) ∧ w2.cell? ⟨W.heap.size + 1, 1, none⟩ = some (.int .i64 b.2.1) ∧ w2.cell? ⟨W.heap.size + 1, 2, none⟩ = some (.string b.2.2))) ∧ Below W.heap.size W w2 ∧ W.heap.size + 2 ≤ w2.heap.size := by
  intro w2
  have hb : w2.heap[W.heap.size + 1]? = some (.cells b.cs U (0, 0)) := by
    have := heap_alloc_new (W.alloc (.cells a.cs T)) (.cells b.cs U)
    have e : (W.alloc (.cells a.cs T)).heap.size = W.heap.size + 1 := by simp
    rwa [e] at this
  have ha : w2.heap[W.heap.size]? = some (.cells a.cs T (0, 0)) := (Below.heap_alloc _ _ _ (by simp)).trans (heap_alloc_new W _)
  refine ⟨⟨⟨block_cell ha rfl, block_cell ha rfl, block_cell ha rfl⟩, ⟨block_cell hb rfl, block_cell hb rfl, block_cell hb rfl⟩⟩, ((Below.refl _ _).alloc (Nat.le_refl _) _).alloc (by simp) _, by simp [w2]⟩
set_option maxHeartbeats 1000000 in
theorem compare_c (a b : Vl) (w : World) : Calls Tryz.prog 109 #[a.val, b.val] w fun e w' => e = .returned (.int .i64 (cmpV a b)) ∧ Below w.heap.size w w' := by
  obtain ⟨a1, a2, a3⟩ := a
  obtain ⟨b1, b2, b3⟩ := b
  go_enter Tryz.func109, Tryz.ntmps109
  go_wp2_with fail
  have hB := two_boxes w (a1, a2, a3) (b1, b2, b3) 26 26
  dsimp only at hB
  generalize hw2 : (w.alloc (.cells #[.int .i64 a1, .int .i64 a2, .string a3] 26)).alloc (.cells #[.int .i64 b1, .int .i64 b2, .string b3] 26) = w2 at hB ⊢
  clear hw2
  obtain ⟨⟨⟨c0, c1, c2⟩, ⟨d0, d1, d2⟩⟩, hb, hz⟩ := hB
  have E2 := Lib.hid hb; clear hb
  have Z2 := Lib.hid hz; clear hz
  go_region_held3 (fun w' => w'.cell? ⟨w.heap.size, 0, none⟩ = some (.int .i64 a1) ∧ w'.cell? ⟨w.heap.size, 1, none⟩ = some (.int .i64 a2) ∧ w'.cell? ⟨w.heap.size, 2, none⟩ = some (.string a3) ∧ w'.cell? ⟨w.heap.size + 1, 0, none⟩ = some (.int .i64 b1) ∧ w'.cell? ⟨w.heap.size + 1, 1, none⟩ = some (.int .i64 b2) ∧ w'.cell? ⟨w.heap.size + 1, 2, none⟩ = some (.string b3)) (go_keep)
    (first
      | (go_at_call 138; refine (cmpI_c _ _ _).mono ?_; rintro e w' ⟨rfl, rfl⟩)
      | (go_at_call 139; refine (cmpL_c _ _ _).mono ?_; rintro e w' ⟨rfl, rfl⟩)
      | (go_at_call 140; refine (cmpS_c _ _ _).mono ?_; rintro e w' ⟨rfl, rfl⟩)
      | (go_at_call 137; refine (or_c _ (cmpI a1 b1) (cmpI a2 b2) (cmpS a3 b3) _ (by simp) (by simp) (by simp)).mono ?_; rintro e w' ⟨rfl, rfl⟩))
  go_wp2
  go_ret
  exact ⟨rfl, (E2.out.alloc E2.out.size _).drew⟩
theorem same_c (a b : Vl) (w : World) : Calls Tryz.prog 71 #[a.val, b.val] w fun e w' => e = .returned (.bool (decide (a = b))) ∧ Below w.heap.size w w' := by
  have hz := cmpV_zero a b
  have hd : (cmpV a b == 0) = decide (a = b) := by rw [Bool.eq_iff_iff]; simp [hz]
  have HD := Lib.hid hd
  clear hz hd
  obtain ⟨a1, a2, a3⟩ := a
  obtain ⟨b1, b2, b3⟩ := b
  go_enter Tryz.func71, Tryz.ntmps71
  go_wp2_with fail
  have hB := (two_boxes w (a1, a2, a3) (b1, b2, b3) 26 26).2
  generalize hw2 : (w.alloc (.cells #[.int .i64 a1, .int .i64 a2, .string a3] 26)).alloc (.cells #[.int .i64 b1, .int .i64 b2, .string b3] 26) = w2 at hB ⊢
  clear hw2
  have E2 := Lib.hid hB.1
  clear hB
  refine (compare_c (a1, a2, a3) (b1, b2, b3) _).mono ?_
  rintro e w3 ⟨rfl, b3'⟩
  have E3 := Lib.hid (E2.out.trans (b3'.mono E2.out.size)); clear b3'
  generalize cmpV (a1, a2, a3) (b1, b2, b3) = r at *
  go_wp2_with fail
  go_ret
  exact ⟨ret_bool HD.out, E3.out⟩
theorem belowW {W0 W : World} {f : FuncId} {args : Array Value} {Q : Ending → Prop} (hW : Below W0.heap.size W0 W) (h : Calls Tryz.prog f args W fun e w' => Q e ∧ Below W.heap.size W w') : Calls Tryz.prog f args W fun e w' => Q e ∧ Below W0.heap.size W0 w' :=
  h.mono fun _ _ h => ⟨h.1, hW.trans (h.2.mono hW.size)⟩
theorem one_box (W : World) (a : Vl) (T : TypeId) :
    let w2 := W.alloc (.cells a.cs T)
    (w2.cell? ⟨W.heap.size, 0, none⟩ = some (.int .i64 a.1) ∧ w2.cell? ⟨W.heap.size, 1, none⟩ = some (.int .i64 a.2.1) ∧ w2.cell? ⟨W.heap.size, 2, none⟩ = some (.string a.2.2)) ∧ Below W.heap.size W w2 ∧ W.heap.size + 1 ≤ w2.heap.size := by
  intro w2
  have ha : w2.heap[W.heap.size]? = some (.cells a.cs T (0, 0)) := heap_alloc_new W _
  exact ⟨⟨block_cell ha rfl, block_cell ha rfl, block_cell ha rfl⟩, (Below.refl _ _).alloc (Nat.le_refl _) _, by simp [w2]⟩
def trueB (v : Vl) : Bool := !decide (v = vB false)
set_option maxHeartbeats 1000000 in
theorem true_c (a : Vl) (w : World) : Calls Tryz.prog 72 #[a.val] w fun e w' => e = .returned (.bool (trueB a)) ∧ Below w.heap.size w w' := by
  have hz := cmpV_zero a (vB false)
  have hd : (cmpV a (vB false) != 0) = trueB a := by rw [Bool.eq_iff_iff]; simp [trueB, hz]
  have HD := Lib.hid hd
  clear hz hd
  obtain ⟨a1, a2, a3⟩ := a
  go_enter Tryz.func72, Tryz.ntmps72
  go_wp2_with fail
  have hB := one_box w (a1, a2, a3) 26
  dsimp only at hB
  generalize hw2 : w.alloc (.cells #[.int .i64 a1, .int .i64 a2, .string a3] 26) = w2 at hB ⊢
  clear hw2
  obtain ⟨⟨c0, c1, c2⟩, hb, hz⟩ := hB
  have E2 := Lib.hid hb
  have HS : Hid (∀ w', Below w2.heap.size w2 w' → (Below w2.heap.size w2 w' ∧ w'.cell? ⟨w.heap.size, 0, none⟩ = some (.int .i64 a1) ∧ w'.cell? ⟨w.heap.size, 1, none⟩ = some (.int .i64 a2) ∧ w'.cell? ⟨w.heap.size, 2, none⟩ = some (.string a3))) :=
    Lib.hid (fun w' h => ⟨h, (h.cell (p := ⟨w.heap.size, 0, none⟩) (by show w.heap.size < _; omega)).trans c0, (h.cell (p := ⟨w.heap.size, 1, none⟩) (by show w.heap.size < _; omega)).trans c1, (h.cell (p := ⟨w.heap.size, 2, none⟩) (by show w.heap.size < _; omega)).trans c2⟩)
  clear hb hz
  have B0 : Below w2.heap.size w2 w2.drew := ⟨rfl, rfl, rfl, Nat.le_refl _, fun _ _ => rfl⟩
  go_region_held3 (fun w' => Below w2.heap.size w2 w' ∧ w'.cell? ⟨w.heap.size, 0, none⟩ = some (.int .i64 a1) ∧ w'.cell? ⟨w.heap.size, 1, none⟩ = some (.int .i64 a2) ∧ w'.cell? ⟨w.heap.size, 2, none⟩ = some (.string a3)) (exact HS.out _ (by assumption))
    (first
      | (go_at_call 51; refine (belowW (W0 := w2) (by first | assumption | exact And.left (by assumption)) (ofBool_c false _)).mono ?_; rintro e w' ⟨rfl, _⟩)
      | (go_at_call 109; refine (belowW (W0 := w2) (by first | assumption | exact And.left (by assumption)) (compare_c (a1, a2, a3) (vB false) _)).mono ?_; rintro e w' ⟨rfl, _⟩))
  all_goals
    rename _ ∧ _ ∧ _ => hH
    have E := Lib.hid hH.1
    clear hH
    go_wp2
    go_ret
    exact ⟨ret_bool HD.out, E2.out.trans (E.out.mono E2.out.size)⟩
set_option maxHeartbeats 1000000 in
theorem rsame_c (a b : Vl) (w : World) : Calls Tryz.prog 17 #[a.val, b.val] w fun e w' => e = .returned (.bool (decide (a = b))) ∧ Below w.heap.size w w' := by
  obtain ⟨a1, a2, a3⟩ := a
  obtain ⟨b1, b2, b3⟩ := b
  have hB := two_boxes w (a1, a2, a3) (b1, b2, b3) 26 26
  dsimp only at hB
  obtain ⟨⟨⟨c0, c1, c2⟩, ⟨d0, d1, d2⟩⟩, hb, _⟩ := hB
  have E2 := Lib.hid hb; clear hb
  by_cases h1 : a1 = b1
  · by_cases h2 : a2 = b2
    · by_cases h3 : a3 = b3
      · have HD : Hid (true = decide ((a1, a2, a3) = (b1, b2, b3))) := Lib.hid (by simp [h1, h2, h3])
        have e1 : (a1 == b1) = true := by simp [h1]
        have e2 : (a2 == b2) = true := by simp [h2]
        have e3 := str_eq h3
        clear h1 h2 h3
        go_enter Tryz.func17, Tryz.ntmps17
        go_wp2_with fail
        go_ret
        exact ⟨ret_bool HD.out, E2.out⟩
      · have HD : Hid (false = decide ((a1, a2, a3) = (b1, b2, b3))) := Lib.hid (by simp [h3])
        have e1 : (a1 == b1) = true := by simp [h1]
        have e2 : (a2 == b2) = true := by simp [h2]
        have e3 := str_ne h3
        clear h1 h2 h3
        go_enter Tryz.func17, Tryz.ntmps17
        go_wp2_with fail
        go_ret
        exact ⟨ret_bool HD.out, E2.out⟩
    · have HD : Hid (false = decide ((a1, a2, a3) = (b1, b2, b3))) := Lib.hid (by simp [h2])
      have e1 : (a1 == b1) = true := by simp [h1]
      have e2 : (a2 == b2) = false := by simp [h2]
      clear h1 h2
      go_enter Tryz.func17, Tryz.ntmps17
      go_wp2_with fail
      go_ret
      exact ⟨ret_bool HD.out, E2.out⟩
  · have HD : Hid (false = decide ((a1, a2, a3) = (b1, b2, b3))) := Lib.hid (by simp [h1])
    have e1 : (a1 == b1) = false := by simp [h1]
    clear h1
    go_enter Tryz.func17, Tryz.ntmps17
    go_wp2_with fail
    go_ret
    exact ⟨ret_bool HD.out, E2.out⟩
end Go.Proofs.YtmadnehipagakaaGreatDoor
