/- EvalDeep: as many calls in one another as may be; one more is too long. -/
import Derived.Test.YtmadnehipagakaaGreatDoorGm
import Derived.Test.YtmadnehipagakaaGreatDoorNe
namespace Go.Proofs.YtmadnehipagakaaGreatDoor
open Go.RowKit Go.Lib Go.Sort Go.Shelf KP
set_option maxHeartbeats 1000000 in
theorem deep_out (n : Int) (h : n < 0 ∨ 60 < n) (w : World) (ht : Tab w) :
    Calls Tryz.prog 10 #[.int .i64 n] w fun e w' => e = .returned (.bool true) ∧ Below w.heap.size w w' := by
  have KN := Lib.hid (known8 w ht)
  clear ht
  by_cases h0 : n < 0
  · have h1 : ¬ (60 < n) := by omega
    clear h
    go_enter Tryz.func10, Tryz.ntmps10
    go_wp2_with fail
    refine KN.out.mono ?_
    rintro e w1 ⟨rfl, q1⟩
    have E1 := Lib.hid q1
    clear q1
    go_wp2_with fail
    go_ret
    exact ⟨rfl, E1.out⟩
  · have h0' : 0 ≤ n := by omega
    have h1 : 60 < n := by omega
    clear h
    go_enter Tryz.func10, Tryz.ntmps10
    go_wp2_with fail
    refine KN.out.mono ?_
    rintro e w1 ⟨rfl, q1⟩
    have E1 := Lib.hid q1
    clear q1
    go_wp2_with fail
    go_ret
    exact ⟨rfl, E1.out⟩
set_option maxRecDepth 100000 in
set_option maxHeartbeats 4000000 in
theorem deep_big (k : Nat) (hk : 32 ≤ k) (h60 : k ≤ 60) (w : World) (ht : Tab w) :
    Calls Tryz.prog 10 #[.int .i64 (k : Int)] w fun e w' => e = .returned (.bool true) ∧ Below w.heap.size w w' := by
  have HT := Lib.hid ht
  have h0 : ¬ ((k : Int) < 0) := by omega
  have h1 : (k : Int) ≤ 60 := by omega
  have h2 : (32 : Int) ≤ (k : Int) := by omega
  obtain ⟨rf, hr⟩ : ∃ rf, calO [fuDown] (evG [fuDown] [] 100000) ⟨#[100, 111, 119, 110]⟩ [vI (k : Int)] 0 100000 = ((v0, 4), rf) := by
    have hd := deep_all ⟨k, by omega⟩
    dsimp only at hd
    rw [if_pos hk] at hd
    exact ⟨_, Prod.ext hd rfl⟩
  have HRR := Lib.hid hr
  clear ht hk hr
  go_enter Tryz.func10, Tryz.ntmps10
  go_wp2_with fail
  refine (known8 w HT.out).mono ?_
  rintro e w1 ⟨rfl, q1⟩
  have B1 := Lib.hid q1
  clear q1
  go_wp2_with fail
  refine (chain_c w1 (HT.out.b B1.out)).mono ?_
  rintro e w2 ⟨m, g, rfl, hm, hX, hA, q2⟩
  have B2 := Lib.hid (B1.out.trans (q2.mono B1.out.size))
  have HM := Lib.hid (Nat.le_trans B1.out.size hm)
  have HX := Lib.hid hX
  have A2 := Lib.hid hA
  clear hm hX hA q2
  go_wp2_with fail
  refine (rInt_c (k : Int) _).mono ?_
  rintro e w3 ⟨rfl, q3⟩
  have B3 := Lib.hid (B2.out.trans (q3.mono B2.out.size))
  have b4 := (Below.refl w3.heap.size w3).alloc (Nat.le_refl _) (.cells #[.int .i64 1, .int .i64 (k : Int), .string ⟨#[]⟩] 26)
  have B4 := Lib.hid (B3.out.trans (b4.mono B3.out.size))
  have A4 := Lib.hid ((A2.out.bel HX.out q3).bel HX.out b4)
  have hV : ValsAt (w3.alloc (.cells #[.int .i64 1, .int .i64 (k : Int), .string ⟨#[]⟩] 26)) (some ⟨w3.heap.size, 0, none⟩) [vI (k : Int)] := vals_block (l := [vI (k : Int)]) (heap_alloc_new w3 (.cells #[.int .i64 1, .int .i64 (k : Int), .string ⟨#[]⟩] 26))
  have CC := Lib.hid (Call_c HX.out ⟨#[100, 111, 119, 110]⟩ (some ⟨w3.heap.size, 0, none⟩) 1 [vI (k : Int)] 100000 ((v0, 4), rf) _ HRR.out A4.out hV (by simp) (fun v hv => by simp only [List.mem_singleton] at hv; subst hv; exact good_int (by unfold okI; omega)))
  clear q3 b4 hV
  go_wp2_with fail
  refine CC.out.mono ?_
  rintro z w5 ⟨rfl, _, k5⟩
  have K5 := Lib.hid (Keep.below (k5) (N := w.heap.size) B4.out.size (fun q e => by have e : q = m := e; have := HM.out; omega))
  have B5 := Lib.hid (B4.out.trans K5.out)
  clear k5
  have B6 := Lib.hid (B5.out.alloc B5.out.size (.cells #[.int .i64 0, .int .i64 0, .string ⟨#[]⟩] 26))
  go_wp2_with fail
  go_ret
  exact ⟨rfl, B6.out⟩
set_option maxRecDepth 100000 in
set_option maxHeartbeats 4000000 in
theorem deep_few (k : Nat) (hk : k < 32) (h60 : k ≤ 60) (w : World) (ht : Tab w) :
    Calls Tryz.prog 10 #[.int .i64 (k : Int)] w fun e w' => e = .returned (.bool true) ∧ Below w.heap.size w w' := by
  have HT := Lib.hid ht
  have h0 : ¬ ((k : Int) < 0) := by omega
  have h1 : (k : Int) ≤ 60 := by omega
  have h2 : (k : Int) < 32 := by omega
  obtain ⟨rf, hr⟩ : ∃ rf, calO [fuDown] (evG [fuDown] [] 100000) ⟨#[100, 111, 119, 110]⟩ [vI (k : Int)] 0 100000 = ((vS ⟨#[100, 111, 110, 101]⟩, 0), rf) := by
    have hd := deep_all ⟨k, by omega⟩
    dsimp only at hd
    rw [if_neg (by omega)] at hd
    exact ⟨_, Prod.ext hd rfl⟩
  have HRR := Lib.hid hr
  clear ht hk hr
  go_enter Tryz.func10, Tryz.ntmps10
  go_wp2_with fail
  refine (known8 w HT.out).mono ?_
  rintro e w1 ⟨rfl, q1⟩
  have B1 := Lib.hid q1
  clear q1
  go_wp2_with fail
  refine (chain_c w1 (HT.out.b B1.out)).mono ?_
  rintro e w2 ⟨m, g, rfl, hm, hX, hA, q2⟩
  have B2 := Lib.hid (B1.out.trans (q2.mono B1.out.size))
  have HM := Lib.hid (Nat.le_trans B1.out.size hm)
  have HX := Lib.hid hX
  have A2 := Lib.hid hA
  clear hm hX hA q2
  go_wp2_with fail
  refine (rInt_c (k : Int) _).mono ?_
  rintro e w3 ⟨rfl, q3⟩
  have B3 := Lib.hid (B2.out.trans (q3.mono B2.out.size))
  have b4 := (Below.refl w3.heap.size w3).alloc (Nat.le_refl _) (.cells #[.int .i64 1, .int .i64 (k : Int), .string ⟨#[]⟩] 26)
  have B4 := Lib.hid (B3.out.trans (b4.mono B3.out.size))
  have A4 := Lib.hid ((A2.out.bel HX.out q3).bel HX.out b4)
  have hV : ValsAt (w3.alloc (.cells #[.int .i64 1, .int .i64 (k : Int), .string ⟨#[]⟩] 26)) (some ⟨w3.heap.size, 0, none⟩) [vI (k : Int)] := vals_block (l := [vI (k : Int)]) (heap_alloc_new w3 (.cells #[.int .i64 1, .int .i64 (k : Int), .string ⟨#[]⟩] 26))
  have CC := Lib.hid (Call_c HX.out ⟨#[100, 111, 119, 110]⟩ (some ⟨w3.heap.size, 0, none⟩) 1 [vI (k : Int)] 100000 ((vS ⟨#[100, 111, 110, 101]⟩, 0), rf) _ HRR.out A4.out hV (by simp) (fun v hv => by simp only [List.mem_singleton] at hv; subst hv; exact good_int (by unfold okI; omega)))
  clear q3 b4 hV
  go_wp2_with fail
  refine CC.out.mono ?_
  rintro z w5 ⟨rfl, _, k5⟩
  have K5 := Lib.hid (Keep.below (k5) (N := w.heap.size) B4.out.size (fun q e => by have e : q = m := e; have := HM.out; omega))
  have B5 := Lib.hid (B4.out.trans K5.out)
  clear k5
  have b6 := (Below.refl w5.heap.size w5).alloc (Nat.le_refl _) (.cells #[.int .i64 2, .int .i64 0, .string ⟨#[100, 111, 110, 101]⟩] 26)
  have hn6 := heap_alloc_new w5 (.cells #[.int .i64 2, .int .i64 0, .string ⟨#[100, 111, 110, 101]⟩] 26)
  have B6 := Lib.hid (B5.out.trans (b6.mono B5.out.size))
  have SM : Hid (∀ W, Calls Tryz.prog 17 #[.agg #[.int .i64 2, .int .i64 0, .string ⟨#[100, 111, 110, 101]⟩], .agg #[.int .i64 2, .int .i64 0, .string ⟨#[100, 111, 110, 101]⟩]] W fun e w' => e = .returned (.bool true) ∧ Below W.heap.size W w') := Lib.hid (fun W => by have := rsame_c (vS ⟨#[100, 111, 110, 101]⟩) (vS ⟨#[100, 111, 110, 101]⟩) W; rwa [decide_eq_true rfl] at this)
  go_wp2_with fail
  generalize w5.alloc (.cells #[.int .i64 2, .int .i64 0, .string ⟨#[100, 111, 110, 101]⟩] 26) = w6 at b6 hn6 B6 ⊢
  have HN6 := Lib.hid hn6
  have HS : Hid (∀ W, Below w6.heap.size w6 W → (fun W => Below w6.heap.size w6 W ∧ W.cell? ⟨w5.heap.size, 0, none⟩ = some (.int .i64 2) ∧ W.cell? ⟨w5.heap.size, 1, none⟩ = some (.int .i64 0) ∧ W.cell? ⟨w5.heap.size, 2, none⟩ = some (.string ⟨#[100, 111, 110, 101]⟩)) W) := Lib.hid (fun W h => by
    have x := keepB HN6.out h
    exact ⟨h, block_cell x rfl, block_cell x rfl, block_cell x rfl⟩)
  have D6 : Below w6.heap.size w6 w6.drew := ⟨rfl, rfl, rfl, Nat.le_refl _, fun _ _ => rfl⟩
  clear b6 hn6
  refine wp_region_held_drew (S := (fun W => Below w6.heap.size w6 W ∧ W.cell? ⟨w5.heap.size, 0, none⟩ = some (.int .i64 2) ∧ W.cell? ⟨w5.heap.size, 1, none⟩ = some (.int .i64 0) ∧ W.cell? ⟨w5.heap.size, 2, none⟩ = some (.string ⟨#[100, 111, 110, 101]⟩))) (by kernel_rfl) (HS.out _ D6) (fun hHeld => ?_)
  refine wpAnyH_take (i := 0) (oi := ⟨_, _, _, _, _, _⟩) (v := ?_) rfl (by kernel_rfl) (by kernel_rfl) (by kernel_rfl) (fun _ _ _ h => h) (Or.inl ⟨by rfl, ?_⟩) (by assumption) ?_
  rotate_left
  · intro w' hSw; (try dsimp only at hSw); go_simp; (try with_reducible rfl)
  try simp only [Act.put, List.setIfInBounds_toArray, List.set_cons_zero, List.set_cons_succ]
  refine wpAnyH_take (i := 1) (oi := ⟨_, _, _, _, _, _⟩) (v := ?_) rfl (by kernel_rfl) (by kernel_rfl) (by kernel_rfl) (fun _ _ _ h => h) (Or.inl ⟨by rfl, ?_⟩) (by assumption) ?_
  rotate_left
  · intro w' hSw; (try dsimp only at hSw); go_simp; (try with_reducible rfl)
  try simp only [Act.put, List.setIfInBounds_toArray, List.set_cons_zero, List.set_cons_succ]
  refine wpAnyH_take (i := 2) (oi := ⟨_, _, _, _, _, _⟩) (v := ?_) rfl (by kernel_rfl) (by kernel_rfl) (by kernel_rfl) (fun _ _ _ h => h) (Or.inl ⟨by rfl, ?_⟩) (by assumption) ?_
  rotate_left
  · intro w' hSw; (try dsimp only at hSw); go_simp; (try with_reducible rfl)
  try simp only [Act.put, List.setIfInBounds_toArray, List.set_cons_zero, List.set_cons_succ]
  refine wpAnyH_take (i := 3) (oi := ⟨_, _, _, _, _, _⟩) (v := ?_) rfl (by kernel_rfl) (by kernel_rfl) (by kernel_rfl) (fun _ _ _ h => h) (Or.inl ⟨by rfl, ?_⟩) (by assumption) ?_
  rotate_left
  · intro w' hSw; (try dsimp only at hSw); go_simp; (try with_reducible rfl)
  try simp only [Act.put, List.setIfInBounds_toArray, List.set_cons_zero, List.set_cons_succ]
  refine wpAnyH_ready (rs := [4]) (by kernel_rfl) (by simp) ?_
  refine AllReadyH.cons (o := ⟨_, _, _, _, _, _⟩) rfl (fun K9 hK9 => ?_) AllReadyH.nil
  go_simp
  (with_reducible refine ((belowW (W0 := w6) hHeld.1 (rSym_c ⟨#[100, 111, 110, 101]⟩ _))).mono ?_)
  rintro e u1 ⟨rfl, m1⟩
  have M1 := Lib.hid m1
  clear m1
  go_wp2_with fail
  refine hK9.out _ _ (HS.out _ M1.out) (fun hHeld => ?_)
  clear hK9 K9
  try simp only [Act.put, List.setIfInBounds_toArray, List.set_cons_zero, List.set_cons_succ]
  refine wpAnyH_ready (rs := [5]) (by kernel_rfl) (by simp) ?_
  refine AllReadyH.cons (o := ⟨_, _, _, _, _, _⟩) rfl (fun K9 hK9 => ?_) AllReadyH.nil
  go_simp
  (with_reducible refine ((belowW (W0 := w6) hHeld.1 (SM.out _))).mono ?_)
  rintro e u2 ⟨rfl, m2⟩
  have M2 := Lib.hid m2
  clear m2
  go_wp2_with fail
  refine hK9.out _ _ (HS.out _ M2.out) (fun hHeld => ?_)
  clear hK9 K9
  try simp only [Act.put, List.setIfInBounds_toArray, List.set_cons_zero, List.set_cons_succ]
  refine wpAnyH_take (i := 6) (oi := ⟨_, _, _, _, _, _⟩) (v := ?_) rfl (by kernel_rfl) (by kernel_rfl) (by kernel_rfl) (fun _ _ _ h => h) (Or.inl ⟨by rfl, ?_⟩) (by assumption) ?_
  rotate_left
  · intro w' hSw; (try dsimp only at hSw); go_simp; (try with_reducible rfl)
  try simp only [Act.put, List.setIfInBounds_toArray, List.set_cons_zero, List.set_cons_succ]
  refine wpAnyH_take (i := 7) (oi := ⟨_, _, _, _, _, _⟩) (v := ?_) rfl (by kernel_rfl) (by kernel_rfl) (by kernel_rfl) (fun _ _ _ h => h) (Or.inl ⟨by rfl, ?_⟩) (by assumption) ?_
  rotate_left
  · intro w' hSw; (try dsimp only at hSw); go_simp; (try with_reducible rfl)
  try simp only [Act.put, List.setIfInBounds_toArray, List.set_cons_zero, List.set_cons_succ]
  refine wpAnyH_done (by kernel_rfl) ?_ _
  have EM := Lib.hid (B6.out.trans (hHeld.1.mono B6.out.size))
  clear hHeld
  go_wp2_with fail
  go_ret
  exact ⟨rfl, EM.out⟩
theorem evalDeep_any (n : Int) (w : World) (ht : Tab w) (_h : (Lit.int .i64 n).wf = true) :
    Calls Tryz.prog 10 #[.int .i64 n] w fun e w' => e = .returned (.bool true) ∧ Below w.heap.size w w' := by
  by_cases h : n < 0 ∨ 60 < n
  · exact deep_out n h w ht
  · obtain ⟨k, rfl⟩ : ∃ k : Nat, n = k := ⟨n.toNat, by omega⟩
    by_cases hk : 32 ≤ k
    · exact deep_big k hk (by omega) w ht
    · exact deep_few k (by omega) (by omega) w ht
end Go.Proofs.YtmadnehipagakaaGreatDoor
