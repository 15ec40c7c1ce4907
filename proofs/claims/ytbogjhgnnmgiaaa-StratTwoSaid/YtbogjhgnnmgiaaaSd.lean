/- strat.rank by lex and mea. -/
import Derived.Test.YtbogjhgnnmgiaaaSc
namespace Go.Proofs.Ytbogjhgnnmgiaaa
open Go.Shelf Go.RowKit Go.Lib

theorem boxes (w : World) (x y : Array Value) (t : TypeId) : (∀ j v, x[j]? = some v → ((w.alloc (.cells x t)).alloc (.cells y t)).cell? ⟨w.heap.size, j, none⟩ = some v) ∧ (∀ j v, y[j]? = some v → ((w.alloc (.cells x t)).alloc (.cells y t)).cell? ⟨w.heap.size + 1, j, none⟩ = some v) := by
  have h1 : ((w.alloc (.cells x t)).alloc (.cells y t)).heap[w.heap.size]? = some (.cells x t (0, 0)) := by
    show ((w.heap.push _).push _)[w.heap.size]? = _
    rw [Array.getElem?_push_lt (by simp)]; simp
  have h2 : ((w.alloc (.cells x t)).alloc (.cells y t)).heap[w.heap.size + 1]? = some (.cells y t (0, 0)) := by
    have h : (w.heap.push (.cells x t)).size = w.heap.size + 1 := by simp
    show ((w.heap.push _).push _)[w.heap.size + 1]? = _
    rw [← h]; exact Array.getElem?_push_size
  exact ⟨fun j v h => KP.block_cell h1 h, fun j v h => KP.block_cell h2 h⟩

section
variable (s r1 al1 sa1 sp1 bo1 k1 r2 al2 sa2 sp2 bo2 k2 : Int) (A1 A2 : Option Addr) (l1 l2 : List Int) (c1 c2 : Nat) (w : World)

theorem belD {B n : Nat} {w W : World} (h : Below B w W) : Below B w (W.drewN n) := ⟨h.os, h.tape, h.output, h.size, h.block⟩
theorem belDr {B : Nat} {w W : World} (h : Below B w W) : Below B w W.drew := ⟨h.os, h.tape, h.output, h.size, h.block⟩
theorem first_q {A : Option Addr} {l : List Int} {c : Nat} {w : World} (h : RowAt w (Value.int .i64) A l) : Calls Try.prog 31 #[.slice A l.length c] w fun e w' => e = .returned (.int .i64 (firstI l)) ∧ w' = w :=
  (first_any A l c w h).mono fun _ _ h => ⟨h.1, h.2.symm⟩
theorem cmp_q (x y : Int) (w : World) : Calls Try.prog 29 #[.int .i64 x, .int .i64 y] w fun e w' => e = .returned (.int .i64 (Lib.compareInt x y)) ∧ w' = w := (cmp_c x y w).mono fun _ _ h => ⟨h.1, h.2.symm⟩

set_option maxHeartbeats 1000000 in
theorem rank6a (hs : (Lib.compareInt sa2 sa1 == 0) = true) (hf : (Lib.compareInt (firstI l2) (firstI l1) == 0) = false) (h1 : RowAt w (Value.int .i64) A1 l1) (h2 : RowAt w (Value.int .i64) A2 l2) :
    Calls Try.prog 20 #[.int .i64 6, .agg #[.int .i64 r1, .int .i64 al1, .slice A1 l1.length c1, .int .i64 sa1, .int .i64 sp1, .int .i64 bo1, .int .i64 k1], .agg #[.int .i64 r2, .int .i64 al2, .slice A2 l2.length c2, .int .i64 sa2, .int .i64 sp2, .int .i64 bo2, .int .i64 k2]] w fun e w' => e = .returned (.int .i64 (Lib.compareInt (firstI l2) (firstI l1))) ∧ Below w.heap.size w w' := by
  have R1 : Hid (∀ W, Below w.heap.size w W → RowAt W (Value.int .i64) A1 l1) := Lib.hid (fun W hW => h1.below hW)
  have R2 : Hid (∀ W, Below w.heap.size w W → RowAt W (Value.int .i64) A2 l2) := Lib.hid (fun W hW => h2.below hW)
  clear h1 h2
  obtain ⟨W0, hW0⟩ : ∃ W0, W0 = (w.alloc (.cells #[.int .i64 r1, .int .i64 al1, .slice A1 l1.length c1, .int .i64 sa1, .int .i64 sp1, .int .i64 bo1, .int .i64 k1] 24)).alloc (.cells #[.int .i64 r2, .int .i64 al2, .slice A2 l2.length c2, .int .i64 sa2, .int .i64 sp2, .int .i64 bo2, .int .i64 k2] 24) := ⟨_, rfl⟩
  have q := boxes w #[.int .i64 r1, .int .i64 al1, .slice A1 l1.length c1, .int .i64 sa1, .int .i64 sp1, .int .i64 bo1, .int .i64 k1] #[.int .i64 r2, .int .i64 al2, .slice A2 l2.length c2, .int .i64 sa2, .int .i64 sp2, .int .i64 bo2, .int .i64 k2] 24
  rw [← hW0] at q
  have B0 : Hid (Below w.heap.size w W0) := Lib.hid (by rw [hW0]; exact bel2 _ _ _)
  have q1 := q.1 2 (.slice A1 l1.length c1) rfl
  have q2 := q.2 2 (.slice A2 l2.length c2) rfl
  clear q
  go_enter Try.func20, Try.ntmps20
  go_wp2_with (first | (go_at_call 29; refine (cmp_c _ _ _).mono ?_; rintro e w' ⟨rfl, rfl⟩))
  rw [← hW0]
  clear hW0
  go_big_quiet (first | (go_at_call_of 31 A2; refine Calls.quiet_of_same (first_q (R2.out _ (belD B0.out)))) | (go_at_call_of 31 A1; refine Calls.quiet_of_same (first_q (R1.out _ (belD B0.out)))) | (go_at_call 29; refine Calls.quiet_of_same (cmp_q _ _ _)))
  go_wp2
  go_ret
  exact ⟨rfl, belD B0.out⟩

theorem falling_w {A : Option Addr} {l : List Int} {c : Nat} {W0 W : World} (h : RowAt W0 (Value.int .i64) A l) (hA : A = none → c = 0) (hs : l.length ≤ 1000) (hW : Below W0.heap.size W0 W) :
    Calls Try.prog 18 #[.slice A l.length c] W fun e w' => ∃ A' c', e = .returned (.slice A' l.length c') ∧ RowAt w' (Value.int .i64) A' (falls l) ∧ Below W0.heap.size W0 w' ∧ Below W.heap.size W w' :=
  (falling_any A l c W (h.below hW) hA hs).mono fun _ _ ⟨A', c', e, hr, hb⟩ => ⟨A', c', e, hr, hW.trans (hb.mono hW.size), hb⟩
theorem compare_w {A B : Option Addr} {l m : List Int} {c d : Nat} {w : World} (h : RowAt w (Value.int .i64) A (falls l)) (h' : RowAt w (Value.int .i64) B (falls m)) (hl : l.length ≤ 1000) (hm : m.length ≤ 1000) :
    Calls Try.prog 32 #[.slice A l.length c, .slice B m.length d] w fun e w' => e = .returned (.int .i64 (cmpList (falls l) (falls m))) ∧ w = w' := by
  have := compare_any A B (falls l) (falls m) c d w h h' (by rw [falls_len]; exact hl) (by rw [falls_len]; exact hm)
  rwa [falls_len, falls_len] at this
theorem heap1 (w : World) (o : Obj) : (w.alloc o).heap[w.heap.size]? = some o := by
  show (w.heap.push o)[w.heap.size]? = _
  exact Array.getElem?_push_size
theorem RowAt.next {w w' : World} {A : Option Addr} {l : List Int} (hb : Below w.heap.size w w') (h : RowAt w (Value.int .i64) A l) : RowAt w' (Value.int .i64) A l := h.below hb

set_option maxHeartbeats 2000000 in
theorem rank5a (hs : (Lib.compareInt sa2 sa1 == 0) = true) (h1 : RowAt w (Value.int .i64) A1 l1) (h2 : RowAt w (Value.int .i64) A2 l2) (hA1 : A1 = none → c1 = 0) (hA2 : A2 = none → c2 = 0) (hl1 : l1.length ≤ 1000) (hl2 : l2.length ≤ 1000) :
    Calls Try.prog 20 #[.int .i64 5, .agg #[.int .i64 r1, .int .i64 al1, .slice A1 l1.length c1, .int .i64 sa1, .int .i64 sp1, .int .i64 bo1, .int .i64 k1], .agg #[.int .i64 r2, .int .i64 al2, .slice A2 l2.length c2, .int .i64 sa2, .int .i64 sp2, .int .i64 bo2, .int .i64 k2]] w fun e w' => e = .returned (.int .i64 (rank5 l1 sp1 bo1 l2 sp2 bo2)) ∧ Below w.heap.size w w' := by
  have R1 : Hid (∀ W, Below w.heap.size w W → RowAt W (Value.int .i64) A1 l1) := Lib.hid (fun W hW => h1.below hW)
  have R2 : Hid (∀ W, Below w.heap.size w W → RowAt W (Value.int .i64) A2 l2) := Lib.hid (fun W hW => h2.below hW)
  clear h1 h2
  obtain ⟨W0, hW0⟩ : ∃ W0, W0 = (w.alloc (.cells #[.int .i64 r1, .int .i64 al1, .slice A1 l1.length c1, .int .i64 sa1, .int .i64 sp1, .int .i64 bo1, .int .i64 k1] 24)).alloc (.cells #[.int .i64 r2, .int .i64 al2, .slice A2 l2.length c2, .int .i64 sa2, .int .i64 sp2, .int .i64 bo2, .int .i64 k2] 24) := ⟨_, rfl⟩
  have q := boxes w #[.int .i64 r1, .int .i64 al1, .slice A1 l1.length c1, .int .i64 sa1, .int .i64 sp1, .int .i64 bo1, .int .i64 k1] #[.int .i64 r2, .int .i64 al2, .slice A2 l2.length c2, .int .i64 sa2, .int .i64 sp2, .int .i64 bo2, .int .i64 k2] 24
  rw [← hW0] at q
  have B0 : Hid (Below w.heap.size w W0) := Lib.hid (by rw [hW0]; exact bel2 _ _ _)
  have q1 := q.1 2 (.slice A1 l1.length c1) rfl
  have q2 := q.2 2 (.slice A2 l2.length c2) rfl
  have hlt : w.heap.size + 1 < W0.heap.size := by rw [hW0]; simp
  have hlt0 : w.heap.size < W0.heap.size := by omega
  have C : Hid (∀ W, Below W0.heap.size W0 W → W.cell? ⟨w.heap.size, 2, none⟩ = some (.slice A1 l1.length c1) ∧ W.cell? ⟨w.heap.size + 1, 2, none⟩ = some (.slice A2 l2.length c2) ∧ W.cell? ⟨w.heap.size, 4, none⟩ = some (.int .i64 sp1) ∧ W.cell? ⟨w.heap.size + 1, 4, none⟩ = some (.int .i64 sp2) ∧ W.cell? ⟨w.heap.size, 5, none⟩ = some (.int .i64 bo1) ∧ W.cell? ⟨w.heap.size + 1, 5, none⟩ = some (.int .i64 bo2)) :=
    Lib.hid (fun W hW => ⟨(hW.cell (p := ⟨w.heap.size, 2, none⟩) hlt0).trans q1, (hW.cell (p := ⟨w.heap.size + 1, 2, none⟩) hlt).trans q2, (hW.cell (p := ⟨w.heap.size, 4, none⟩) hlt0).trans (q.1 4 (.int .i64 sp1) rfl), (hW.cell (p := ⟨w.heap.size + 1, 4, none⟩) hlt).trans (q.2 4 (.int .i64 sp2) rfl), (hW.cell (p := ⟨w.heap.size, 5, none⟩) hlt0).trans (q.1 5 (.int .i64 bo1) rfl), (hW.cell (p := ⟨w.heap.size + 1, 5, none⟩) hlt).trans (q.2 5 (.int .i64 bo2) rfl)⟩)
  clear q q1 q2 hlt hlt0
  go_enter Try.func20, Try.ntmps20
  go_wp2_with (first | (go_at_call 29; refine (cmp_c _ _ _).mono ?_; rintro e w' ⟨rfl, rfl⟩))
  rw [← hW0]
  clear hW0
  have S1 := Lib.hid (R1.out _ B0.out)
  have S2 := Lib.hid (R2.out _ B0.out)
  obtain ⟨W1, hW1⟩ : ∃ W1, W1 = W0 := ⟨_, rfl⟩
  have D0 : Below W0.heap.size W0 W1 := by rw [hW1]; exact Below.refl _ _
  rw [← hW1]
  clear hW1
  obtain ⟨d1, d2, _, _, _, _⟩ := C.out _ D0
  go_region_with (first
    | (go_at_call_of 18 A1; refine (falling_w S1.out hA1 hl1 (by first | assumption | (refine belDr ?_; assumption))).mono ?_; rintro e w' ⟨A', c', rfl, hrow1, hb, hn1⟩; (try (have hrow2 := RowAt.next hn1 hrow2)); obtain ⟨d1, d2, d3, d4, d5, d6⟩ := C.out _ hb)
    | (go_at_call_of 18 A2; refine (falling_w S2.out hA2 hl2 (by first | assumption | (refine belDr ?_; assumption))).mono ?_; rintro e w' ⟨A', c', rfl, hrow2, hb, hn2⟩; (try (have hrow1 := RowAt.next hn2 hrow1)); obtain ⟨d1, d2, d3, d4, d5, d6⟩ := C.out _ hb)
    | (go_at_call 32; refine (compare_w (l := l2) (m := l1) hrow2 hrow1 hl2 hl1).mono ?_; rintro e w' ⟨rfl, rfl⟩))
  all_goals
    rename Below W0.heap.size W0 _ => hb9
    have E := Lib.hid (B0.out.trans (hb9.mono B0.out.size))
    cases hcc : (cmpList (falls l2) (falls l1) == 0) with
    | false =>
      go_wp2
      go_ret
      exact ⟨ret_int (by simp [rank5, beq_eq_false_iff_ne.1 hcc]), E.out⟩
    | true =>
      have he : rank5 l1 sp1 bo1 l2 sp2 bo2 = orI (Lib.compareInt sp2 sp1) (Lib.compareInt bo2 bo1) := by simp [rank5, beq_iff_eq.1 hcc]
      have HE := Lib.hid he; clear he
      go_wp2_with (first | (go_at_call 29; refine (cmp_c _ _ _).mono ?_; rintro e w' ⟨rfl, rfl⟩) | (go_at_call 33; refine (or_at _ (Lib.compareInt sp2 sp1) (Lib.compareInt bo2 bo1) _ _ (heap1 _ _)).mono ?_; rintro e w' ⟨rfl, rfl⟩))
      go_ret
      exact ⟨ret_int HE.out.symm, E.out.alloc E.out.size _⟩

set_option maxHeartbeats 2000000 in
theorem rank6b (hs : (Lib.compareInt sa2 sa1 == 0) = true) (hf : (Lib.compareInt (firstI l2) (firstI l1) == 0) = true) (h1 : RowAt w (Value.int .i64) A1 l1) (h2 : RowAt w (Value.int .i64) A2 l2) (hA1 : A1 = none → c1 = 0) (hA2 : A2 = none → c2 = 0) (hl1 : l1.length ≤ 1000) (hl2 : l2.length ≤ 1000) :
    Calls Try.prog 20 #[.int .i64 6, .agg #[.int .i64 r1, .int .i64 al1, .slice A1 l1.length c1, .int .i64 sa1, .int .i64 sp1, .int .i64 bo1, .int .i64 k1], .agg #[.int .i64 r2, .int .i64 al2, .slice A2 l2.length c2, .int .i64 sa2, .int .i64 sp2, .int .i64 bo2, .int .i64 k2]] w fun e w' => e = .returned (.int .i64 (rank5 l1 sp1 bo1 l2 sp2 bo2)) ∧ Below w.heap.size w w' := by
  have R1 : Hid (∀ W, Below w.heap.size w W → RowAt W (Value.int .i64) A1 l1) := Lib.hid (fun W hW => h1.below hW)
  have R2 : Hid (∀ W, Below w.heap.size w W → RowAt W (Value.int .i64) A2 l2) := Lib.hid (fun W hW => h2.below hW)
  clear h1 h2
  obtain ⟨W0, hW0⟩ : ∃ W0, W0 = (w.alloc (.cells #[.int .i64 r1, .int .i64 al1, .slice A1 l1.length c1, .int .i64 sa1, .int .i64 sp1, .int .i64 bo1, .int .i64 k1] 24)).alloc (.cells #[.int .i64 r2, .int .i64 al2, .slice A2 l2.length c2, .int .i64 sa2, .int .i64 sp2, .int .i64 bo2, .int .i64 k2] 24) := ⟨_, rfl⟩
  have q := boxes w #[.int .i64 r1, .int .i64 al1, .slice A1 l1.length c1, .int .i64 sa1, .int .i64 sp1, .int .i64 bo1, .int .i64 k1] #[.int .i64 r2, .int .i64 al2, .slice A2 l2.length c2, .int .i64 sa2, .int .i64 sp2, .int .i64 bo2, .int .i64 k2] 24
  rw [← hW0] at q
  have B0 : Hid (Below w.heap.size w W0) := Lib.hid (by rw [hW0]; exact bel2 _ _ _)
  have q1 := q.1 2 (.slice A1 l1.length c1) rfl
  have q2 := q.2 2 (.slice A2 l2.length c2) rfl
  have hlt : w.heap.size + 1 < W0.heap.size := by rw [hW0]; simp
  have hlt0 : w.heap.size < W0.heap.size := by omega
  have C : Hid (∀ W, Below W0.heap.size W0 W → W.cell? ⟨w.heap.size, 2, none⟩ = some (.slice A1 l1.length c1) ∧ W.cell? ⟨w.heap.size + 1, 2, none⟩ = some (.slice A2 l2.length c2) ∧ W.cell? ⟨w.heap.size, 4, none⟩ = some (.int .i64 sp1) ∧ W.cell? ⟨w.heap.size + 1, 4, none⟩ = some (.int .i64 sp2) ∧ W.cell? ⟨w.heap.size, 5, none⟩ = some (.int .i64 bo1) ∧ W.cell? ⟨w.heap.size + 1, 5, none⟩ = some (.int .i64 bo2)) :=
    Lib.hid (fun W hW => ⟨(hW.cell (p := ⟨w.heap.size, 2, none⟩) hlt0).trans q1, (hW.cell (p := ⟨w.heap.size + 1, 2, none⟩) hlt).trans q2, (hW.cell (p := ⟨w.heap.size, 4, none⟩) hlt0).trans (q.1 4 (.int .i64 sp1) rfl), (hW.cell (p := ⟨w.heap.size + 1, 4, none⟩) hlt).trans (q.2 4 (.int .i64 sp2) rfl), (hW.cell (p := ⟨w.heap.size, 5, none⟩) hlt0).trans (q.1 5 (.int .i64 bo1) rfl), (hW.cell (p := ⟨w.heap.size + 1, 5, none⟩) hlt).trans (q.2 5 (.int .i64 bo2) rfl)⟩)
  clear q q1 q2 hlt hlt0
  go_enter Try.func20, Try.ntmps20
  go_wp2_with (first | (go_at_call 29; refine (cmp_c _ _ _).mono ?_; rintro e w' ⟨rfl, rfl⟩))
  rw [← hW0]
  clear hW0
  obtain ⟨d1, d2, _, _, _, _⟩ := C.out _ (Below.refl _ _)
  go_big_quiet (first | (go_at_call_of 31 A2; refine Calls.quiet_of_same (first_q (R2.out _ (belD B0.out)))) | (go_at_call_of 31 A1; refine Calls.quiet_of_same (first_q (R1.out _ (belD B0.out)))) | (go_at_call 29; refine Calls.quiet_of_same (cmp_q _ _ _)))
  go_wp2
  have S1 := Lib.hid (R1.out _ B0.out)
  have S2 := Lib.hid (R2.out _ B0.out)
  obtain ⟨W1, hW1⟩ : ∃ W1, W1 = W0.drewN nq := ⟨_, rfl⟩
  have D0 : Below W0.heap.size W0 W1 := by rw [hW1]; exact belD (Below.refl _ _)
  rw [← hW1]
  clear hW1
  obtain ⟨d1, d2, _, _, _, _⟩ := C.out _ D0
  go_region_with (first
    | (go_at_call_of 18 A1; refine (falling_w S1.out hA1 hl1 (by first | assumption | (refine belDr ?_; assumption))).mono ?_; rintro e w' ⟨A', c', rfl, hrow1, hb, hn1⟩; (try (have hrow2 := RowAt.next hn1 hrow2)); obtain ⟨d1, d2, d3, d4, d5, d6⟩ := C.out _ hb)
    | (go_at_call_of 18 A2; refine (falling_w S2.out hA2 hl2 (by first | assumption | (refine belDr ?_; assumption))).mono ?_; rintro e w' ⟨A', c', rfl, hrow2, hb, hn2⟩; (try (have hrow1 := RowAt.next hn2 hrow1)); obtain ⟨d1, d2, d3, d4, d5, d6⟩ := C.out _ hb)
    | (go_at_call 32; refine (compare_w (l := l2) (m := l1) hrow2 hrow1 hl2 hl1).mono ?_; rintro e w' ⟨rfl, rfl⟩))
  all_goals
    rename Below W0.heap.size W0 _ => hb9
    have E := Lib.hid (B0.out.trans (hb9.mono B0.out.size))
    cases hcc : (cmpList (falls l2) (falls l1) == 0) with
    | false =>
      go_wp2
      go_ret
      exact ⟨ret_int (by simp [rank5, beq_eq_false_iff_ne.1 hcc]), E.out⟩
    | true =>
      have he : rank5 l1 sp1 bo1 l2 sp2 bo2 = orI (Lib.compareInt sp2 sp1) (Lib.compareInt bo2 bo1) := by simp [rank5, beq_iff_eq.1 hcc]
      have HE := Lib.hid he; clear he
      go_wp2_with (first | (go_at_call 29; refine (cmp_c _ _ _).mono ?_; rintro e w' ⟨rfl, rfl⟩) | (go_at_call 33; refine (or_at _ (Lib.compareInt sp2 sp1) (Lib.compareInt bo2 bo1) _ _ (heap1 _ _)).mono ?_; rintro e w' ⟨rfl, rfl⟩))
      go_ret
      exact ⟨ret_int HE.out.symm, E.out.alloc E.out.size _⟩
end
end Go.Proofs.Ytbogjhgnnmgiaaa
