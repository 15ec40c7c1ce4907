/- StratSalience. -/
import Derived.Test.YtbogjhgnnmgiaaaSi
import Derived.Deep.RegionHeld3
namespace Go.Proofs.Ytbogjhgnnmgiaaa
open Go.Shelf Go.RowKit Go.Lib

set_option maxHeartbeats 2000000 in
theorem stratSalience_any (s : Int) (a b : AV) (w : World) (_ : (Lit.int .i64 s).wf = true) (ra : RowAt w (Value.int .i64) a.A a.l) (na : a.A = none → a.c = 0) (rb : RowAt w (Value.int .i64) b.A b.l) (nb : b.A = none → b.c = 0) : Calls Try.prog 5 #[.int .i64 s, a.v, b.v] w fun e w' => e = .returned (.bool true) ∧ Below w.heap.size w w' := by
  obtain ⟨W0, hW0⟩ : ∃ W0, W0 = (w.alloc (.cells a.cs 24)).alloc (.cells b.cs 24) := ⟨_, rfl⟩
  have hC := boxed2 w a b
  have hB := bel2 w (.cells a.cs 24) (.cells b.cs 24)
  rw [← hW0] at hC hB
  have C := Lib.hid hC; clear hC
  have OA := Lib.hid (fun h => (⟨ra.below hB, na, h⟩ : a.ok W0))
  have OB := Lib.hid (fun h => (⟨rb.below hB, nb, h⟩ : b.ok W0))
  have B0 := Lib.hid hB; clear hB
  clear ra rb na nb
  go_enter Try.func5, Try.ntmps5
  go_wp2_with fail
  rw [← hW0]
  refine (known_w (Below.refl W0.heap.size W0)).mono ?_
  rintro e w1 ⟨rfl, b1⟩
  clear hW0
  have E1 := Lib.hid b1
  obtain ⟨⟨_, _, _, _, _, _, _⟩, ⟨_, _, _, _, _, _, _⟩⟩ := C.out _ b1
  clear b1
  go_wp2_with fail
  refine (few_w a E1.out).mono ?_
  cases ha : decide ((a.l.length : Int) ≤ 40) with
  | false =>
    rintro e w2 ⟨rfl, b2⟩
    have E2 := Lib.hid b2; clear b2
    go_wp2_with fail
    go_ret
    exact ⟨rfl, B0.out.trans (E2.out.mono B0.out.size)⟩
  | true =>
    rintro e w2 ⟨rfl, b2⟩
    have E2 := Lib.hid b2
    obtain ⟨⟨_, _, _, _, _, _, _⟩, ⟨_, _, _, _, _, _, _⟩⟩ := C.out _ b2
    clear b2
    go_wp2_with fail
    refine (few_w b E2.out).mono ?_
    cases hb : decide ((b.l.length : Int) ≤ 40) with
    | false =>
      rintro e w3 ⟨rfl, b3⟩
      have E3 := Lib.hid b3; clear b3
      go_wp2_with fail
      go_ret
      exact ⟨rfl, B0.out.trans (E3.out.mono B0.out.size)⟩
    | true =>
      rintro e w3 ⟨rfl, b3⟩
      have E3 := Lib.hid b3
      obtain ⟨⟨_, _, _, _, _, _, _⟩, ⟨_, _, _, _, _, _, _⟩⟩ := C.out _ b3
      clear b3
      have OA := Lib.hid (OA.out (by have := of_decide_eq_true ha; omega))
      have OB := Lib.hid (OB.out (by have := of_decide_eq_true hb; omega))
      by_cases hs : a.sa = b.sa
      · have hs2 : (a.sa == b.sa) = true := by simpa using hs
        clear hs
        go_wp2_with fail
        go_ret
        exact ⟨rfl, B0.out.trans (E3.out.mono B0.out.size)⟩
      · have hs2 : (a.sa == b.sa) = false := beq_eq_false_iff_ne.2 hs
        have hS := Lib.hid (sal_before s a b hs); clear hs
        go_wp2_with fail
        have K : Hid (∀ w', Below W0.heap.size W0 w' → (Below W0.heap.size W0 w' ∧ w'.cell? ⟨w.heap.size, 0, none⟩ = some (.int .i64 a.r) ∧ w'.cell? ⟨w.heap.size, 1, none⟩ = some (.int .i64 a.al) ∧ w'.cell? ⟨w.heap.size, 2, none⟩ = some (.slice a.A a.l.length a.c) ∧ w'.cell? ⟨w.heap.size, 3, none⟩ = some (.int .i64 a.sa) ∧ w'.cell? ⟨w.heap.size, 4, none⟩ = some (.int .i64 a.sp) ∧ w'.cell? ⟨w.heap.size, 5, none⟩ = some (.int .i64 a.bo) ∧ w'.cell? ⟨w.heap.size, 6, none⟩ = some (.int .i64 a.ke) ∧ w'.cell? ⟨w.heap.size + 1, 0, none⟩ = some (.int .i64 b.r) ∧ w'.cell? ⟨w.heap.size + 1, 1, none⟩ = some (.int .i64 b.al) ∧ w'.cell? ⟨w.heap.size + 1, 2, none⟩ = some (.slice b.A b.l.length b.c) ∧ w'.cell? ⟨w.heap.size + 1, 3, none⟩ = some (.int .i64 b.sa) ∧ w'.cell? ⟨w.heap.size + 1, 4, none⟩ = some (.int .i64 b.sp) ∧ w'.cell? ⟨w.heap.size + 1, 5, none⟩ = some (.int .i64 b.bo) ∧ w'.cell? ⟨w.heap.size + 1, 6, none⟩ = some (.int .i64 b.ke))) := Lib.hid (fun w' h => by
          obtain ⟨⟨h0, h1, h2, h3, h4, h5, h6⟩, g0, g1, g2, g3, g4, g5, g6⟩ := C.out _ h
          exact ⟨h, h0, h1, h2, h3, h4, h5, h6, g0, g1, g2, g3, g4, g5, g6⟩)
        have D0 := belDr E3.out
        go_region_held3 (fun w' => Below W0.heap.size W0 w' ∧ w'.cell? ⟨w.heap.size, 0, none⟩ = some (.int .i64 a.r) ∧ w'.cell? ⟨w.heap.size, 1, none⟩ = some (.int .i64 a.al) ∧ w'.cell? ⟨w.heap.size, 2, none⟩ = some (.slice a.A a.l.length a.c) ∧ w'.cell? ⟨w.heap.size, 3, none⟩ = some (.int .i64 a.sa) ∧ w'.cell? ⟨w.heap.size, 4, none⟩ = some (.int .i64 a.sp) ∧ w'.cell? ⟨w.heap.size, 5, none⟩ = some (.int .i64 a.bo) ∧ w'.cell? ⟨w.heap.size, 6, none⟩ = some (.int .i64 a.ke) ∧ w'.cell? ⟨w.heap.size + 1, 0, none⟩ = some (.int .i64 b.r) ∧ w'.cell? ⟨w.heap.size + 1, 1, none⟩ = some (.int .i64 b.al) ∧ w'.cell? ⟨w.heap.size + 1, 2, none⟩ = some (.slice b.A b.l.length b.c) ∧ w'.cell? ⟨w.heap.size + 1, 3, none⟩ = some (.int .i64 b.sa) ∧ w'.cell? ⟨w.heap.size + 1, 4, none⟩ = some (.int .i64 b.sp) ∧ w'.cell? ⟨w.heap.size + 1, 5, none⟩ = some (.int .i64 b.bo) ∧ w'.cell? ⟨w.heap.size + 1, 6, none⟩ = some (.int .i64 b.ke)) (first | exact K.out _ (by assumption))
          (first
            | (go_at_call 12; refine (before_w s a b OA.out OB.out (by first | assumption | (refine belDr ?_; assumption))).mono ?_; rintro e w' ⟨rfl, hb9⟩))
        all_goals
          rename Below W0.heap.size W0 _ => hb9
          have E := Lib.hid (B0.out.trans (hb9.mono B0.out.size))
          go_wp2
          go_ret
          exact ⟨ret_bool (by rw [hS.out]; simp), E.out⟩
end Go.Proofs.Ytbogjhgnnmgiaaa
