/- StratThree: the walk. -/
import Derived.Test.YtbogjhgnnmgiaaaSk
namespace Go.Proofs.Ytbogjhgnnmgiaaa
open Go.Shelf Go.RowKit Go.Lib

theorem boxed3 (w : World) (a b c : AV) (W0 : World) (h0 : W0 = ((w.alloc (.cells a.cs 24)).alloc (.cells b.cs 24)).alloc (.cells c.cs 24)) : ∀ W, Below W0.heap.size W0 W → Boxed W w.heap.size a ∧ Boxed W (w.heap.size + 1) b ∧ Boxed W (w.heap.size + 1 + 1) c := by
  intro W hW
  have e : W0.heap = ((w.heap.push (.cells a.cs 24)).push (.cells b.cs 24)).push (.cells c.cs 24) := by rw [h0]; rfl
  have h1 : W0.heap[w.heap.size]? = some (.cells a.cs 24) := by
    rw [e]; simp only [Array.getElem?_push, Array.size_push]; grind
  have h2 : W0.heap[w.heap.size + 1]? = some (.cells b.cs 24) := by
    rw [e]; simp only [Array.getElem?_push, Array.size_push]; grind
  have h3 : W0.heap[w.heap.size + 1 + 1]? = some (.cells c.cs 24) := by
    rw [e]; simp only [Array.getElem?_push, Array.size_push]; grind
  exact ⟨(boxed_of h1).below hW (Array.getElem?_eq_some_iff.1 h1).1, (boxed_of h2).below hW (Array.getElem?_eq_some_iff.1 h2).1, (boxed_of h3).below hW (Array.getElem?_eq_some_iff.1 h3).1⟩

set_option maxHeartbeats 2000000 in
theorem stratThree_any (s : Int) (a b c : AV) (w : World) (_ : (Lit.int .i64 s).wf = true) (ra : RowAt w (Value.int .i64) a.A a.l) (na : a.A = none → a.c = 0) (rb : RowAt w (Value.int .i64) b.A b.l) (nb : b.A = none → b.c = 0) (rc : RowAt w (Value.int .i64) c.A c.l) (nc : c.A = none → c.c = 0) :
    Calls Try.prog 4 #[.int .i64 s, a.v, b.v, c.v] w fun e w' => e = .returned (.bool true) ∧ Below w.heap.size w w' := by
  obtain ⟨W0, hW0⟩ : ∃ W0, W0 = ((w.alloc (.cells a.cs 24)).alloc (.cells b.cs 24)).alloc (.cells c.cs 24) := ⟨_, rfl⟩
  have C := Lib.hid (boxed3 w a b c W0 hW0)
  have hB := bel3 w (.cells a.cs 24) (.cells b.cs 24) (.cells c.cs 24)
  rw [← hW0] at hB
  have OA := Lib.hid (fun h => (⟨ra.below hB, na, h⟩ : a.ok W0))
  have OB := Lib.hid (fun h => (⟨rb.below hB, nb, h⟩ : b.ok W0))
  have OC := Lib.hid (fun h => (⟨rc.below hB, nc, h⟩ : c.ok W0))
  have HT := Lib.hid (before_trans s a b c)
  have B0 := Lib.hid hB; clear hB
  clear ra rb na nb rc nc
  go_enter Try.func4, Try.ntmps4
  go_wp2_with fail
  rw [← hW0]
  refine (known_w (Below.refl W0.heap.size W0)).mono ?_
  rintro e w1 ⟨rfl, b1⟩
  clear hW0
  have E1 := Lib.hid b1
  obtain ⟨⟨_, _, _, _, _, _, _⟩, ⟨_, _, _, _, _, _, _⟩, ⟨_, _, _, _, _, _, _⟩⟩ := C.out _ b1
  clear b1
  go_wp2_with fail
  refine (few_w a E1.out).mono ?_
  cases ha : decide ((a.l.length : Int) ≤ 40) with
  | false =>
    rintro e w2 ⟨rfl, b2⟩
    have E2 := Lib.hid b2; clear b2
    go_wp2_with fail
    go_ret
    exact ⟨rfl, B0.out.trans (E2.out.mono B0.out.size)⟩
  | true =>
    rintro e w2 ⟨rfl, b2⟩
    have E2 := Lib.hid b2
    obtain ⟨⟨_, _, _, _, _, _, _⟩, ⟨_, _, _, _, _, _, _⟩, ⟨_, _, _, _, _, _, _⟩⟩ := C.out _ b2
    clear b2
    go_wp2_with fail
    refine (few_w b E2.out).mono ?_
    cases hb : decide ((b.l.length : Int) ≤ 40) with
    | false =>
      rintro e w3 ⟨rfl, b3⟩
      have E3 := Lib.hid b3; clear b3
      go_wp2_with fail
      go_ret
      exact ⟨rfl, B0.out.trans (E3.out.mono B0.out.size)⟩
    | true =>
      rintro e w3 ⟨rfl, b3⟩
      have E3 := Lib.hid b3
      obtain ⟨⟨_, _, _, _, _, _, _⟩, ⟨_, _, _, _, _, _, _⟩, ⟨_, _, _, _, _, _, _⟩⟩ := C.out _ b3
      clear b3
      go_wp2_with fail
      refine (few_w c E3.out).mono ?_
      cases hc : decide ((c.l.length : Int) ≤ 40) with
      | false =>
        rintro e w4 ⟨rfl, b4⟩
        have E4 := Lib.hid b4; clear b4
        go_wp2_with fail
        go_ret
        exact ⟨rfl, B0.out.trans (E4.out.mono B0.out.size)⟩
      | true =>
        rintro e w4 ⟨rfl, b4⟩
        have E4 := Lib.hid b4
        obtain ⟨⟨_, _, _, _, _, _, _⟩, ⟨_, _, _, _, _, _, _⟩, ⟨_, _, _, _, _, _, _⟩⟩ := C.out _ b4
        clear b4
        have OA := Lib.hid (OA.out (by have := of_decide_eq_true ha; omega))
        have OB := Lib.hid (OB.out (by have := of_decide_eq_true hb; omega))
        have OC := Lib.hid (OC.out (by have := of_decide_eq_true hc; omega))
        go_wp2_with fail
        refine (before_w s a b OA.out OB.out E4.out).mono ?_
        cases hab : before s a b with
        | false =>
          rintro e w5 ⟨rfl, b5⟩
          have E5 := Lib.hid b5
          obtain ⟨⟨_, _, _, _, _, _, _⟩, ⟨_, _, _, _, _, _, _⟩, ⟨_, _, _, _, _, _, _⟩⟩ := C.out _ b5
          clear b5
          go_wp2_with fail
          refine (before_w s b c OB.out OC.out E5.out).mono ?_
          rintro e w6 ⟨rfl, b6⟩
          have E6 := Lib.hid b6
          obtain ⟨⟨_, _, _, _, _, _, _⟩, ⟨_, _, _, _, _, _, _⟩, ⟨_, _, _, _, _, _, _⟩⟩ := C.out _ b6
          clear b6
          go_wp2_with fail
          go_ret
          exact ⟨rfl, B0.out.trans (E6.out.mono B0.out.size)⟩
        | true =>
          rintro e w5 ⟨rfl, b5⟩
          have E5 := Lib.hid b5
          obtain ⟨⟨_, _, _, _, _, _, _⟩, ⟨_, _, _, _, _, _, _⟩, ⟨_, _, _, _, _, _, _⟩⟩ := C.out _ b5
          clear b5
          go_wp2_with fail
          refine (before_w s b c OB.out OC.out E5.out).mono ?_
          cases hbc : before s b c with
          | false =>
            rintro e w6 ⟨rfl, b6⟩
            have E6 := Lib.hid b6
            obtain ⟨⟨_, _, _, _, _, _, _⟩, ⟨_, _, _, _, _, _, _⟩, ⟨_, _, _, _, _, _, _⟩⟩ := C.out _ b6
            clear b6
            go_wp2_with fail
            go_ret
            exact ⟨rfl, B0.out.trans (E6.out.mono B0.out.size)⟩
          | true =>
            rintro e w6 ⟨rfl, b6⟩
            have E6 := Lib.hid b6
            obtain ⟨⟨_, _, _, _, _, _, _⟩, ⟨_, _, _, _, _, _, _⟩, ⟨_, _, _, _, _, _, _⟩⟩ := C.out _ b6
            clear b6
            go_wp2_with fail
            refine (before_w s a c OA.out OC.out E6.out).mono ?_
            rw [HT.out hab hbc]
            rintro e w7 ⟨rfl, b7⟩
            have E7 := Lib.hid b7
            obtain ⟨⟨_, _, _, _, _, _, _⟩, ⟨_, _, _, _, _, _, _⟩, ⟨_, _, _, _, _, _, _⟩⟩ := C.out _ b7
            clear b7
            go_wp2_with fail
            go_ret
            exact ⟨rfl, B0.out.trans (E7.out.mono B0.out.size)⟩
end Go.Proofs.Ytbogjhgnnmgiaaa
