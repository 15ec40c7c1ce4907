/- The walk of SymbolGood. -/
import Derived.Test.YtlbmahlgbfakeaaRRGf
namespace Go.Proofs.YtlbmahlgbfakeaaRR
open Go.RowKit MR KP

theorem rgood_c (s : ByteArray) (w : World) : Calls Try.prog 9 #[.string s] w fun e w' => e = .returned (.bool (goodB s)) ∧ w = w' := (rgood_any s w).mono fun _ _ h => ⟨h.1, h.2.symm⟩
theorem one_good {s : ByteArray} (h : goodB s = true) : inTab [] s = [s] ∧ inNum [] s = 1 ∧ inErr [] s = 0 := by
  simp [inTab, inNum, inErr, h, pairs, pairsFrom, lk]
theorem one_bad {s : ByteArray} (h : goodB s = false) : inTab [] s = [] ∧ inNum [] s = 0 ∧ inErr [] s = 2 := by
  simp [inTab, inNum, inErr, h]
theorem lk_one (s : ByteArray) : lk (pairs [s]) s = some 1 := by simp [pairs, pairsFrom, lk]

set_option maxHeartbeats 1000000 in
set_option maxRecDepth 100000 in
theorem symbolGood_any (s : ByteArray) (w : World) : Calls Try.prog 5 #[.string s] w fun e w' => e = .returned (.bool true) ∧ Below w.heap.size w w' := by
  by_cases h2 : 200 < s.size
  · go_enter Try.func5, Try.ntmps5
    go_wp2_with fail
    refine (known_any _).mono ?_
    rintro e w1 ⟨rfl, b1⟩
    have B1 := Lib.hid b1; clear b1
    go_wp2_with fail
    go_ret
    exact ⟨rfl, B1.out⟩
  · cases hg : goodB s with
    | true =>
      have c1 : ∀ (N g : Nat) (w : World) (h : Tab w N g []) (hN : N ≤ w.heap.size), Calls Try.prog 8 #[.pointer (some ⟨g, 0, none⟩), .string s] w fun e w' => e = .returned (.tuple #[.int .i64 1, .int .i64 0]) ∧ Tab w' N g [s] ∧ Below N w w' := by
        intro N g w h hN
        have := tab_intern N g [] s w h hN
        rw [(one_good hg).1, (one_good hg).2.1, (one_good hg).2.2] at this
        exact this
      have c2 : ∀ (N g : Nat) (w : World) (h : Tab w N g [s]), Calls Try.prog 11 #[.pointer (some ⟨g, 0, none⟩), .string s] w fun e w' => e = .returned (.tuple #[.int .i64 1, .bool true]) ∧ w = w' := by
        intro N g w h
        have := tab_find N g _ s w h
        rw [lk_one] at this
        exact this
      have C1 := Lib.hid c1; clear c1
      have C2 := Lib.hid c2; clear c2
      go_enter Try.func5, Try.ntmps5
      go_wp2_with fail
      refine (known_any _).mono ?_
      rintro e w1 ⟨rfl, b1⟩
      have B1 := Lib.hid b1; clear b1
      go_wp2_with fail
      refine (tab_new _).mono ?_
      rintro e w2 ⟨g, rfl, h2, b2⟩
      have H2 := Lib.hid h2; clear h2
      have B2 := Lib.hid b2; clear b2
      go_wp2_with fail
      refine (C1.out _ g _ H2.out B2.out.size).mono ?_
      rintro e w3 ⟨rfl, h3, b3⟩
      have H3 := Lib.hid h3; clear h3
      have B3 := Lib.hid (B1.out.trans ((B2.out.trans b3).mono B1.out.size)); clear b3
      go_wp2_with fail
      refine (C2.out _ g _ H3.out).mono ?_
      rintro e w6 ⟨rfl, rfl⟩
      go_wp2_with (first | (go_at_call 10; refine (good_c _ _).mono ?_; rintro e w6 ⟨rfl, rfl⟩) | (go_at_call 9; refine (rgood_c _ _).mono ?_; rintro e w6 ⟨rfl, rfl⟩))
      go_ret
      exact ⟨rfl, B3.out⟩
    | false =>
      have c1 : ∀ (N g : Nat) (w : World) (h : Tab w N g []) (hN : N ≤ w.heap.size), Calls Try.prog 8 #[.pointer (some ⟨g, 0, none⟩), .string s] w fun e w' => e = .returned (.tuple #[.int .i64 0, .int .i64 2]) ∧ Tab w' N g [] ∧ Below N w w' := by
        intro N g w h hN
        have := tab_intern N g [] s w h hN
        rw [(one_bad hg).1, (one_bad hg).2.1, (one_bad hg).2.2] at this
        exact this
      have c2 : ∀ (N g : Nat) (w : World) (h : Tab w N g []), Calls Try.prog 11 #[.pointer (some ⟨g, 0, none⟩), .string s] w fun e w' => e = .returned (.tuple #[.int .i64 0, .bool false]) ∧ w = w' := fun N g w h => tab_find N g [] s w h
      have C1 := Lib.hid c1; clear c1
      have C2 := Lib.hid c2; clear c2
      go_enter Try.func5, Try.ntmps5
      go_wp2_with fail
      refine (known_any _).mono ?_
      rintro e w1 ⟨rfl, b1⟩
      have B1 := Lib.hid b1; clear b1
      go_wp2_with fail
      refine (tab_new _).mono ?_
      rintro e w2 ⟨g, rfl, h2, b2⟩
      have H2 := Lib.hid h2; clear h2
      have B2 := Lib.hid b2; clear b2
      go_wp2_with fail
      refine (C1.out _ g _ H2.out B2.out.size).mono ?_
      rintro e w3 ⟨rfl, h3, b3⟩
      have H3 := Lib.hid h3; clear h3
      have B3 := Lib.hid (B1.out.trans ((B2.out.trans b3).mono B1.out.size)); clear b3
      go_wp2_with fail
      refine (C2.out _ g _ H3.out).mono ?_
      rintro e w6 ⟨rfl, rfl⟩
      go_wp2_with (first | (go_at_call 10; refine (good_c _ _).mono ?_; rintro e w6 ⟨rfl, rfl⟩) | (go_at_call 9; refine (rgood_c _ _).mono ?_; rintro e w6 ⟨rfl, rfl⟩))
      go_ret
      exact ⟨rfl, B3.out⟩
end Go.Proofs.YtlbmahlgbfakeaaRR
