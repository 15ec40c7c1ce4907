/- What is known of the table, and the walk of SymbolGood. -/
import Derived.Test.YtlbmahlgbfakeaaRRGe
namespace Go.Proofs.YtlbmahlgbfakeaaRR
open Go.RowKit MR KP

theorem tab_name (N g : Nat) (l : List ByteArray) (i : Nat) (n : Int) (w : World) (h : Tab w N g l) (hi : i < l.length) (hn : n = (i : Int) + 1) :
    Calls Try.prog 12 #[.pointer (some ⟨g, 0, none⟩), .int .i64 n] w fun e w' => e = .returned (.tuple #[.string l[i], .bool true]) ∧ ∃ q, w' = w.drewN q := by
  subst hn
  obtain ⟨F, hI, _⟩ := h
  exact name_yes F N g l i w hI hi
theorem tab_find (N g : Nat) (l : List ByteArray) (s : ByteArray) (w : World) (h : Tab w N g l) :
    Calls Try.prog 11 #[.pointer (some ⟨g, 0, none⟩), .string s] w fun e w' => e = .returned (.tuple #[.int .i64 ((lk (pairs l) s).getD 0), .bool (lk (pairs l) s).isSome]) ∧ w = w' := by
  obtain ⟨F, hI, _⟩ := h
  exact (find_any F N g l s w hI).mono fun _ _ h => ⟨h.1, h.2.symm⟩
theorem tab_len (N g : Nat) (l : List ByteArray) (w : World) (h : Tab w N g l) :
    Calls Try.prog 13 #[.pointer (some ⟨g, 0, none⟩)] w fun e w' => e = .returned (.int .i64 l.length) ∧ w = w' := by
  obtain ⟨F, hI, _⟩ := h
  exact (len_any F N g l w hI).mono fun _ _ h => ⟨h.1, h.2.symm⟩

def sRed : ByteArray := { data := #[114, 101, 100] }
def sBlue : ByteArray := { data := #[98, 108, 117, 101] }
def s1x : ByteArray := { data := #[49, 120] }
def sA1b : ByteArray := { data := #[97, 45, 49, 95, 98] }
theorem k1 : inTab [] sRed = [sRed] ∧ inNum [] sRed = 1 ∧ inErr [] sRed = 0 := by decide +kernel
theorem k2 : inTab [sRed] sBlue = [sRed, sBlue] ∧ inNum [sRed] sBlue = 2 ∧ inErr [sRed] sBlue = 0 := by decide +kernel
theorem k3 : inTab [sRed, sBlue] sRed = [sRed, sBlue] ∧ inNum [sRed, sBlue] sRed = 1 ∧ inErr [sRed, sBlue] sRed = 0 := by decide +kernel
theorem k4 : inTab [sRed, sBlue] s1x = [sRed, sBlue] ∧ inNum [sRed, sBlue] s1x = 0 ∧ inErr [sRed, sBlue] s1x = 2 := by decide +kernel
theorem k5 : lk (pairs [sRed, sBlue]) sBlue = some 2 := by decide +kernel
theorem k6 : goodB sA1b = true := by decide +kernel

theorem c1 (N g : Nat) (w : World) (h : Tab w N g []) (hN : N ≤ w.heap.size) : Calls Try.prog 8 #[.pointer (some ⟨g, 0, none⟩), .string { data := #[114, 101, 100] }] w fun e w' => e = .returned (.tuple #[.int .i64 1, .int .i64 0]) ∧ Tab w' N g [sRed] ∧ Below N w w' := by
  have := tab_intern N g [] sRed w h hN
  rw [k1.1, k1.2.1, k1.2.2] at this
  exact this
theorem c2 (N g : Nat) (w : World) (h : Tab w N g [sRed]) (hN : N ≤ w.heap.size) : Calls Try.prog 8 #[.pointer (some ⟨g, 0, none⟩), .string { data := #[98, 108, 117, 101] }] w fun e w' => e = .returned (.tuple #[.int .i64 2, .int .i64 0]) ∧ Tab w' N g [sRed, sBlue] ∧ Below N w w' := by
  have := tab_intern N g _ sBlue w h hN
  rw [k2.1, k2.2.1, k2.2.2] at this
  exact this
theorem c3 (N g : Nat) (w : World) (h : Tab w N g [sRed, sBlue]) (hN : N ≤ w.heap.size) : Calls Try.prog 8 #[.pointer (some ⟨g, 0, none⟩), .string { data := #[114, 101, 100] }] w fun e w' => e = .returned (.tuple #[.int .i64 1, .int .i64 0]) ∧ Tab w' N g [sRed, sBlue] ∧ Below N w w' := by
  have := tab_intern N g _ sRed w h hN
  rw [k3.1, k3.2.1, k3.2.2] at this
  exact this
theorem c4 (N g : Nat) (w : World) (h : Tab w N g [sRed, sBlue]) (hN : N ≤ w.heap.size) : Calls Try.prog 8 #[.pointer (some ⟨g, 0, none⟩), .string { data := #[49, 120] }] w fun e w' => e = .returned (.tuple #[.int .i64 0, .int .i64 2]) ∧ Tab w' N g [sRed, sBlue] ∧ Below N w w' := by
  have := tab_intern N g _ s1x w h hN
  rw [k4.1, k4.2.1, k4.2.2] at this
  exact this
theorem c5 (N g : Nat) (w : World) (h : Tab w N g [sRed, sBlue]) : Calls Try.prog 12 #[.pointer (some ⟨g, 0, none⟩), .int .i64 2] w fun e w' => e = .returned (.tuple #[.string { data := #[98, 108, 117, 101] }, .bool true]) ∧ ∃ q, w' = w.drewN q :=
  tab_name N g [sRed, sBlue] 1 2 w h (by decide) rfl
theorem c6 (N g : Nat) (w : World) (h : Tab w N g [sRed, sBlue]) : Calls Try.prog 11 #[.pointer (some ⟨g, 0, none⟩), .string { data := #[98, 108, 117, 101] }] w fun e w' => e = .returned (.tuple #[.int .i64 2, .bool true]) ∧ w = w' := by
  have := tab_find N g _ sBlue w h
  rw [k5] at this
  exact this
theorem c7 (N g : Nat) (w : World) (h : Tab w N g [sRed, sBlue]) : Calls Try.prog 13 #[.pointer (some ⟨g, 0, none⟩)] w fun e w' => e = .returned (.int .i64 2) ∧ w = w' := tab_len N g _ w h
theorem c8 (w : World) : Calls Try.prog 10 #[.string { data := #[97, 45, 49, 95, 98] }] w fun e w' => e = .returned (.bool true) ∧ w = w' := by
  have := good_c sA1b w
  rw [k6] at this
  exact this

set_option maxHeartbeats 1000000 in
set_option maxRecDepth 100000 in
theorem known_any (w : World) : Calls Try.prog 6 #[] w fun e w' => e = .returned (.bool true) ∧ Below w.heap.size w w' := by
  go_enter Try.func6, Try.ntmps6
  go_wp2_with fail
  refine (tab_new _).mono ?_
  rintro e w1 ⟨g, rfl, h1, b1⟩
  have H1 := Lib.hid h1; clear h1
  have B1 := Lib.hid b1; clear b1
  go_wp2_with fail
  refine (c1 _ g _ H1.out B1.out.size).mono ?_
  rintro e w2 ⟨rfl, h2, b2⟩
  have H2 := Lib.hid h2; clear h2
  have B2 := Lib.hid (B1.out.trans b2); clear b2
  go_wp2_with fail
  refine (c2 _ g _ H2.out B2.out.size).mono ?_
  rintro e w3 ⟨rfl, h3, b3⟩
  have H3 := Lib.hid h3; clear h3
  have B3 := Lib.hid (B2.out.trans b3); clear b3
  go_wp2_with fail
  refine (c3 _ g _ H3.out B3.out.size).mono ?_
  rintro e w4 ⟨rfl, h4, b4⟩
  have H4 := Lib.hid h4; clear h4
  have B4 := Lib.hid (B3.out.trans b4); clear b4
  go_wp2_with fail
  refine (c4 _ g _ H4.out B4.out.size).mono ?_
  rintro e w5 ⟨rfl, h5, b5⟩
  have H5 := Lib.hid h5; clear h5
  have B5 := Lib.hid (B4.out.trans b5); clear b5
  go_wp2_with fail
  refine (c5 _ g _ H5.out).mono ?_
  rintro e w6 ⟨rfl, q, rfl⟩
  go_wp2_with fail
  refine (c6 _ g _ (H5.out.drewN q)).mono ?_
  rintro e w6 ⟨rfl, rfl⟩
  go_wp2_with fail
  refine (c7 _ g _ (H5.out.drewN q)).mono ?_
  rintro e w6 ⟨rfl, rfl⟩
  go_wp2_with fail
  refine (c8 _).mono ?_
  rintro e w6 ⟨rfl, rfl⟩
  go_wp2_with fail
  go_ret
  exact ⟨rfl, ⟨B5.out.os, B5.out.tape, B5.out.output, B5.out.size, B5.out.block⟩⟩
end Go.Proofs.YtlbmahlgbfakeaaRR
