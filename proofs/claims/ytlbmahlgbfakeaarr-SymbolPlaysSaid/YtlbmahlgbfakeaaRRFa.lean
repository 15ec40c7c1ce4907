/- The walk of SymbolFull. -/
import Derived.Test.YtlbmahlgbfakeaaRRFn
namespace Go.Proofs.YtlbmahlgbfakeaaRR
open Go.RowKit MR KP

theorem conv3 (w : World) (a b c : Int) : (convert 36 9 (.slice (some ⟨w.heap.size, 0, none⟩) 3 3)).run Try.prog (w.alloc (.cells #[.int .u8 a, .int .u8 b, .int .u8 c] 5)) = .ok (.string (strOfNums [a, b, c])) (w.alloc (.cells #[.int .u8 a, .int .u8 b, .int .u8 c] 5)) :=
  run_convert_bytes_arg (P := Try.prog) (w.alloc (.cells #[.int .u8 a, .int .u8 b, .int .u8 c] 5)) 36 5 Try.underlying36 Try.underlying5 w.heap.size 0 3 3 [a, b, c] rfl (by
    intro i hi
    match i, hi with
    | 0, _ => simp
    | 1, _ => simp
    | 2, _ => simp) 9 Try.underlying9

theorem Tab.alloc {w : World} {N g : Nat} {l : List ByteArray} (h : Tab w N g l) (o : Obj) : Tab (w.alloc o) N g l := by
  obtain ⟨F, hI, hF⟩ := h
  obtain ⟨m, v, a1, a2, a3, a4, a5, a6⟩ := hI.ex
  exact ⟨F, ⟨m, v, a1, a2, a3, (Below.heap_alloc w o g (Array.getElem?_eq_some_iff.1 a4).1).trans a4, a5.move (Below.heap_alloc w o m a5.lt), a6.alloc o⟩, fun k hk => ⟨(hF k hk).1, by have := (hF k hk).2; simp; omega⟩⟩

theorem cl (N g k : Nat) (w : World) (h : Tab w N g (nms k)) (hk : k < 4096) (hN : N ≤ w.heap.size) : Calls Try.prog 8 #[.pointer (some ⟨g, 0, none⟩), .string ({ data := #[110] } ++ strOfNums [97 + (k : Int) / 676 % 26, 97 + (k : Int) / 26 % 26, 97 + (k : Int) % 26])] w fun e w' => e = .returned (.tuple #[.int .i64 ((k : Int) + 1), .int .i64 0]) ∧ Tab w' N g (nms (k + 1)) ∧ Below N w w' := by
  have := tab_intern N g (nms k) (nm k) w h hN
  rw [(step_less hk).1, (step_less hk).2.1, (step_less hk).2.2] at this
  exact this
theorem cm (N g k : Nat) (w : World) (h : Tab w N g (nms k)) (hk : 4096 ≤ k) (hk2 : k < 4116) (hN : N ≤ w.heap.size) : Calls Try.prog 8 #[.pointer (some ⟨g, 0, none⟩), .string ({ data := #[110] } ++ strOfNums [97 + (k : Int) / 676 % 26, 97 + (k : Int) / 26 % 26, 97 + (k : Int) % 26])] w fun e w' => e = .returned (.tuple #[.int .i64 0, .int .i64 10]) ∧ Tab w' N g (nms (k + 1)) ∧ Below N w w' := by
  have := tab_intern N g (nms k) (nm k) w h hN
  rw [(step_more hk hk2).1, (step_more hk hk2).2.1, (step_more hk hk2).2.2] at this
  exact this
theorem ce (N g k : Nat) (w : World) (h : Tab w N g (nms k)) (hk : 4096 ≤ k) (hN : N ≤ w.heap.size) : Calls Try.prog 8 #[.pointer (some ⟨g, 0, none⟩), .string { data := #[110, 97, 97, 97] }] w fun e w' => e = .returned (.tuple #[.int .i64 1, .int .i64 0]) ∧ Tab w' N g (nms k) ∧ Below N w w' := by
  have := tab_intern N g (nms k) { data := #[110, 97, 97, 97] } w h hN
  rw [(step_last hk).1, (step_last hk).2.1, (step_last hk).2.2] at this
  exact this
theorem cn (N g k : Nat) (w : World) (h : Tab w N g (nms k)) (hk : 4096 ≤ k) : Calls Try.prog 13 #[.pointer (some ⟨g, 0, none⟩)] w fun e w' => e = .returned (.int .i64 4096) ∧ w = w' := by
  have := tab_len N g (nms k) w h
  rw [nms_len, show min k 4096 = 4096 by omega] at this
  exact this

set_option maxHeartbeats 1000000 in
set_option maxRecDepth 100000 in
theorem symbolFull_in (v : Nat) (hv : v ≤ 20) (w : World) : Calls Try.prog 4 #[.int .i64 v] w fun e w' => e = .returned (.bool true) ∧ Below w.heap.size w w' := by
  go_enter Try.func4, Try.ntmps4
  go_wp2_with fail
  refine (known_any _).mono ?_
  rintro e w1 ⟨rfl, b1⟩
  have B1 := Lib.hid b1; clear b1
  go_wp2_with fail
  refine (tab_new _).mono ?_
  rintro e w2 ⟨g, rfl, h2, b2⟩
  have H2 := Lib.hid h2; clear h2
  have B2 := Lib.hid b2; clear b2
  go_wp2
  go_loopw [4] (fun i wr => ∃ k : Nat, k ≤ 4096 + v ∧ i = .int .i64 k ∧ Hid (Tab wr w1.heap.size g (nms k)) ∧ Hid (Below w1.heap.size w1 wr)) (fun i _ => 4096 + v - (intOf i).toNat)
  case atStart => exact ⟨0, by omega, rfl, H2, B2⟩
  case round =>
    obtain ⟨k, hk, rfl, hT, hB⟩ := hrel
    by_cases hlt : k < 4096 + v
    · have hc := conv3 wr (97 + (k : Int) / 676 % 26) (97 + (k : Int) / 26 % 26) (97 + (k : Int) % 26)
      by_cases hl : k < 4096
      · go_wp2_with fail
        refine (cl w1.heap.size g k _ (hT.out.alloc _) hl (Nat.le_trans hB.out.size (by simp))).mono ?_
        rintro e w3 ⟨rfl, h3, b3⟩
        have H3 := Lib.hid h3; clear h3
        have B3 := Lib.hid ((hB.out.alloc hB.out.size _).trans b3); clear b3
        clear hc
        go_wp2
        go_roundw
        case rel => exact ⟨k + 1, by omega, by go_num, H3, B3⟩
        case measure => simp [intOf]; omega
      · have hl2 : 4096 ≤ k := by omega
        go_wp2_with fail
        refine (cm w1.heap.size g k _ (hT.out.alloc _) hl2 (by omega) (Nat.le_trans hB.out.size (by simp))).mono ?_
        rintro e w3 ⟨rfl, h3, b3⟩
        have H3 := Lib.hid h3; clear h3
        have B3 := Lib.hid ((hB.out.alloc hB.out.size _).trans b3); clear b3
        clear hc
        go_wp2
        go_roundw
        case rel => exact ⟨k + 1, by omega, by go_num, H3, B3⟩
        case measure => simp [intOf]; omega
    · have hl2 : 4096 ≤ k := by omega
      go_wp2_with fail
      refine (ce w1.heap.size g k _ hT.out hl2 hB.out.size).mono ?_
      rintro e w3 ⟨rfl, h3, b3⟩
      have H3 := Lib.hid h3; clear h3
      have B3 := Lib.hid (hB.out.trans b3); clear b3
      go_wp2_with fail
      refine (cn w1.heap.size g k _ H3.out hl2).mono ?_
      rintro e w4 ⟨rfl, rfl⟩
      go_wp2_with fail
      go_ret
      exact ⟨rfl, B1.out.trans (B3.out.mono B1.out.size)⟩

set_option maxHeartbeats 400000 in
theorem symbolFull_out (n : Int) (hn : n < 0 ∨ 20 < n) (w : World) : Calls Try.prog 4 #[.int .i64 n] w fun e w' => e = .returned (.bool true) ∧ Below w.heap.size w w' := by
  rcases hn with hn | hn
  · go_enter Try.func4, Try.ntmps4
    go_wp2_with fail
    refine (known_any _).mono ?_
    rintro e w1 ⟨rfl, b1⟩
    have B1 := Lib.hid b1; clear b1
    go_wp2_with fail
    go_ret
    exact ⟨rfl, B1.out⟩
  · have hn0 : 0 ≤ n := by omega
    go_enter Try.func4, Try.ntmps4
    go_wp2_with fail
    refine (known_any _).mono ?_
    rintro e w1 ⟨rfl, b1⟩
    have B1 := Lib.hid b1; clear b1
    go_wp2_with fail
    go_ret
    exact ⟨rfl, B1.out⟩

theorem symbolFull_any (n : Int) (w : World) (_ : (Lit.int .i64 n).wf = true) : Calls Try.prog 4 #[.int .i64 n] w fun e w' => e = .returned (.bool true) ∧ Below w.heap.size w w' := by
  by_cases h : n < 0 ∨ 20 < n
  · exact symbolFull_out n h w
  · obtain ⟨v, rfl⟩ := Int.eq_ofNat_of_zero_le (show 0 ≤ n by omega)
    exact symbolFull_in v (by omega) w
end Go.Proofs.YtlbmahlgbfakeaaRR
