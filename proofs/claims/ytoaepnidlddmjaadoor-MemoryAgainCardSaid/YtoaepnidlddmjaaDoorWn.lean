/- MemoryAgain. -/
import Derived.Test.YtoaepnidlddmjaaDoorWm
namespace Go.Proofs.YtoaepnidlddmjaaDoor
open Go.RowKit Go.Lib KP MR RW
set_option maxRecDepth 100000 in
set_option maxHeartbeats 4000000 in
theorem memoryAgain_any (n : Int) (w : World) (ht : Tab w) (hw : (Lit.int .u8 n).wf = true) : Calls Tryd.prog 5 #[.int .u8 n] w fun e w' => e = .returned (.bool true) ∧ Below w.heap.size w w' := by
  have hn : 0 ≤ n ∧ n ≤ 255 := by
    have := hw
    simp only [Lit.wf, Bool.and_eq_true, decide_eq_true_eq] at this
    exact this
  obtain ⟨hn1, hn2⟩ := hn
  have HT := Lib.hid ht
  have o1 : okI 1 := okI_small (by omega)
  have O1 := Lib.hid o1
  have hm1 : 0 ≤ n % 100 := by omega
  have hm2 : n % 100 ≤ 99 := by omega
  clear ht o1 hw
  go_enter Tryd.func5, Tryd.ntmps5
  go_wp2_with fail
  refine (known_c w HT.out).mono ?_
  rintro e w1 ⟨rfl, b1⟩
  have E1 := Lib.hid b1; clear b1
  go_wp2_with fail
  refine (new_c w1).mono ?_
  rintro e w2 ⟨g, F2, rfl, i2, _⟩
  have T1 := Lib.hid (HT.out.b E1.out)
  have I2 := Lib.hid i2; clear i2
  go_wp2_with fail
  go_loopw [4] (fun i wr => ∃ k : Nat, (k : Int) ≤ n % 100 ∧ i = .int .i64 ((k : Int) + 1) ∧ Hid (∃ F, Inv w1.heap.size w1 F g [] ((k : Int) + 1) wr)) (fun i _ => (100 - RowKit.intOf i).toNat)
  case atStart => exact ⟨0, by omega, rfl, Lib.hid ⟨_, I2.out⟩⟩
  case round =>
    obtain ⟨k, hk, rfl, hI⟩ := hrel
    obtain ⟨F, i3⟩ := hI.out
    have I3 := Lib.hid i3
    clear i3 hI
    have EW := Lib.hid (E1.out.trans (I3.out.below.mono E1.out.size))
    by_cases hlt : (k : Int) < n % 100
    · have hlt1 : (k : Int) + 1 ≤ n % 100 := by omega
      go_wp2_with fail
      refine (rInt_c 1 wr).mono ?_
      rintro e w4 ⟨rfl, b4⟩
      have I4 := Lib.hid (I3.out.grow b4 I3.out.size); clear b4
      go_wp2_with fail
      refine (assertI_new ⟨#[116]⟩ (by decide) 1 O1.out rfl (by decide) (by omega) I4.out (I4.out.tab T1.out)).mono ?_
      rintro e w5 ⟨F5, rfl, i5, _, _⟩
      have I5 := Lib.hid (show Inv w1.heap.size w1 F5 g [((k : Int) + 1, ⟨#[116]⟩, [vI 1])] ((k : Int) + 1 + 1) w5 from i5); clear i5
      go_wp2_with fail
      refine (next_c I5.out).mono ?_
      rintro e w6 ⟨rfl, rfl⟩
      go_wp2_with fail
      refine (retract_yes ((k : Int) + 1) I5.out ⟨_, List.mem_cons_self, rfl⟩ (I5.out.tab T1.out)).mono ?_
      rintro e w7 ⟨rfl, i7, _⟩
      have I7 := Lib.hid (show Inv w1.heap.size w1 F5 g [] ((k : Int) + 1 + 1) w7 by simpa using i7); clear i7
      go_wp2_with fail
      refine (retract_no ((k : Int) + 1) I7.out (fun t h => by cases h)).mono ?_
      rintro e w8 ⟨rfl, b8⟩
      have I8 := Lib.hid (I7.out.grow b8 I7.out.size); clear b8
      go_wp2_with fail
      go_roundw
      case rel => exact ⟨k + 1, by omega, by go_num, Lib.hid ⟨F5, I8.out⟩⟩
      case measure => simp [RowKit.intOf]; omega
    · have hlt1 : ¬ (k : Int) + 1 ≤ n % 100 := by omega
      go_wp2_with fail
      refine (len_n I3.out (n := 0) rfl).mono ?_
      rintro e w9 ⟨rfl, rfl⟩
      go_wp2_with fail
      go_ret
      exact ⟨rfl, EW.out⟩
end Go.Proofs.YtoaepnidlddmjaaDoor
