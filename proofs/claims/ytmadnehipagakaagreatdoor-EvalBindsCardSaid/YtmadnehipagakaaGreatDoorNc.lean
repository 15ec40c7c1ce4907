/- Symbols, values that may be. -/
import Derived.Test.YtmadnehipagakaaGreatDoorNb
import Derived.Test.YtmadnehipagakaaGreatDoorVc
namespace Go.Proofs.YtmadnehipagakaaGreatDoor
open Go.RowKit Go.Lib KP
def signB (n : Int) : Bool := decide (33 ≤ n ∧ n ≤ 126 ∧ n ≠ 40 ∧ n ≠ 41 ∧ n ≠ 34 ∧ n ≠ 59 ∧ n ≠ 63 ∧ n ≠ 126)
theorem sign_c (c : Int) (w : World) : Calls Tryz.prog 113 #[.int .u8 c] w fun e w' => e = .returned (.bool (signB c)) ∧ w = w' := by
  by_cases h40 : c = 40
  · subst h40
    go_enter Tryz.func113, Tryz.ntmps113
    go_wp2_with fail
    go_ret
    exact ⟨ret_bool (by first | rfl | (simp [signB]; done) | (simp [signB]; omega)), rfl⟩
  by_cases h41 : c = 41
  · subst h41
    go_enter Tryz.func113, Tryz.ntmps113
    go_wp2_with fail
    go_ret
    exact ⟨ret_bool (by first | rfl | (simp [signB]; done) | (simp [signB]; omega)), rfl⟩
  by_cases h34 : c = 34
  · subst h34
    go_enter Tryz.func113, Tryz.ntmps113
    go_wp2_with fail
    go_ret
    exact ⟨ret_bool (by first | rfl | (simp [signB]; done) | (simp [signB]; omega)), rfl⟩
  by_cases h59 : c = 59
  · subst h59
    go_enter Tryz.func113, Tryz.ntmps113
    go_wp2_with fail
    go_ret
    exact ⟨ret_bool (by first | rfl | (simp [signB]; done) | (simp [signB]; omega)), rfl⟩
  by_cases h63 : c = 63
  · subst h63
    go_enter Tryz.func113, Tryz.ntmps113
    go_wp2_with fail
    go_ret
    exact ⟨ret_bool (by first | rfl | (simp [signB]; done) | (simp [signB]; omega)), rfl⟩
  by_cases h126 : c = 126
  · subst h126
    go_enter Tryz.func113, Tryz.ntmps113
    go_wp2_with fail
    go_ret
    exact ⟨ret_bool (by first | rfl | (simp [signB]; done) | (simp [signB]; omega)), rfl⟩
  have e40 : (c == 40) = false := by simp [h40]
  have n40 : (c != 40) = true := by simp [h40]
  have e41 : (c == 41) = false := by simp [h41]
  have n41 : (c != 41) = true := by simp [h41]
  have e34 : (c == 34) = false := by simp [h34]
  have n34 : (c != 34) = true := by simp [h34]
  have e59 : (c == 59) = false := by simp [h59]
  have n59 : (c != 59) = true := by simp [h59]
  have e63 : (c == 63) = false := by simp [h63]
  have n63 : (c != 63) = true := by simp [h63]
  have e126 : (c == 126) = false := by simp [h126]
  have n126 : (c != 126) = true := by simp [h126]
  have H : Hid (signB c = decide (33 ≤ c ∧ c ≤ 126)) := Lib.hid (by unfold signB; simp [h40, h41, h34, h59, h63, h126])
  clear h40 h41 h34 h59 h63 h126
  by_cases hl : 33 ≤ c
  · by_cases hg : c ≤ 126
    · have hx : True := trivial
      go_enter Tryz.func113, Tryz.ntmps113
      go_wp2_with fail
      go_ret
      exact ⟨ret_bool (by rw [H.out]; symm; simp; omega), rfl⟩
    · have hg' : 126 < c := by omega
      go_enter Tryz.func113, Tryz.ntmps113
      go_wp2_with fail
      go_ret
      exact ⟨ret_bool (by rw [H.out]; symm; simp; omega), rfl⟩
  · have hl' : c < 33 := by omega
    go_enter Tryz.func113, Tryz.ntmps113
    go_wp2_with fail
    go_ret
    exact ⟨ret_bool (by rw [H.out]; symm; simp; omega), rfl⟩
theorem rsign_c (c : Int) (w : World) : Calls Tryz.prog 43 #[.int .u8 c] w fun e w' => e = .returned (.bool (signB c)) ∧ w = w' := by
  by_cases h40 : c = 40
  · subst h40
    go_enter Tryz.func43, Tryz.ntmps43
    go_wp2_with fail
    go_ret
    exact ⟨ret_bool (by first | rfl | (simp [signB]; done) | (simp [signB]; omega)), rfl⟩
  by_cases h41 : c = 41
  · subst h41
    go_enter Tryz.func43, Tryz.ntmps43
    go_wp2_with fail
    go_ret
    exact ⟨ret_bool (by first | rfl | (simp [signB]; done) | (simp [signB]; omega)), rfl⟩
  by_cases h34 : c = 34
  · subst h34
    go_enter Tryz.func43, Tryz.ntmps43
    go_wp2_with fail
    go_ret
    exact ⟨ret_bool (by first | rfl | (simp [signB]; done) | (simp [signB]; omega)), rfl⟩
  by_cases h59 : c = 59
  · subst h59
    go_enter Tryz.func43, Tryz.ntmps43
    go_wp2_with fail
    go_ret
    exact ⟨ret_bool (by first | rfl | (simp [signB]; done) | (simp [signB]; omega)), rfl⟩
  by_cases h63 : c = 63
  · subst h63
    go_enter Tryz.func43, Tryz.ntmps43
    go_wp2_with fail
    go_ret
    exact ⟨ret_bool (by first | rfl | (simp [signB]; done) | (simp [signB]; omega)), rfl⟩
  by_cases h126 : c = 126
  · subst h126
    go_enter Tryz.func43, Tryz.ntmps43
    go_wp2_with fail
    go_ret
    exact ⟨ret_bool (by first | rfl | (simp [signB]; done) | (simp [signB]; omega)), rfl⟩
  have e40 : (c == 40) = false := by simp [h40]
  have n40 : (c != 40) = true := by simp [h40]
  have e41 : (c == 41) = false := by simp [h41]
  have n41 : (c != 41) = true := by simp [h41]
  have e34 : (c == 34) = false := by simp [h34]
  have n34 : (c != 34) = true := by simp [h34]
  have e59 : (c == 59) = false := by simp [h59]
  have n59 : (c != 59) = true := by simp [h59]
  have e63 : (c == 63) = false := by simp [h63]
  have n63 : (c != 63) = true := by simp [h63]
  have e126 : (c == 126) = false := by simp [h126]
  have n126 : (c != 126) = true := by simp [h126]
  have H : Hid (signB c = decide (33 ≤ c ∧ c ≤ 126)) := Lib.hid (by unfold signB; simp [h40, h41, h34, h59, h63, h126])
  clear h40 h41 h34 h59 h63 h126
  by_cases hl : 33 ≤ c
  · by_cases hg : c ≤ 126
    · have hx : True := trivial
      go_enter Tryz.func43, Tryz.ntmps43
      go_wp2_with fail
      go_ret
      exact ⟨ret_bool (by rw [H.out]; symm; simp; omega), rfl⟩
    · have hg' : 126 < c := by omega
      go_enter Tryz.func43, Tryz.ntmps43
      go_wp2_with fail
      go_ret
      exact ⟨ret_bool (by rw [H.out]; symm; simp; omega), rfl⟩
  · have hl' : c < 33 := by omega
    go_enter Tryz.func43, Tryz.ntmps43
    go_wp2_with fail
    go_ret
    exact ⟨ret_bool (by rw [H.out]; symm; simp; omega), rfl⟩
end Go.Proofs.YtmadnehipagakaaGreatDoor
