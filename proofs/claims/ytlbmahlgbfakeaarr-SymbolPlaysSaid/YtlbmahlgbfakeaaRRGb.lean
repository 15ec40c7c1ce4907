/- Names: the walks of the two Good. -/
import Derived.Test.YtlbmahlgbfakeaaRRGa
import Derived.LoopTactic
namespace Go.Proofs.YtlbmahlgbfakeaaRR
open Go.RowKit

/-- What a name is. -/
def goodB (s : ByteArray) : Bool := decide (1 ≤ s.size ∧ s.size ≤ 40) && isLetter (s.data.toList.headD 0).toNat && s.data.toList.all fun b => isPart b.toNat

theorem goodB_no {s : ByteArray} (h : s.size = 0 ∨ 40 < s.size) : goodB s = false := by
  unfold goodB
  have : ¬ (1 ≤ s.size ∧ s.size ≤ 40) := by omega
  simp [this]
theorem head_is {s : ByteArray} (h : 0 < s.size) : (s.data.toList.headD 0) = s[0] := by
  have h2 : 0 < s.data.toList.length := by simpa using h
  rw [List.headD_eq_head?_getD, List.head?_eq_getElem?, List.getElem?_eq_getElem h2]
  rfl
theorem goodB_head {s : ByteArray} (h : 0 < s.size) (hl : isLetter (s[0].toNat : Int) = false) : goodB s = false := by
  unfold goodB
  rw [head_is h]
  simp [hl]
theorem goodB_all {s : ByteArray} (h : 0 < s.size) (h4 : s.size ≤ 40) (hl : isLetter (s[0].toNat : Int) = true) : goodB s = s.data.toList.all fun b => isPart b.toNat := by
  unfold goodB
  rw [head_is h]
  have : 1 ≤ s.size ∧ s.size ≤ 40 := ⟨h, h4⟩
  simp [this, hl]
theorem take_snoc (s : ByteArray) (k : Nat) (h : k < s.size) : s.data.toList.take (k + 1) = s.data.toList.take k ++ [s[k]] := by
  rw [List.take_succ_eq_append_getElem (by simpa using h)]; rfl
theorem all_snoc {s : ByteArray} {k : Nat} (h : k < s.size) (hk : (s.data.toList.take k).all (fun b => isPart b.toNat) = true) (hp : isPart (s[k].toNat : Int) = true) : (s.data.toList.take (k + 1)).all (fun b => isPart b.toNat) = true := by
  rw [take_snoc s k h, List.all_append, hk]
  simp [hp]
theorem all_no {s : ByteArray} {k : Nat} (h : k < s.size) (hp : isPart (s[k].toNat : Int) = false) : s.data.toList.all (fun b => isPart b.toNat) = false := by
  rw [List.all_eq_false]
  exact ⟨s[k], Array.mem_toList_iff.2 (Array.getElem_mem (xs := s.data) h), by simp [hp]⟩
theorem all_end {s : ByteArray} (hk : (s.data.toList.take s.size).all (fun b => isPart b.toNat) = true) : s.data.toList.all (fun b => isPart b.toNat) = true := by
  rwa [List.take_of_length_le (by simp)] at hk

theorem cls_letter {c : Int} (h : isLetter c = true) : cls c = 2 := by
  unfold isLetter at h; unfold cls
  rw [if_pos (of_decide_eq_true h)]
theorem cls_noletter {c : Int} (h : isLetter c = false) : decide (cls c < 2) = true := by
  have := of_decide_eq_false h
  unfold cls
  rw [if_neg this]
  split <;> decide
theorem cls_part {c : Int} (h : isPart c = true) : (cls c == 0) = false := by
  have := of_decide_eq_true h
  unfold cls
  split
  · rfl
  · rw [if_pos (by omega)]; rfl
theorem cls_nopart {c : Int} (h : isPart c = false) : (cls c == 0) = true := by
  have := of_decide_eq_false h
  unfold cls
  rw [if_neg (by omega), if_neg (by omega)]; rfl

set_option maxHeartbeats 400000 in
theorem good_any (s : ByteArray) (w : World) : Calls Try.prog 10 #[.string s] w fun e w' => e = .returned (.bool (goodB s)) ∧ w' = w := by
  by_cases h0 : s.size = 0
  · have hg := Lib.hid (goodB_no (.inl h0))
    have h0' : s.data.toList = [] := List.eq_nil_of_length_eq_zero (by simpa using h0)
    go_enter Try.func10, Try.ntmps10
    go_wp2_with fail
    go_ret
    exact ⟨ret_bool hg.out.symm, rfl⟩
  · by_cases h4 : 40 < s.size
    · have hg := Lib.hid (goodB_no (.inr h4))
      go_enter Try.func10, Try.ntmps10
      go_wp2_with fail
      go_ret
      exact ⟨ret_bool hg.out.symm, rfl⟩
    · have h1 : 0 < s.size := by omega
      have hm : s.size ≤ 40 := by omega
      cases hL : isLetter (s[0].toNat : Int) with
      | false =>
        have hg := Lib.hid (goodB_head h1 hL)
        have hc := cls_noletter hL
        clear hL
        go_enter Try.func10, Try.ntmps10
        go_wp2_with (go_at_call 16; refine (class_any _ _).mono ?_; rintro e w' ⟨rfl, rfl⟩)
        go_ret
        exact ⟨ret_bool hg.out.symm, rfl⟩
      | true =>
        have hg := Lib.hid (goodB_all h1 hm hL)
        have hc := cls_letter hL
        clear hL
        go_enter Try.func10, Try.ntmps10
        go_wp2_with (go_at_call 16; refine (class_any _ _).mono ?_; rintro e w' ⟨rfl, rfl⟩)
        go_loop [3, 20] (fun _ i => ∃ k : Nat, k ≤ s.size ∧ i = .int .i64 k ∧ Hid ((s.data.toList.take k).all (fun b => isPart b.toNat) = true)) (fun _ i => s.size - (intOf i).toNat)
        case atStart => exact ⟨0, Nat.zero_le _, rfl, Lib.hid rfl⟩
        case round =>
          obtain ⟨k, hk, rfl, hp⟩ := hrel
          by_cases hlt : k < s.size
          · cases hP : isPart (s[k].toNat : Int) with
            | true =>
              have hz := cls_part hP
              have hq := Lib.hid (all_snoc hlt hp.out hP)
              clear hP
              go_wp2_with (go_at_call 16; refine (class_any _ _).mono ?_; rintro e w' ⟨rfl, rfl⟩)
              go_round
              case rel => exact ⟨k + 1, by omega, by go_num, hq⟩
              case measure => simp [intOf]; omega
            | false =>
              have hz := cls_nopart hP
              have hq := Lib.hid (hg.out.trans (all_no hlt hP))
              clear hP
              go_wp2_with (go_at_call 16; refine (class_any _ _).mono ?_; rintro e w' ⟨rfl, rfl⟩)
              go_ret
              exact ⟨ret_bool hq.out.symm, rfl⟩
          · have hke : k = s.size := by omega
            have hq : Hid (goodB s = true) := Lib.hid (hg.out.trans (all_end (by rw [← hke]; exact hp.out)))
            clear hke
            go_wp2
            go_ret
            exact ⟨ret_bool hq.out.symm, rfl⟩
set_option maxHeartbeats 400000 in
theorem rgood_any (s : ByteArray) (w : World) : Calls Try.prog 9 #[.string s] w fun e w' => e = .returned (.bool (goodB s)) ∧ w' = w := by
  by_cases h0 : s.size = 0
  · have hg := Lib.hid (goodB_no (.inl h0))
    have h0' : s.data.toList = [] := List.eq_nil_of_length_eq_zero (by simpa using h0)
    go_enter Try.func9, Try.ntmps9
    go_wp2_with fail
    go_ret
    exact ⟨ret_bool hg.out.symm, rfl⟩
  · by_cases h4 : 40 < s.size
    · have hg := Lib.hid (goodB_no (.inr h4))
      go_enter Try.func9, Try.ntmps9
      go_wp2_with fail
      go_ret
      exact ⟨ret_bool hg.out.symm, rfl⟩
    · have h1 : 0 < s.size := by omega
      have hm : s.size ≤ 40 := by omega
      have hb0 : ((s.size : Int) == 0) = false := by rw [beq_eq_false_iff_ne]; omega
      cases hL : isLetter (s[0].toNat : Int) with
      | false =>
        have hg := Lib.hid (goodB_head h1 hL)
        go_enter Try.func9, Try.ntmps9
        go_wp2_with (first | (go_at_call 14; refine (letter_any _ _).mono ?_; rintro e w' ⟨rfl, rfl⟩) | (go_at_call 15; refine (part_any _ _).mono ?_; rintro e w' ⟨rfl, rfl⟩))
        go_ret
        exact ⟨ret_bool hg.out.symm, rfl⟩
      | true =>
        have hg := Lib.hid (goodB_all h1 hm hL)
        go_enter Try.func9, Try.ntmps9
        go_wp2_with (first | (go_at_call 14; refine (letter_any _ _).mono ?_; rintro e w' ⟨rfl, rfl⟩) | (go_at_call 15; refine (part_any _ _).mono ?_; rintro e w' ⟨rfl, rfl⟩))
        go_loop [3] (fun i => ∃ k : Nat, k ≤ s.size ∧ i = .int .i64 k ∧ Hid ((s.data.toList.take k).all (fun b => isPart b.toNat) = true)) (fun i => s.size - (intOf i).toNat)
        case atStart => exact ⟨0, Nat.zero_le _, rfl, Lib.hid rfl⟩
        case round =>
          obtain ⟨k, hk, rfl, hp⟩ := hrel
          by_cases hlt : k < s.size
          · cases hP : isPart (s[k].toNat : Int) with
            | true =>
              have hq := Lib.hid (all_snoc hlt hp.out hP)
              go_wp2_with (first | (go_at_call 14; refine (letter_any _ _).mono ?_; rintro e w' ⟨rfl, rfl⟩) | (go_at_call 15; refine (part_any _ _).mono ?_; rintro e w' ⟨rfl, rfl⟩))
              go_round
              case rel => exact ⟨k + 1, by omega, by go_num, hq⟩
              case measure => simp [intOf]; omega
            | false =>
              have hq := Lib.hid (hg.out.trans (all_no hlt hP))
              go_wp2_with (first | (go_at_call 14; refine (letter_any _ _).mono ?_; rintro e w' ⟨rfl, rfl⟩) | (go_at_call 15; refine (part_any _ _).mono ?_; rintro e w' ⟨rfl, rfl⟩))
              go_ret
              exact ⟨ret_bool hq.out.symm, rfl⟩
          · have hke : k = s.size := by omega
            have hq : Hid (goodB s = true) := Lib.hid (hg.out.trans (all_end (by rw [← hke]; exact hp.out)))
            clear hke
            go_wp2
            go_ret
            exact ⟨ret_bool hq.out.symm, rfl⟩
end Go.Proofs.YtlbmahlgbfakeaaRR
