/- num's functions, walked. -/
import Derived.Test.YtmadnehipagakaaGreatDoorNp
import Derived.Test.YtmadnehipagakaaGreatDoorVa
import Derived.Test.YtmadnehipagakaaGreatDoorFa
import Derived.IntWalk
namespace Go.Proofs.YtmadnehipagakaaGreatDoor
open Go.RowKit Go.Lib KP
abbrev numV (o : Option Int) : Value := .tuple #[.int .i64 (rN o), .int .i64 (rE o)]
theorem num_some {o : Option Int} {x : Int} (h : o = some x) : Ending.returned (.tuple #[.int .i64 x, .int .i64 0]) = .returned (numV o) := by subst h; rfl
theorem num_none {o : Option Int} (h : o = none) : Ending.returned (.tuple #[.int .i64 0, .int .i64 11]) = .returned (numV o) := by subst h; rfl
theorem add_c (a b : Int) (w : World) (ha : okI a) (hb : okI b) : Calls Tryz.prog 83 #[.int .i64 a, .int .i64 b] w fun e w' => e = .returned (numV (lim (a + b))) ∧ w = w' := by
  obtain ⟨ha1, ha2⟩ := ha
  obtain ⟨hb1, hb2⟩ := hb
  by_cases ho : okI (a + b)
  · have H := Lib.hid (lim_yes ho)
    obtain ⟨h1, h2⟩ := ho
    by_cases h : 0 < b
    · have h3 : a ≤ 9223372036854775807 - b := by omega
      go_enter Tryz.func83, Tryz.ntmps83
      go_wp2
      go_ret2
      exact ⟨num_some H.out, rfl⟩
    · by_cases h' : b < 0
      · have h3 : -9223372036854775808 - b ≤ a := by omega
        go_enter Tryz.func83, Tryz.ntmps83
        go_wp2
        go_ret2
        exact ⟨num_some H.out, rfl⟩
      · go_enter Tryz.func83, Tryz.ntmps83
        go_wp2
        go_ret2
        exact ⟨num_some H.out, rfl⟩
  · have H := Lib.hid (lim_no ho)
    by_cases h : 0 < b
    · have h3 : 9223372036854775807 - b < a := by unfold okI at ho; omega
      clear ho
      go_enter Tryz.func83, Tryz.ntmps83
      go_wp2
      go_ret2
      exact ⟨num_none H.out, rfl⟩
    · have h' : b < 0 := by unfold okI at ho; omega
      have h3 : a < -9223372036854775808 - b := by unfold okI at ho; omega
      clear ho
      go_enter Tryz.func83, Tryz.ntmps83
      go_wp2
      go_ret2
      exact ⟨num_none H.out, rfl⟩
theorem sub_c (a b : Int) (w : World) (ha : okI a) (hb : okI b) : Calls Tryz.prog 82 #[.int .i64 a, .int .i64 b] w fun e w' => e = .returned (numV (lim (a - b))) ∧ w = w' := by
  obtain ⟨ha1, ha2⟩ := ha
  obtain ⟨hb1, hb2⟩ := hb
  by_cases ho : okI (a - b)
  · have H := Lib.hid (lim_yes ho)
    obtain ⟨h1, h2⟩ := ho
    by_cases h : 0 < b
    · have h3 : -9223372036854775808 + b ≤ a := by omega
      go_enter Tryz.func82, Tryz.ntmps82
      go_wp2
      go_ret2
      exact ⟨num_some H.out, rfl⟩
    · by_cases h' : b < 0
      · have h3 : a ≤ 9223372036854775807 + b := by omega
        go_enter Tryz.func82, Tryz.ntmps82
        go_wp2
        go_ret2
        exact ⟨num_some H.out, rfl⟩
      · go_enter Tryz.func82, Tryz.ntmps82
        go_wp2
        go_ret2
        exact ⟨num_some H.out, rfl⟩
  · have H := Lib.hid (lim_no ho)
    by_cases h : 0 < b
    · have h3 : a < -9223372036854775808 + b := by unfold okI at ho; omega
      clear ho
      go_enter Tryz.func82, Tryz.ntmps82
      go_wp2
      go_ret2
      exact ⟨num_none H.out, rfl⟩
    · have h' : b < 0 := by unfold okI at ho; omega
      have h3 : 9223372036854775807 + b < a := by unfold okI at ho; omega
      clear ho
      go_enter Tryz.func82, Tryz.ntmps82
      go_wp2
      go_ret2
      exact ⟨num_none H.out, rfl⟩
theorem div_c (a b : Int) (w : World) (ha : okI a) (hb : okI b) : Calls Tryz.prog 78 #[.int .i64 a, .int .i64 b] w fun e w' => e = .returned (numV (divO a b)) ∧ w = w' := by
  obtain ⟨ha1, ha2⟩ := ha
  obtain ⟨hb1, hb2⟩ := hb
  by_cases h0 : b = 0
  · have H : Hid (divO a b = none) := Lib.hid (if_pos (.inl h0))
    have e0 : (b == 0) = true := by simp [h0]
    clear h0
    go_enter Tryz.func78, Tryz.ntmps78
    go_wp2
    go_ret2
    exact ⟨num_none H.out, rfl⟩
  · by_cases h1 : a = -9223372036854775808 ∧ b = -1
    · have H : Hid (divO a b = none) := Lib.hid (if_pos (.inr h1))
      have e0 : (b == 0) = false := by simp [h0]
      have e1 : (a == -9223372036854775808) = true := by simp [h1.1]
      have e2 : (b == -1) = true := by simp [h1.2]
      clear h0 h1
      go_enter Tryz.func78, Tryz.ntmps78
      go_wp2
      go_ret2
      exact ⟨num_none H.out, rfl⟩
    · have H : Hid (divO a b = some (wrap64 (a.tdiv b))) := Lib.hid ((if_neg (fun h => h.elim h0 h1)).trans (by rw [IntWalk.wrap64_in _ (tdiv_ok ⟨ha1, ha2⟩ h1 h0)]))
      have e0 : (b == 0) = false := by simp [h0]
      by_cases h2 : a = -9223372036854775808
      · have e1 : (a == -9223372036854775808) = true := by simp [h2]
        have e2 : (b == -1) = false := by simp; omega
        clear h1 h2
        go_enter Tryz.func78, Tryz.ntmps78
        go_wp2
        go_ret2
        exact ⟨num_some H.out, rfl⟩
      · have e1 : (a == -9223372036854775808) = false := by simp [h2]
        clear h1 h2
        go_enter Tryz.func78, Tryz.ntmps78
        go_wp2
        go_ret2
        exact ⟨num_some H.out, rfl⟩
theorem mod_c (a b : Int) (w : World) (ha : okI a) (hb : okI b) : Calls Tryz.prog 79 #[.int .i64 a, .int .i64 b] w fun e w' => e = .returned (numV (modO a b)) ∧ w = w' := by
  obtain ⟨ha1, ha2⟩ := ha
  obtain ⟨hb1, hb2⟩ := hb
  by_cases h0 : b = 0
  · have H : Hid (modO a b = none) := Lib.hid (if_pos h0)
    have e0 : (b == 0) = true := by simp [h0]
    clear h0
    go_enter Tryz.func79, Tryz.ntmps79
    go_wp2
    go_ret2
    exact ⟨num_none H.out, rfl⟩
  · by_cases h1 : b = -1
    · have H : Hid (modO a b = some 0) := Lib.hid ((if_neg h0).trans (if_pos h1))
      have e0 : (b == 0) = false := by simp [h0]
      have e2 : (b == -1) = true := by simp [h1]
      clear h0 h1
      go_enter Tryz.func79, Tryz.ntmps79
      go_wp2
      go_ret2
      exact ⟨num_some H.out, rfl⟩
    · have H : Hid (modO a b = some (a.tmod b)) := Lib.hid ((if_neg h0).trans (if_neg h1))
      have e0 : (b == 0) = false := by simp [h0]
      have e2 : (b == -1) = false := by simp [h1]
      clear h1
      go_enter Tryz.func79, Tryz.ntmps79
      go_wp2
      go_ret2
      exact ⟨num_some H.out, rfl⟩
theorem abs_c (a : Int) (w : World) (ha : okI a) : Calls Tryz.prog 116 #[.int .i64 a] w fun e w' => e = .returned (.int .u64 (a.natAbs : Nat)) ∧ w = w' := by
  obtain ⟨ha1, ha2⟩ := ha
  by_cases h : a < 0
  · go_enter Tryz.func116, Tryz.ntmps116
    go_wp2
    go_ret
    refine ⟨ret_int ?_, rfl⟩
    exact u64_neg h ha1
  · go_enter Tryz.func116, Tryz.ntmps116
    go_wp2
    go_ret
    exact ⟨ret_int (by omega), rfl⟩
theorem u64_minus64 {n : Nat} (h : n ≤ 9223372036854775808) : wrap64 (IntKind.u64.wrap (-(n : Int))) = -(n : Int) := by
  unfold wrap64
  simp [IntKind.wrap, IntKind.bits, IntKind.signed]
  omega
theorem u64_most : wrap64 (IntKind.u64.wrap (-9223372036854775808)) = -9223372036854775808 := by
  have := u64_minus64 (n := 9223372036854775808) (Nat.le_refl _)
  simpa using this
theorem mul64_c (x y : Nat) (hx : x < 18446744073709551616) (hy : y < 18446744073709551616) (w : World) : Calls Tryz.prog 115 #[.int .u64 x, .int .u64 y] w fun e w' => ∃ hi lo : Nat, e = .returned (.tuple #[.int .u64 hi, .int .u64 lo]) ∧ Hid (x * y = hi * 18446744073709551616 + lo) ∧ lo ≤ 18446744073709551615 ∧ w = w' :=
  (bits_Mul64 x y hx hy w).mono fun e w' ⟨h1, h2⟩ => ⟨_, _, h1, Lib.hid (by omega), by omega, h2.symm⟩
set_option maxHeartbeats 1000000 in
theorem mul_c (a b : Int) (w : World) (ha : okI a) (hb : okI b) : Calls Tryz.prog 77 #[.int .i64 a, .int .i64 b] w fun e w' => e = .returned (numV (lim (a * b))) ∧ w = w' := by
  have A := Lib.hid ha
  have B := Lib.hid hb
  obtain ⟨ha1, ha2⟩ := ha
  obtain ⟨hb1, hb2⟩ := hb
  go_enter Tryz.func77, Tryz.ntmps77
  go_wp2_with fail
  refine (abs_c _ _ A.out).mono ?_
  rintro e w' ⟨rfl, rfl⟩
  go_wp2_with fail
  refine (abs_c _ _ B.out).mono ?_
  rintro e w' ⟨rfl, rfl⟩
  go_wp2_with fail
  refine (mul64_c _ _ (by omega) (by omega) _).mono ?_
  rintro e w' ⟨hi, lo, rfl, hP, hlo, rfl⟩
  by_cases h0 : 0 < hi
  · have H := Lib.hid (mul_none hP.out (.inl h0))
    have h0' : (0 : Int) < (hi : Int) := by omega
    go_wp2_with fail
    go_ret2
    exact ⟨num_none H.out, rfl⟩
  obtain rfl : hi = 0 := by omega
  by_cases h1 : 9223372036854775808 < lo
  · have H := Lib.hid (mul_none hP.out (.inr (.inl h1)))
    have h0' : (9223372036854775808 : Int) < (lo : Int) := by omega
    go_wp2_with fail
    go_ret2
    exact ⟨num_none H.out, rfl⟩
  have h1' : (lo : Int) ≤ 9223372036854775808 := by omega
  cases hm : (!decide (a < 0) == decide (b < 0)) with
  | true =>
    have H := Lib.hid (mul_some hP.out rfl (by omega) (fun _ => hm))
    rw [hm] at H
    simp only [if_true] at H
    by_cases h2 : lo = 9223372036854775808
    · subst h2
      go_wp2_with fail
      go_ret2
      exact ⟨num_some (H.out.trans (congrArg some (Eq.trans (by rfl) u64_most.symm))), rfl⟩
    · have h3 : ((lo : Int) == 9223372036854775808) = false := by simp; omega
      go_wp2_with fail
      go_ret2
      exact ⟨num_some (H.out.trans (congrArg some (u64_minus64 (n := lo) (by omega)).symm)), rfl⟩
  | false =>
    by_cases h2 : lo = 9223372036854775808
    · subst h2
      have H := Lib.hid (mul_none hP.out (.inr (.inr ⟨rfl, hm⟩)))
      go_wp2_with fail
      go_ret2
      exact ⟨num_none H.out, rfl⟩
    · have H := Lib.hid (mul_some hP.out rfl (by omega) (fun h => absurd h h2))
      rw [hm] at H
      simp only [Bool.false_eq_true, if_false] at H
      have h3 : ((lo : Int) == 9223372036854775808) = false := by simp; omega
      have h4 : (lo : Int) ≤ 9223372036854775807 := by omega
      go_wp2_with fail
      go_ret2
      exact ⟨num_some H.out, rfl⟩
end Go.Proofs.YtmadnehipagakaaGreatDoor
