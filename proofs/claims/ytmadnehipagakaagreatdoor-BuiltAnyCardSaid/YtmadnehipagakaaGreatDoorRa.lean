/- The reference's numbers. -/
import Derived.Test.YtmadnehipagakaaGreatDoorTa
namespace Go.Proofs.YtmadnehipagakaaGreatDoor
open Go.RowKit Go.Lib KP
theorem radd_c (a b : Int) (w : World) (ha : okI a) (hb : okI b) : Calls Tryz.prog 119 #[.int .i64 a, .int .i64 b] w fun e w' => e = .returned (numV (lim (a + b))) ∧ w = w' := by
  obtain ⟨ha1, ha2⟩ := ha
  obtain ⟨hb1, hb2⟩ := hb
  by_cases ho : okI (a + b)
  · have H := Lib.hid (lim_yes ho)
    obtain ⟨h1, h2⟩ := ho
    by_cases h : 0 < b
    · have h3 : a ≤ 9223372036854775807 - b := by omega
      go_enter Tryz.func119, Tryz.ntmps119
      go_wp2
      go_ret2
      exact ⟨num_some H.out, rfl⟩
    · by_cases h' : b < 0
      · have h3 : -9223372036854775808 - b ≤ a := by omega
        go_enter Tryz.func119, Tryz.ntmps119
        go_wp2
        go_ret2
        exact ⟨num_some H.out, rfl⟩
      · go_enter Tryz.func119, Tryz.ntmps119
        go_wp2
        go_ret2
        exact ⟨num_some H.out, rfl⟩
  · have H := Lib.hid (lim_no ho)
    by_cases h : 0 < b
    · have h3 : 9223372036854775807 - b < a := by unfold okI at ho; omega
      clear ho
      go_enter Tryz.func119, Tryz.ntmps119
      go_wp2
      go_ret2
      exact ⟨num_none H.out, rfl⟩
    · have h' : b < 0 := by unfold okI at ho; omega
      have h3 : a < -9223372036854775808 - b := by unfold okI at ho; omega
      clear ho
      go_enter Tryz.func119, Tryz.ntmps119
      go_wp2
      go_ret2
      exact ⟨num_none H.out, rfl⟩
theorem rsub_c (a b : Int) (w : World) (ha : okI a) (hb : okI b) : Calls Tryz.prog 123 #[.int .i64 a, .int .i64 b] w fun e w' => e = .returned (numV (lim (a - b))) ∧ w = w' := by
  obtain ⟨ha1, ha2⟩ := ha
  obtain ⟨hb1, hb2⟩ := hb
  by_cases ho : okI (a - b)
  · have H := Lib.hid (lim_yes ho)
    obtain ⟨h1, h2⟩ := ho
    by_cases h : 0 < b
    · have h3 : -9223372036854775808 + b ≤ a := by omega
      go_enter Tryz.func123, Tryz.ntmps123
      go_wp2
      go_ret2
      exact ⟨num_some H.out, rfl⟩
    · by_cases h' : b < 0
      · have h3 : a ≤ 9223372036854775807 + b := by omega
        go_enter Tryz.func123, Tryz.ntmps123
        go_wp2
        go_ret2
        exact ⟨num_some H.out, rfl⟩
      · go_enter Tryz.func123, Tryz.ntmps123
        go_wp2
        go_ret2
        exact ⟨num_some H.out, rfl⟩
  · have H := Lib.hid (lim_no ho)
    by_cases h : 0 < b
    · have h3 : a < -9223372036854775808 + b := by unfold okI at ho; omega
      clear ho
      go_enter Tryz.func123, Tryz.ntmps123
      go_wp2
      go_ret2
      exact ⟨num_none H.out, rfl⟩
    · have h' : b < 0 := by unfold okI at ho; omega
      have h3 : 9223372036854775807 + b < a := by unfold okI at ho; omega
      clear ho
      go_enter Tryz.func123, Tryz.ntmps123
      go_wp2
      go_ret2
      exact ⟨num_none H.out, rfl⟩
theorem rdiv_c (a b : Int) (w : World) (ha : okI a) (hb : okI b) : Calls Tryz.prog 121 #[.int .i64 a, .int .i64 b] w fun e w' => e = .returned (numV (divO a b)) ∧ w = w' := by
  obtain ⟨ha1, ha2⟩ := ha
  obtain ⟨hb1, hb2⟩ := hb
  by_cases h0 : b = 0
  · have H : Hid (divO a b = none) := Lib.hid (if_pos (.inl h0))
    have e0 : (b == 0) = true := by simp [h0]
    clear h0
    go_enter Tryz.func121, Tryz.ntmps121
    go_wp2
    go_ret2
    exact ⟨num_none H.out, rfl⟩
  · by_cases h1 : a = -9223372036854775808 ∧ b = -1
    · have H : Hid (divO a b = none) := Lib.hid (if_pos (.inr h1))
      have e0 : (b == 0) = false := by simp [h0]
      have e1 : (a == -9223372036854775808) = true := by simp [h1.1]
      have e2 : (b == -1) = true := by simp [h1.2]
      clear h0 h1
      go_enter Tryz.func121, Tryz.ntmps121
      go_wp2
      go_ret2
      exact ⟨num_none H.out, rfl⟩
    · have H : Hid (divO a b = some (wrap64 (a.tdiv b))) := Lib.hid ((if_neg (fun h => h.elim h0 h1)).trans (by rw [IntWalk.wrap64_in _ (tdiv_ok ⟨ha1, ha2⟩ h1 h0)]))
      have e0 : (b == 0) = false := by simp [h0]
      by_cases h2 : a = -9223372036854775808
      · have e1 : (a == -9223372036854775808) = true := by simp [h2]
        have e2 : (b == -1) = false := by simp; omega
        clear h1 h2
        go_enter Tryz.func121, Tryz.ntmps121
        go_wp2
        go_ret2
        exact ⟨num_some H.out, rfl⟩
      · have e1 : (a == -9223372036854775808) = false := by simp [h2]
        clear h1 h2
        go_enter Tryz.func121, Tryz.ntmps121
        go_wp2
        go_ret2
        exact ⟨num_some H.out, rfl⟩
theorem rmod_c (a b : Int) (w : World) (ha : okI a) (hb : okI b) : Calls Tryz.prog 122 #[.int .i64 a, .int .i64 b] w fun e w' => e = .returned (numV (modO a b)) ∧ w = w' := by
  obtain ⟨ha1, ha2⟩ := ha
  obtain ⟨hb1, hb2⟩ := hb
  by_cases h0 : b = 0
  · have H : Hid (modO a b = none) := Lib.hid (if_pos h0)
    have e0 : (b == 0) = true := by simp [h0]
    clear h0
    go_enter Tryz.func122, Tryz.ntmps122
    go_wp2
    go_ret2
    exact ⟨num_none H.out, rfl⟩
  · by_cases h1 : b = -1
    · have H : Hid (modO a b = some 0) := Lib.hid ((if_neg h0).trans (if_pos h1))
      have e0 : (b == 0) = false := by simp [h0]
      have e2 : (b == -1) = true := by simp [h1]
      clear h0 h1
      go_enter Tryz.func122, Tryz.ntmps122
      go_wp2
      go_ret2
      exact ⟨num_some H.out, rfl⟩
    · have H : Hid (modO a b = some (a.tmod b)) := Lib.hid ((if_neg h0).trans (if_neg h1))
      have e0 : (b == 0) = false := by simp [h0]
      have e2 : (b == -1) = false := by simp [h1]
      clear h1
      go_enter Tryz.func122, Tryz.ntmps122
      go_wp2
      go_ret2
      exact ⟨num_some H.out, rfl⟩
theorem size_w (n : Int) (x : Nat) (hx : n.natAbs = x) (h : okI n) (w : World) : Calls Tryz.prog 146 #[.int .i64 n] w fun e w' => e = .returned (.int .u64 x) ∧ w = w' := by subst hx; exact size_c n h w
theorem lim_big {a b : Int} {x y T : Nat} (hx : a.natAbs = x) (hy : b.natAbs = y) (hT : T = if decide (a < 0) = decide (b < 0) then 9223372036854775807 else 9223372036854775808) (h0 : x ≠ 0) (h : T / x < y) : lim (a * b) = none := by
  have h1 : T < y * x := (Nat.div_lt_iff_lt_mul (by omega)).1 h
  rw [Nat.mul_comm] at h1
  refine lim_no fun h2 => ?_
  unfold okI at h2
  have e : (a * b).natAbs = x * y := by rw [Int.natAbs_mul, hx, hy]
  split at hT
  · rename_i hn
    have : 0 ≤ a * b := by
      by_cases h3 : a < 0
      · have h4 : b < 0 := by
          by_cases h5 : b < 0
          · exact h5
          · rw [decide_eq_true h3, decide_eq_false h5] at hn; cases hn
        exact Int.mul_nonneg_of_nonpos_of_nonpos (by omega) (by omega)
      · have h4 : 0 ≤ b := by
          by_cases h5 : b < 0
          · rw [decide_eq_false h3, decide_eq_true h5] at hn; cases hn
          · omega
        exact Int.mul_nonneg (by omega) h4
    omega
  · rename_i hn
    have : a * b ≤ 0 := by
      by_cases h3 : a < 0
      · have h4 : 0 ≤ b := by
          by_cases h5 : b < 0
          · exact absurd (by simp [h3, h5]) hn
          · omega
        exact Int.mul_nonpos_of_nonpos_of_nonneg (by omega) h4
      · have h4 : b ≤ 0 := by
          by_cases h5 : b < 0
          · omega
          · exact absurd (by simp [h3, h5]) hn
        exact Int.mul_nonpos_of_nonneg_of_nonpos (by omega) h4
    omega
theorem ok_small {a b : Int} {x y T : Nat} (hx : a.natAbs = x) (hy : b.natAbs = y) (hT : T = if decide (a < 0) = decide (b < 0) then 9223372036854775807 else 9223372036854775808) (h : x = 0 ∨ y ≤ T / x) : okI (a * b) := by
  have e : (a * b).natAbs = x * y := by rw [Int.natAbs_mul, hx, hy]
  have h1 : x * y ≤ T := by
    rcases h with h | h
    · rw [h, Nat.zero_mul]; omega
    · by_cases h0 : x = 0
      · rw [h0, Nat.zero_mul]; omega
      · rw [Nat.mul_comm]; exact (Nat.le_div_iff_mul_le (by omega)).1 h
  unfold okI
  split at hT
  · rename_i hn
    have : 0 ≤ a * b := by
      by_cases h3 : a < 0
      · have h4 : b < 0 := by
          by_cases h5 : b < 0
          · exact h5
          · rw [decide_eq_true h3, decide_eq_false h5] at hn; cases hn
        exact Int.mul_nonneg_of_nonpos_of_nonpos (by omega) (by omega)
      · have h4 : 0 ≤ b := by
          by_cases h5 : b < 0
          · rw [decide_eq_false h3, decide_eq_true h5] at hn; cases hn
          · omega
        exact Int.mul_nonneg (by omega) h4
    omega
  · rename_i hn
    have : a * b ≤ 0 := by
      by_cases h3 : a < 0
      · have h4 : 0 ≤ b := by
          by_cases h5 : b < 0
          · exact absurd (by simp [h3, h5]) hn
          · omega
        exact Int.mul_nonpos_of_nonpos_of_nonneg (by omega) h4
      · have h4 : b ≤ 0 := by
          by_cases h5 : b < 0
          · omega
          · exact absurd (by simp [h3, h5]) hn
        exact Int.mul_nonpos_of_nonneg_of_nonpos (by omega) h4
    omega
set_option maxHeartbeats 1000000 in
theorem rmul_pp (a b : Int) (w : World) (ha : okI a) (hb : okI b) (h1 : 0 ≤ a) (h2 : 0 ≤ b) : Calls Tryz.prog 120 #[.int .i64 a, .int .i64 b] w fun e w' => e = .returned (numV (lim (a * b))) ∧ w = w' := by
  obtain ⟨x, hx⟩ : ∃ x, a.natAbs = x := ⟨_, rfl⟩
  obtain ⟨y, hy⟩ : ∃ y, b.natAbs = y := ⟨_, rfl⟩
  have A := Lib.hid (fun W => size_w a x hx ha W)
  have B := Lib.hid (fun W => size_w b y hy hb W)
  have hT : 9223372036854775807 = if decide (a < 0) = decide (b < 0) then 9223372036854775807 else 9223372036854775808 := by
    rw [decide_eq_false (show ¬ a < 0 by omega), decide_eq_false (show ¬ b < 0 by omega)]; rfl
  have HB := Lib.hid (fun h0 h => lim_big hx hy hT h0 h)
  have HS := Lib.hid (fun h => ok_small hx hy hT h)
  have hq1 : (9223372036854775807 : Int).tdiv (x : Int) = ((9223372036854775807 / x : Nat) : Int) := by rw [Int.tdiv_eq_ediv_of_nonneg (by omega)]; rfl
  have hqb : 9223372036854775807 / x ≤ 9223372036854775807 := Nat.div_le_self _ _
  have hd : (!decide (a < 0) == decide (b < 0)) = false := by
    rw [decide_eq_false (show ¬ a < 0 by omega), decide_eq_false (show ¬ b < 0 by omega)]; rfl
  have hd4 : (!decide (b < 0)) = true := by rw [decide_eq_false (show ¬ b < 0 by omega)]; rfl
  have hd3 : (!decide (a < 0)) = true := by rw [decide_eq_false (show ¬ a < 0 by omega)]; rfl
  clear hT hx hy ha hb
  by_cases h0 : x = 0
  · subst h0
    obtain ⟨o1, o2⟩ := HS.out (.inl rfl)
    have H := Lib.hid (lim_yes ⟨o1, o2⟩)
    clear hq1 hqb
    go_enter Tryz.func120, Tryz.ntmps120
    go_wp2_with fail
    refine (A.out _).mono ?_
    rintro e w' ⟨rfl, rfl⟩
    go_wp2_with fail
    refine (B.out _).mono ?_
    rintro e w' ⟨rfl, rfl⟩
    go_wp2_with fail
    go_ret2
    exact ⟨num_some H.out, rfl⟩
  · obtain ⟨q, hq⟩ : ∃ q, 9223372036854775807 / x = q := ⟨_, rfl⟩
    rw [hq] at hq1 hqb HB HS
    have hqw : IntKind.u64.wrap (q : Int) = q := by
      have := IntWalk.u64_in (q : Int) (by omega); exact this
    have hx0 : (x : Int) ≠ 0 := by omega
    have hxn : ((x : Int) != 0) = true := by simp [h0]
    clear hq
    by_cases h3 : q < y
    · have h4 : (q : Int) < (y : Int) := by omega
      have H := Lib.hid (HB.out h0 h3)
      clear HB HS h3
      go_enter Tryz.func120, Tryz.ntmps120
      go_wp2_with fail
      refine (A.out _).mono ?_
      rintro e w' ⟨rfl, rfl⟩
      go_wp2_with fail
      refine (B.out _).mono ?_
      rintro e w' ⟨rfl, rfl⟩
      go_wp2_with fail
      go_ret2
      exact ⟨num_none H.out, rfl⟩
    · have h4 : (y : Int) ≤ (q : Int) := by omega
      obtain ⟨o1, o2⟩ := HS.out (.inr (by omega))
      have H := Lib.hid (lim_yes ⟨o1, o2⟩)
      clear HB HS h3
      go_enter Tryz.func120, Tryz.ntmps120
      go_wp2_with fail
      refine (A.out _).mono ?_
      rintro e w' ⟨rfl, rfl⟩
      go_wp2_with fail
      refine (B.out _).mono ?_
      rintro e w' ⟨rfl, rfl⟩
      go_wp2_with fail
      go_ret2
      exact ⟨num_some H.out, rfl⟩
set_option maxHeartbeats 1000000 in
theorem rmul_pn (a b : Int) (w : World) (ha : okI a) (hb : okI b) (h1 : 0 ≤ a) (h2 : b < 0) : Calls Tryz.prog 120 #[.int .i64 a, .int .i64 b] w fun e w' => e = .returned (numV (lim (a * b))) ∧ w = w' := by
  obtain ⟨x, hx⟩ : ∃ x, a.natAbs = x := ⟨_, rfl⟩
  obtain ⟨y, hy⟩ : ∃ y, b.natAbs = y := ⟨_, rfl⟩
  have A := Lib.hid (fun W => size_w a x hx ha W)
  have B := Lib.hid (fun W => size_w b y hy hb W)
  have hT : 9223372036854775808 = if decide (a < 0) = decide (b < 0) then 9223372036854775807 else 9223372036854775808 := by
    rw [decide_eq_false (show ¬ a < 0 by omega), decide_eq_true h2]; rfl
  have HB := Lib.hid (fun h0 h => lim_big hx hy hT h0 h)
  have HS := Lib.hid (fun h => ok_small hx hy hT h)
  have hq1 : (9223372036854775808 : Int).tdiv (x : Int) = ((9223372036854775808 / x : Nat) : Int) := by rw [Int.tdiv_eq_ediv_of_nonneg (by omega)]; rfl
  have hqb : 9223372036854775808 / x ≤ 9223372036854775808 := Nat.div_le_self _ _
  have hd : (!decide (a < 0) == decide (b < 0)) = true := by
    rw [decide_eq_false (show ¬ a < 0 by omega), decide_eq_true h2]; rfl
  have hd4 : (!decide (b < 0)) = false := by rw [decide_eq_true h2]; rfl
  have hd3 : (!decide (a < 0)) = true := by rw [decide_eq_false (show ¬ a < 0 by omega)]; rfl
  clear hT hx hy ha hb
  by_cases h0 : x = 0
  · subst h0
    obtain ⟨o1, o2⟩ := HS.out (.inl rfl)
    have H := Lib.hid (lim_yes ⟨o1, o2⟩)
    clear hq1 hqb
    go_enter Tryz.func120, Tryz.ntmps120
    go_wp2_with fail
    refine (A.out _).mono ?_
    rintro e w' ⟨rfl, rfl⟩
    go_wp2_with fail
    refine (B.out _).mono ?_
    rintro e w' ⟨rfl, rfl⟩
    go_wp2_with fail
    go_ret2
    exact ⟨num_some H.out, rfl⟩
  · obtain ⟨q, hq⟩ : ∃ q, 9223372036854775808 / x = q := ⟨_, rfl⟩
    rw [hq] at hq1 hqb HB HS
    have hqw : IntKind.u64.wrap (q : Int) = q := by
      have := IntWalk.u64_in (q : Int) (by omega); exact this
    have hx0 : (x : Int) ≠ 0 := by omega
    have hxn : ((x : Int) != 0) = true := by simp [h0]
    clear hq
    by_cases h3 : q < y
    · have h4 : (q : Int) < (y : Int) := by omega
      have H := Lib.hid (HB.out h0 h3)
      clear HB HS h3
      go_enter Tryz.func120, Tryz.ntmps120
      go_wp2_with fail
      refine (A.out _).mono ?_
      rintro e w' ⟨rfl, rfl⟩
      go_wp2_with fail
      refine (B.out _).mono ?_
      rintro e w' ⟨rfl, rfl⟩
      go_wp2_with fail
      go_ret2
      exact ⟨num_none H.out, rfl⟩
    · have h4 : (y : Int) ≤ (q : Int) := by omega
      obtain ⟨o1, o2⟩ := HS.out (.inr (by omega))
      have H := Lib.hid (lim_yes ⟨o1, o2⟩)
      clear HB HS h3
      go_enter Tryz.func120, Tryz.ntmps120
      go_wp2_with fail
      refine (A.out _).mono ?_
      rintro e w' ⟨rfl, rfl⟩
      go_wp2_with fail
      refine (B.out _).mono ?_
      rintro e w' ⟨rfl, rfl⟩
      go_wp2_with fail
      go_ret2
      exact ⟨num_some H.out, rfl⟩
set_option maxHeartbeats 1000000 in
theorem rmul_np (a b : Int) (w : World) (ha : okI a) (hb : okI b) (h1 : a < 0) (h2 : 0 ≤ b) : Calls Tryz.prog 120 #[.int .i64 a, .int .i64 b] w fun e w' => e = .returned (numV (lim (a * b))) ∧ w = w' := by
  obtain ⟨x, hx⟩ : ∃ x, a.natAbs = x := ⟨_, rfl⟩
  obtain ⟨y, hy⟩ : ∃ y, b.natAbs = y := ⟨_, rfl⟩
  have A := Lib.hid (fun W => size_w a x hx ha W)
  have B := Lib.hid (fun W => size_w b y hy hb W)
  have hT : 9223372036854775808 = if decide (a < 0) = decide (b < 0) then 9223372036854775807 else 9223372036854775808 := by
    rw [decide_eq_true h1, decide_eq_false (show ¬ b < 0 by omega)]; rfl
  have HB := Lib.hid (fun h0 h => lim_big hx hy hT h0 h)
  have HS := Lib.hid (fun h => ok_small hx hy hT h)
  have hq1 : (9223372036854775808 : Int).tdiv (x : Int) = ((9223372036854775808 / x : Nat) : Int) := by rw [Int.tdiv_eq_ediv_of_nonneg (by omega)]; rfl
  have hqb : 9223372036854775808 / x ≤ 9223372036854775808 := Nat.div_le_self _ _
  have hd : (!decide (a < 0) == decide (b < 0)) = true := by
    rw [decide_eq_true h1, decide_eq_false (show ¬ b < 0 by omega)]; rfl
  have hd4 : (!decide (b < 0)) = true := by rw [decide_eq_false (show ¬ b < 0 by omega)]; rfl
  have hd3 : (!decide (a < 0)) = false := by rw [decide_eq_true h1]; rfl
  clear hT hx hy ha hb
  by_cases h0 : x = 0
  · subst h0
    obtain ⟨o1, o2⟩ := HS.out (.inl rfl)
    have H := Lib.hid (lim_yes ⟨o1, o2⟩)
    clear hq1 hqb
    go_enter Tryz.func120, Tryz.ntmps120
    go_wp2_with fail
    refine (A.out _).mono ?_
    rintro e w' ⟨rfl, rfl⟩
    go_wp2_with fail
    refine (B.out _).mono ?_
    rintro e w' ⟨rfl, rfl⟩
    go_wp2_with fail
    go_ret2
    exact ⟨num_some H.out, rfl⟩
  · obtain ⟨q, hq⟩ : ∃ q, 9223372036854775808 / x = q := ⟨_, rfl⟩
    rw [hq] at hq1 hqb HB HS
    have hqw : IntKind.u64.wrap (q : Int) = q := by
      have := IntWalk.u64_in (q : Int) (by omega); exact this
    have hx0 : (x : Int) ≠ 0 := by omega
    have hxn : ((x : Int) != 0) = true := by simp [h0]
    clear hq
    by_cases h3 : q < y
    · have h4 : (q : Int) < (y : Int) := by omega
      have H := Lib.hid (HB.out h0 h3)
      clear HB HS h3
      go_enter Tryz.func120, Tryz.ntmps120
      go_wp2_with fail
      refine (A.out _).mono ?_
      rintro e w' ⟨rfl, rfl⟩
      go_wp2_with fail
      refine (B.out _).mono ?_
      rintro e w' ⟨rfl, rfl⟩
      go_wp2_with fail
      go_ret2
      exact ⟨num_none H.out, rfl⟩
    · have h4 : (y : Int) ≤ (q : Int) := by omega
      obtain ⟨o1, o2⟩ := HS.out (.inr (by omega))
      have H := Lib.hid (lim_yes ⟨o1, o2⟩)
      clear HB HS h3
      go_enter Tryz.func120, Tryz.ntmps120
      go_wp2_with fail
      refine (A.out _).mono ?_
      rintro e w' ⟨rfl, rfl⟩
      go_wp2_with fail
      refine (B.out _).mono ?_
      rintro e w' ⟨rfl, rfl⟩
      go_wp2_with fail
      go_ret2
      exact ⟨num_some H.out, rfl⟩
set_option maxHeartbeats 1000000 in
theorem rmul_nn (a b : Int) (w : World) (ha : okI a) (hb : okI b) (h1 : a < 0) (h2 : b < 0) : Calls Tryz.prog 120 #[.int .i64 a, .int .i64 b] w fun e w' => e = .returned (numV (lim (a * b))) ∧ w = w' := by
  obtain ⟨x, hx⟩ : ∃ x, a.natAbs = x := ⟨_, rfl⟩
  obtain ⟨y, hy⟩ : ∃ y, b.natAbs = y := ⟨_, rfl⟩
  have A := Lib.hid (fun W => size_w a x hx ha W)
  have B := Lib.hid (fun W => size_w b y hy hb W)
  have hT : 9223372036854775807 = if decide (a < 0) = decide (b < 0) then 9223372036854775807 else 9223372036854775808 := by
    rw [decide_eq_true h1, decide_eq_true h2]; rfl
  have HB := Lib.hid (fun h0 h => lim_big hx hy hT h0 h)
  have HS := Lib.hid (fun h => ok_small hx hy hT h)
  have hq1 : (9223372036854775807 : Int).tdiv (x : Int) = ((9223372036854775807 / x : Nat) : Int) := by rw [Int.tdiv_eq_ediv_of_nonneg (by omega)]; rfl
  have hqb : 9223372036854775807 / x ≤ 9223372036854775807 := Nat.div_le_self _ _
  have hd : (!decide (a < 0) == decide (b < 0)) = false := by
    rw [decide_eq_true h1, decide_eq_true h2]; rfl
  have hd4 : (!decide (b < 0)) = false := by rw [decide_eq_true h2]; rfl
  have hd3 : (!decide (a < 0)) = false := by rw [decide_eq_true h1]; rfl
  clear hT hx hy ha hb
  by_cases h0 : x = 0
  · subst h0
    obtain ⟨o1, o2⟩ := HS.out (.inl rfl)
    have H := Lib.hid (lim_yes ⟨o1, o2⟩)
    clear hq1 hqb
    go_enter Tryz.func120, Tryz.ntmps120
    go_wp2_with fail
    refine (A.out _).mono ?_
    rintro e w' ⟨rfl, rfl⟩
    go_wp2_with fail
    refine (B.out _).mono ?_
    rintro e w' ⟨rfl, rfl⟩
    go_wp2_with fail
    go_ret2
    exact ⟨num_some H.out, rfl⟩
  · obtain ⟨q, hq⟩ : ∃ q, 9223372036854775807 / x = q := ⟨_, rfl⟩
    rw [hq] at hq1 hqb HB HS
    have hqw : IntKind.u64.wrap (q : Int) = q := by
      have := IntWalk.u64_in (q : Int) (by omega); exact this
    have hx0 : (x : Int) ≠ 0 := by omega
    have hxn : ((x : Int) != 0) = true := by simp [h0]
    clear hq
    by_cases h3 : q < y
    · have h4 : (q : Int) < (y : Int) := by omega
      have H := Lib.hid (HB.out h0 h3)
      clear HB HS h3
      go_enter Tryz.func120, Tryz.ntmps120
      go_wp2_with fail
      refine (A.out _).mono ?_
      rintro e w' ⟨rfl, rfl⟩
      go_wp2_with fail
      refine (B.out _).mono ?_
      rintro e w' ⟨rfl, rfl⟩
      go_wp2_with fail
      go_ret2
      exact ⟨num_none H.out, rfl⟩
    · have h4 : (y : Int) ≤ (q : Int) := by omega
      obtain ⟨o1, o2⟩ := HS.out (.inr (by omega))
      have H := Lib.hid (lim_yes ⟨o1, o2⟩)
      clear HB HS h3
      go_enter Tryz.func120, Tryz.ntmps120
      go_wp2_with fail
      refine (A.out _).mono ?_
      rintro e w' ⟨rfl, rfl⟩
      go_wp2_with fail
      refine (B.out _).mono ?_
      rintro e w' ⟨rfl, rfl⟩
      go_wp2_with fail
      go_ret2
      exact ⟨num_some H.out, rfl⟩
theorem rmul_c (a b : Int) (w : World) (ha : okI a) (hb : okI b) : Calls Tryz.prog 120 #[.int .i64 a, .int .i64 b] w fun e w' => e = .returned (numV (lim (a * b))) ∧ w = w' := by
  by_cases h1 : a < 0
  · by_cases h2 : b < 0
    · exact rmul_nn a b w ha hb h1 h2
    · exact rmul_np a b w ha hb h1 (by omega)
  · by_cases h2 : b < 0
    · exact rmul_pn a b w ha hb (by omega) h2
    · exact rmul_pp a b w ha hb (by omega) (by omega)
end Go.Proofs.YtmadnehipagakaaGreatDoor
