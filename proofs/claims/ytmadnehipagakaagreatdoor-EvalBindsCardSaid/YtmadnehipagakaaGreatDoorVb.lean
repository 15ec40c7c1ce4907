/- Comparisons of values. -/
import Derived.Test.YtmadnehipagakaaGreatDoorVa
import Derived.WalkLawsBesides
namespace Go.Proofs.YtmadnehipagakaaGreatDoor
open Go.RowKit Go.Lib KP
theorem nan3 (x : Int) (w : World) : Calls Tryz.prog 156 #[.int .i64 x] w fun e w' => e = .returned (.bool false) ∧ w = w' := by
  go_enter Tryz.func156, Tryz.ntmps156
  go_wp2
  go_ret
  exact ⟨rfl, rfl⟩
theorem nan2 (x : Int) (w : World) : Calls Tryz.prog 157 #[.int .i64 x] w fun e w' => e = .returned (.bool false) ∧ w = w' := by
  go_enter Tryz.func157, Tryz.ntmps157
  go_wp2
  go_ret
  exact ⟨rfl, rfl⟩
theorem nan9 (x : ByteArray) (w : World) : Calls Tryz.prog 155 #[.string x] w fun e w' => e = .returned (.bool false) ∧ w = w' := by
  go_enter Tryz.func155, Tryz.ntmps155
  go_wp2
  go_ret
  exact ⟨rfl, rfl⟩
def cmpI (x y : Int) : Int := if x < y then -1 else if y < x then 1 else 0
def cmpS (x y : ByteArray) : Int := if Op.bytesLess x.toList y.toList = true then -1 else if (x.toList == y.toList) = true then 0 else 1
theorem cmpI_c (x y : Int) (w : World) : Calls Tryz.prog 138 #[.int .i64 x, .int .i64 y] w fun e w' => e = .returned (.int .i64 (cmpI x y)) ∧ w = w' := by
  unfold cmpI
  go_enter Tryz.func138, Tryz.ntmps138
  go_wp2_with (go_at_call 156; refine (nan3 _ _).mono ?_; rintro e w' ⟨rfl, rfl⟩)
  all_goals
    go_ret
    exact ⟨by simp [*], rfl⟩
theorem cmpL_c (x y : Int) (w : World) : Calls Tryz.prog 139 #[.int .i64 x, .int .i64 y] w fun e w' => e = .returned (.int .i64 (cmpI x y)) ∧ w = w' := by
  unfold cmpI
  go_enter Tryz.func139, Tryz.ntmps139
  go_wp2_with (go_at_call 157; refine (nan2 _ _).mono ?_; rintro e w' ⟨rfl, rfl⟩)
  all_goals
    go_ret
    exact ⟨by simp [*], rfl⟩
theorem cmpS_c (x y : ByteArray) (w : World) : Calls Tryz.prog 140 #[.string x, .string y] w fun e w' => e = .returned (.int .i64 (cmpS x y)) ∧ w = w' := by
  unfold cmpS
  cases hb : Op.bytesLess x.toList y.toList with
  | true =>
    go_enter Tryz.func140, Tryz.ntmps140
    go_wp2_with (go_at_call 155; refine (nan9 _ _).mono ?_; rintro e w' ⟨rfl, rfl⟩)
    go_ret
    exact ⟨rfl, rfl⟩
  | false =>
    cases he : x.toList == y.toList with
    | true =>
      go_enter Tryz.func140, Tryz.ntmps140
      go_wp2_with (go_at_call 155; refine (nan9 _ _).mono ?_; rintro e w' ⟨rfl, rfl⟩)
      go_ret
      exact ⟨rfl, rfl⟩
    | false =>
      go_enter Tryz.func140, Tryz.ntmps140
      go_wp2_with (go_at_call 155; refine (nan9 _ _).mono ?_; rintro e w' ⟨rfl, rfl⟩)
      go_ret
      exact ⟨rfl, rfl⟩
theorem cmpI_zero (x y : Int) : cmpI x y = 0 ↔ x = y := by unfold cmpI; split <;> (try split) <;> omega
theorem less_self : ∀ l : List UInt8, Op.bytesLess l l = false
  | [] => rfl
  | x :: l => by rw [Op.bytesLess, less_self l]; simp
theorem str_eq {a b : ByteArray} (h : a = b) : (a.toList == b.toList) = true := by subst h; simp
theorem str_ne {a b : ByteArray} (h : a ≠ b) : (a.toList == b.toList) = false := beq_eq_false_iff_ne.2 (fun e => h (by rw [ByteArray.toList_eq, ByteArray.toList_eq] at e; exact ByteArray.ext (Array.ext' e)))
theorem cmpS_zero (x y : ByteArray) : cmpS x y = 0 ↔ x = y := by
  unfold cmpS
  constructor
  · intro h
    by_cases e : x = y
    · exact e
    · rw [str_ne e] at h
      split at h <;> simp at h
  · rintro rfl
    rw [less_self, str_eq rfl]
    simp
def orN (x y z : Int) : Int := if x ≠ 0 then x else if y ≠ 0 then y else z
/-- Which of two values comes first. -/
def cmpV (a b : Vl) : Int := orN (cmpI a.1 b.1) (cmpI a.2.1 b.2.1) (cmpS a.2.2 b.2.2)
theorem cmpV_zero (a b : Vl) : cmpV a b = 0 ↔ a = b := by
  obtain ⟨a1, a2, a3⟩ := a
  obtain ⟨b1, b2, b3⟩ := b
  unfold cmpV orN
  simp only [Prod.mk.injEq]
  rw [← cmpI_zero a1 b1, ← cmpI_zero a2 b2, ← cmpS_zero a3 b3]
  split
  · constructor
    · intro h; omega
    · rintro ⟨h, _⟩; omega
  · split
    · constructor
      · intro h; omega
      · rintro ⟨_, h, _⟩; omega
    · constructor
      · intro h; exact ⟨by omega, by omega, h⟩
      · exact fun h => h.2.2
theorem or_c (a : Nat) (x y z : Int) (w : World) (h0 : w.cell? ⟨a, 0, none⟩ = some (.int .i64 x)) (h1 : w.cell? ⟨a, 1, none⟩ = some (.int .i64 y)) (h2 : w.cell? ⟨a, 2, none⟩ = some (.int .i64 z)) :
    Calls Tryz.prog 137 #[.slice (some ⟨a, 0, none⟩) 3 3] w fun e w' => e = .returned (.int .i64 (orN x y z)) ∧ w = w' := by
  go_enter Tryz.func137, Tryz.ntmps137
  go_wp2
  go_loop [5, 8] (fun _ i => ∃ k : Nat, k ≤ 3 ∧ i = .int .i64 k ∧ Hid ((1 ≤ k → x = 0) ∧ (2 ≤ k → y = 0) ∧ (3 ≤ k → z = 0))) (fun _ i => 3 - (intOf i).toNat)
  case atStart => exact ⟨0, by omega, rfl, Lib.hid ⟨by omega, by omega, by omega⟩⟩
  case round =>
    obtain ⟨k, hk, rfl, hz⟩ := hrel
    match k with
    | 0 =>
      by_cases h : x = 0
      · have hb : (x != 0) = false := by simp [h]
        have H := Lib.hid h; clear h
        go_wp2
        go_round
        case rel => exact ⟨1, by omega, rfl, Lib.hid ⟨fun _ => H.out, by omega, by omega⟩⟩
        case measure => simp [intOf]
      · have hb : (x != 0) = true := by simp [h]
        have H := Lib.hid h; clear h
        go_wp2
        go_ret
        exact ⟨ret_int (by unfold orN; rw [if_pos H.out]), rfl⟩
    | 1 =>
      have hxz := Lib.hid (hz.out.1 (by omega))
      by_cases h : y = 0
      · have hb : (y != 0) = false := by simp [h]
        have H := Lib.hid h; clear h
        go_wp2
        go_round
        case rel => exact ⟨2, by omega, rfl, Lib.hid ⟨fun _ => hxz.out, fun _ => H.out, by omega⟩⟩
        case measure => simp [intOf]
      · have hb : (y != 0) = true := by simp [h]
        have H := Lib.hid h; clear h
        go_wp2
        go_ret
        exact ⟨ret_int (by unfold orN; rw [if_neg (by simpa using hxz.out), if_pos H.out]), rfl⟩
    | 2 =>
      have hxz := Lib.hid (hz.out.1 (by omega))
      have hyz := Lib.hid (hz.out.2.1 (by omega))
      by_cases h : z = 0
      · have hb : (z != 0) = false := by simp [h]
        have H := Lib.hid h; clear h
        go_wp2
        go_round
        case rel => exact ⟨3, by omega, rfl, Lib.hid ⟨fun _ => hxz.out, fun _ => hyz.out, fun _ => H.out⟩⟩
        case measure => simp [intOf]
      · have hb : (z != 0) = true := by simp [h]
        have H := Lib.hid h; clear h
        go_wp2
        go_ret
        exact ⟨ret_int (by unfold orN; rw [if_neg (by simpa using hxz.out), if_neg (by simpa using hyz.out)]), rfl⟩
    | 3 =>
      have hxz := Lib.hid (hz.out.1 (by omega))
      have hyz := Lib.hid (hz.out.2.1 (by omega))
      have hzz := Lib.hid (hz.out.2.2 (by omega))
      go_wp2
      go_ret
      exact ⟨ret_int (by rw [hxz.out, hyz.out, hzz.out]; rfl), rfl⟩
    | k + 4 => omega
end Go.Proofs.YtmadnehipagakaaGreatDoor
