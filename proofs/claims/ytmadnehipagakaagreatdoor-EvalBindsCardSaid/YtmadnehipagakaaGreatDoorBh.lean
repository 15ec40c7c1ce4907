/- built.holds; slices.Min, slices.Max. -/
import Derived.Test.YtmadnehipagakaaGreatDoorBa
namespace Go.Proofs.YtmadnehipagakaaGreatDoor
open Go.RowKit Go.Lib Go.Sort KP
theorem holds_0 (a b : Int) (w : World) : Calls Tryz.prog 50 #[.string ⟨#[61]⟩, .int .i64 a, .int .i64 b] w fun e w' => e = .returned (.bool (decide (a = b))) ∧ w = w' := by
  go_enter Tryz.func50, Tryz.ntmps50
  go_wp2_with fail
  go_ret
  exact ⟨ret_bool (by first | rfl | (rw [Bool.eq_iff_iff]; simp; done) | (rw [Bool.eq_iff_iff]; simp; omega)), rfl⟩
theorem holds_1 (a b : Int) (w : World) : Calls Tryz.prog 50 #[.string ⟨#[60, 62]⟩, .int .i64 a, .int .i64 b] w fun e w' => e = .returned (.bool (decide (a ≠ b))) ∧ w = w' := by
  go_enter Tryz.func50, Tryz.ntmps50
  go_wp2_with fail
  go_ret
  exact ⟨ret_bool (by first | rfl | (rw [Bool.eq_iff_iff]; simp; done) | (rw [Bool.eq_iff_iff]; simp; omega)), rfl⟩
theorem holds_2 (a b : Int) (w : World) : Calls Tryz.prog 50 #[.string ⟨#[60]⟩, .int .i64 a, .int .i64 b] w fun e w' => e = .returned (.bool (decide (a < b))) ∧ w = w' := by
  go_enter Tryz.func50, Tryz.ntmps50
  go_wp2_with fail
  go_ret
  exact ⟨ret_bool (by first | rfl | (rw [Bool.eq_iff_iff]; simp; done) | (rw [Bool.eq_iff_iff]; simp; omega)), rfl⟩
theorem holds_3 (a b : Int) (w : World) : Calls Tryz.prog 50 #[.string ⟨#[60, 61]⟩, .int .i64 a, .int .i64 b] w fun e w' => e = .returned (.bool (decide (a ≤ b))) ∧ w = w' := by
  go_enter Tryz.func50, Tryz.ntmps50
  go_wp2_with fail
  go_ret
  exact ⟨ret_bool (by first | rfl | (rw [Bool.eq_iff_iff]; simp; done) | (rw [Bool.eq_iff_iff]; simp; omega)), rfl⟩
theorem holds_4 (a b : Int) (w : World) : Calls Tryz.prog 50 #[.string ⟨#[62]⟩, .int .i64 a, .int .i64 b] w fun e w' => e = .returned (.bool (decide (b < a))) ∧ w = w' := by
  go_enter Tryz.func50, Tryz.ntmps50
  go_wp2_with fail
  go_ret
  exact ⟨ret_bool (by first | rfl | (rw [Bool.eq_iff_iff]; simp; done) | (rw [Bool.eq_iff_iff]; simp; omega)), rfl⟩
theorem holds_5 (a b : Int) (w : World) : Calls Tryz.prog 50 #[.string ⟨#[62, 61]⟩, .int .i64 a, .int .i64 b] w fun e w' => e = .returned (.bool (decide (b ≤ a))) ∧ w = w' := by
  go_enter Tryz.func50, Tryz.ntmps50
  go_wp2_with fail
  go_ret
  exact ⟨ret_bool (by first | rfl | (rw [Bool.eq_iff_iff]; simp; done) | (rw [Bool.eq_iff_iff]; simp; omega)), rfl⟩
def minL : Int → List Int → Int
  | a, [] => a
  | a, b :: l => minL (min a b) l
theorem minL_take (a : Int) (l : List Int) (k : Nat) (h : k < l.length) : minL a (l.take (k + 1)) = min (minL a (l.take k)) l[k] := by
  induction l generalizing a k with
  | nil => simp at h
  | cons b l ih =>
    cases k with
    | zero => rfl
    | succ k => exact ih (min a b) k (by simpa using h)
theorem min_c (x : Int) (l : List Int) (A : Option Addr) (c : Nat) (w : World) (hr : RowAt w (Value.int .i64) A (x :: l)) (hl : l.length ≤ 1000000) :
    Calls Tryz.prog 80 #[.slice A (x :: l).length c] w fun e w' => e = .returned (.int .i64 (minL x l)) ∧ w = w' := by
  obtain ⟨ad, hA, _, h0⟩ := hr 0 (by simp)
  have h0' : w.cell? ad = some (.int .i64 x) := by simpa [Addr.add] using h0
  clear h0
  have R : Hid (∀ k (h : k < l.length), w.cell? ⟨ad.block, ad.off + (k + 1), none⟩ = some (.int .i64 l[k])) := Lib.hid (fun k h => by
    obtain ⟨ad', e, _, hc⟩ := hr (k + 1) (by simpa using h)
    rw [hA] at e
    injection e with e
    subst e
    rw [← show ad.add (k + 1) = ⟨ad.block, ad.off + (k + 1), none⟩ by simp [Addr.add]]
    exact hc)
  subst hA
  clear hr
  obtain ⟨n, hn⟩ : ∃ n, n = l.length := ⟨_, rfl⟩
  have e1 : (x :: l).length = n + 1 := by simp [hn]
  rw [e1]
  have hn1 : (n : Int) ≤ 1000000 := by omega
  have HN := Lib.hid hn
  clear hn hl e1
  go_enter Tryz.func80, Tryz.ntmps80
  go_wp2_with fail
  go_loop [3, 4] (fun m i => ∃ k : Nat, k ≤ n ∧ i = .int .i64 ((k : Int) + 1) ∧ ∃ y : Int, m = .int .i64 y ∧ Hid (y = minL x (l.take k))) (fun _ i => n + 1 - (intOf i).toNat)
  case atStart => exact ⟨0, by omega, rfl, x, rfl, Lib.hid rfl⟩
  case round =>
    obtain ⟨k, hk, rfl, y, rfl, hy⟩ := hrel
    by_cases hlt : k < n
    · have hltI : (k : Int) < (n : Int) := by omega
      have hlt2 : k < l.length := by have := HN.out; omega
      have hc := R.out k hlt2
      have hq := Lib.hid (minL_take x l k hlt2)
      generalize l[k] = z at *
      go_wp2_with fail
      exact ⟨⟨k + 1, by omega, by go_num, _, rfl, Lib.hid (by rw [hq.out, hy.out])⟩, by simp [intOf]; omega⟩
    · obtain rfl : k = n := by omega
      go_wp2_with fail
      go_ret
      exact ⟨ret_int (by rw [hy.out, HN.out, List.take_length]), rfl⟩
def maxL : Int → List Int → Int
  | a, [] => a
  | a, b :: l => maxL (max a b) l
theorem maxL_take (a : Int) (l : List Int) (k : Nat) (h : k < l.length) : maxL a (l.take (k + 1)) = max (maxL a (l.take k)) l[k] := by
  induction l generalizing a k with
  | nil => simp at h
  | cons b l ih =>
    cases k with
    | zero => rfl
    | succ k => exact ih (max a b) k (by simpa using h)
theorem max_c (x : Int) (l : List Int) (A : Option Addr) (c : Nat) (w : World) (hr : RowAt w (Value.int .i64) A (x :: l)) (hl : l.length ≤ 1000000) :
    Calls Tryz.prog 81 #[.slice A (x :: l).length c] w fun e w' => e = .returned (.int .i64 (maxL x l)) ∧ w = w' := by
  obtain ⟨ad, hA, _, h0⟩ := hr 0 (by simp)
  have h0' : w.cell? ad = some (.int .i64 x) := by simpa [Addr.add] using h0
  clear h0
  have R : Hid (∀ k (h : k < l.length), w.cell? ⟨ad.block, ad.off + (k + 1), none⟩ = some (.int .i64 l[k])) := Lib.hid (fun k h => by
    obtain ⟨ad', e, _, hc⟩ := hr (k + 1) (by simpa using h)
    rw [hA] at e
    injection e with e
    subst e
    rw [← show ad.add (k + 1) = ⟨ad.block, ad.off + (k + 1), none⟩ by simp [Addr.add]]
    exact hc)
  subst hA
  clear hr
  obtain ⟨n, hn⟩ : ∃ n, n = l.length := ⟨_, rfl⟩
  have e1 : (x :: l).length = n + 1 := by simp [hn]
  rw [e1]
  have hn1 : (n : Int) ≤ 1000000 := by omega
  have HN := Lib.hid hn
  clear hn hl e1
  go_enter Tryz.func81, Tryz.ntmps81
  go_wp2_with fail
  go_loop [3, 4] (fun m i => ∃ k : Nat, k ≤ n ∧ i = .int .i64 ((k : Int) + 1) ∧ ∃ y : Int, m = .int .i64 y ∧ Hid (y = maxL x (l.take k))) (fun _ i => n + 1 - (intOf i).toNat)
  case atStart => exact ⟨0, by omega, rfl, x, rfl, Lib.hid rfl⟩
  case round =>
    obtain ⟨k, hk, rfl, y, rfl, hy⟩ := hrel
    by_cases hlt : k < n
    · have hltI : (k : Int) < (n : Int) := by omega
      have hlt2 : k < l.length := by have := HN.out; omega
      have hc := R.out k hlt2
      have hq := Lib.hid (maxL_take x l k hlt2)
      generalize l[k] = z at *
      go_wp2_with fail
      exact ⟨⟨k + 1, by omega, by go_num, _, rfl, Lib.hid (by rw [hq.out, hy.out])⟩, by simp [intOf]; omega⟩
    · obtain rfl : k = n := by omega
      go_wp2_with fail
      go_ret
      exact ⟨ret_int (by rw [hy.out, HN.out, List.take_length]), rfl⟩
end Go.Proofs.YtmadnehipagakaaGreatDoor
