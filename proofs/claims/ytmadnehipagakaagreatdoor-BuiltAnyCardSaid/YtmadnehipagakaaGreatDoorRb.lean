/- The reference's operations: two, holds. -/
import Derived.Test.YtmadnehipagakaaGreatDoorRa
import Derived.Test.YtmadnehipagakaaGreatDoorBp
namespace Go.Proofs.YtmadnehipagakaaGreatDoor
open Go.RowKit Go.Lib Go.Sort KP
def minO (a b : Int) : Option Int := some (if b < a then b else a)
def maxO (a b : Int) : Option Int := some (if a < b then b else a)
theorem two_add (a b : Int) (w : World) (ha : okI a) (hb : okI b) : Calls Tryz.prog 86 #[.string ⟨#[43]⟩, .int .i64 a, .int .i64 b] w fun e w' => e = .returned (numV (addO a b)) ∧ w = w' := by
  have C : Hid (∀ W, Calls Tryz.prog _ #[.int .i64 a, .int .i64 b] W fun e w' => e = .returned (numV (addO a b)) ∧ W = w') := Lib.hid (fun W => radd_c a b W ha hb)
  clear ha hb
  generalize addO a b = o at *
  go_enter Tryz.func86, Tryz.ntmps86
  go_wp2_with fail
  refine (C.out _).mono ?_
  rintro e w' ⟨rfl, rfl⟩
  unfold numV
  go_wp2_with fail
  go_ret2
  exact ⟨rfl, rfl⟩
theorem two_mul (a b : Int) (w : World) (ha : okI a) (hb : okI b) : Calls Tryz.prog 86 #[.string ⟨#[42]⟩, .int .i64 a, .int .i64 b] w fun e w' => e = .returned (numV (mulO a b)) ∧ w = w' := by
  have C : Hid (∀ W, Calls Tryz.prog _ #[.int .i64 a, .int .i64 b] W fun e w' => e = .returned (numV (mulO a b)) ∧ W = w') := Lib.hid (fun W => rmul_c a b W ha hb)
  clear ha hb
  generalize mulO a b = o at *
  go_enter Tryz.func86, Tryz.ntmps86
  go_wp2_with fail
  refine (C.out _).mono ?_
  rintro e w' ⟨rfl, rfl⟩
  unfold numV
  go_wp2_with fail
  go_ret2
  exact ⟨rfl, rfl⟩
theorem two_div (a b : Int) (w : World) (ha : okI a) (hb : okI b) : Calls Tryz.prog 86 #[.string ⟨#[100, 105, 118]⟩, .int .i64 a, .int .i64 b] w fun e w' => e = .returned (numV (divO a b)) ∧ w = w' := by
  have C : Hid (∀ W, Calls Tryz.prog _ #[.int .i64 a, .int .i64 b] W fun e w' => e = .returned (numV (divO a b)) ∧ W = w') := Lib.hid (fun W => rdiv_c a b W ha hb)
  clear ha hb
  generalize divO a b = o at *
  go_enter Tryz.func86, Tryz.ntmps86
  go_wp2_with fail
  refine (C.out _).mono ?_
  rintro e w' ⟨rfl, rfl⟩
  unfold numV
  go_wp2_with fail
  go_ret2
  exact ⟨rfl, rfl⟩
theorem two_mod (a b : Int) (w : World) (ha : okI a) (hb : okI b) : Calls Tryz.prog 86 #[.string ⟨#[109, 111, 100]⟩, .int .i64 a, .int .i64 b] w fun e w' => e = .returned (numV (modO a b)) ∧ w = w' := by
  have C : Hid (∀ W, Calls Tryz.prog _ #[.int .i64 a, .int .i64 b] W fun e w' => e = .returned (numV (modO a b)) ∧ W = w') := Lib.hid (fun W => rmod_c a b W ha hb)
  clear ha hb
  generalize modO a b = o at *
  go_enter Tryz.func86, Tryz.ntmps86
  go_wp2_with fail
  refine (C.out _).mono ?_
  rintro e w' ⟨rfl, rfl⟩
  unfold numV
  go_wp2_with fail
  go_ret2
  exact ⟨rfl, rfl⟩
theorem two_sub (a b : Int) (w : World) (ha : okI a) (hb : okI b) : Calls Tryz.prog 86 #[.string ⟨#[45]⟩, .int .i64 a, .int .i64 b] w fun e w' => e = .returned (numV (subO a b)) ∧ w = w' := by
  have C : Hid (∀ W, Calls Tryz.prog _ #[.int .i64 a, .int .i64 b] W fun e w' => e = .returned (numV (subO a b)) ∧ W = w') := Lib.hid (fun W => rsub_c a b W ha hb)
  clear ha hb
  generalize subO a b = o at *
  go_enter Tryz.func86, Tryz.ntmps86
  go_wp2_with fail
  refine (C.out _).mono ?_
  rintro e w' ⟨rfl, rfl⟩
  unfold numV
  go_wp2_with fail
  go_ret2
  exact ⟨rfl, rfl⟩
theorem two_abs (a b : Int) (w : World) (ha : okI a) (hb : okI b) : Calls Tryz.prog 86 #[.string ⟨#[97, 98, 115]⟩, .int .i64 a, .int .i64 b] w fun e w' => e = .returned (numV (subO a b)) ∧ w = w' := by
  have C : Hid (∀ W, Calls Tryz.prog _ #[.int .i64 a, .int .i64 b] W fun e w' => e = .returned (numV (subO a b)) ∧ W = w') := Lib.hid (fun W => rsub_c a b W ha hb)
  clear ha hb
  generalize subO a b = o at *
  go_enter Tryz.func86, Tryz.ntmps86
  go_wp2_with fail
  refine (C.out _).mono ?_
  rintro e w' ⟨rfl, rfl⟩
  unfold numV
  go_wp2_with fail
  go_ret2
  exact ⟨rfl, rfl⟩
theorem two_min (a b : Int) (w : World) (_ : okI a) (_ : okI b) : Calls Tryz.prog 86 #[.string ⟨#[109, 105, 110]⟩, .int .i64 a, .int .i64 b] w fun e w' => e = .returned (numV (minO a b)) ∧ w = w' := by
  by_cases h : b < a
  · have H : Hid (minO a b = some b) := Lib.hid (by unfold minO; rw [if_pos h])
    go_enter Tryz.func86, Tryz.ntmps86
    go_wp2_with fail
    go_ret2
    exact ⟨num_some H.out, rfl⟩
  · have H : Hid (minO a b = some a) := Lib.hid (by unfold minO; rw [if_neg h])
    go_enter Tryz.func86, Tryz.ntmps86
    go_wp2_with fail
    go_ret2
    exact ⟨num_some H.out, rfl⟩
theorem two_max (a b : Int) (w : World) (_ : okI a) (_ : okI b) : Calls Tryz.prog 86 #[.string ⟨#[109, 97, 120]⟩, .int .i64 a, .int .i64 b] w fun e w' => e = .returned (numV (maxO a b)) ∧ w = w' := by
  by_cases h : a < b
  · have H : Hid (maxO a b = some b) := Lib.hid (by unfold maxO; rw [if_pos h])
    go_enter Tryz.func86, Tryz.ntmps86
    go_wp2_with fail
    go_ret2
    exact ⟨num_some H.out, rfl⟩
  · have H : Hid (maxO a b = some a) := Lib.hid (by unfold maxO; rw [if_neg h])
    go_enter Tryz.func86, Tryz.ntmps86
    go_wp2_with fail
    go_ret2
    exact ⟨num_some H.out, rfl⟩
theorem holds_eq (a b : Int) (w : World) : Calls Tryz.prog 85 #[.string ⟨#[61]⟩, .int .i64 a, .int .i64 b] w fun e w' => e = .returned (.bool (decide (a = b))) ∧ w = w' := by
  by_cases h : a = b
  · subst h
    go_enter Tryz.func85, Tryz.ntmps85
    go_wp2_with fail
    go_ret
    exact ⟨by simp, rfl⟩
  · have e1 : (a == b) = false := by simp [h]
    have e2 : (a != b) = true := by simp [h]
    have H : Hid (decide (a = b) = false) := Lib.hid (by simp [h])
    clear h
    go_enter Tryz.func85, Tryz.ntmps85
    go_wp2_with fail
    go_ret
    exact ⟨by rw [H.out]; rfl, rfl⟩
theorem holds_ne (a b : Int) (w : World) : Calls Tryz.prog 85 #[.string ⟨#[60, 62]⟩, .int .i64 a, .int .i64 b] w fun e w' => e = .returned (.bool (decide (a ≠ b))) ∧ w = w' := by
  by_cases h : a = b
  · subst h
    go_enter Tryz.func85, Tryz.ntmps85
    go_wp2_with fail
    go_ret
    exact ⟨by simp, rfl⟩
  · have e1 : (a == b) = false := by simp [h]
    have e2 : (a != b) = true := by simp [h]
    have H : Hid (decide (a ≠ b) = true) := Lib.hid (by simp [h])
    clear h
    go_enter Tryz.func85, Tryz.ntmps85
    go_wp2_with fail
    go_ret
    exact ⟨by rw [H.out]; rfl, rfl⟩
theorem holds_lt (a b : Int) (w : World) : Calls Tryz.prog 85 #[.string ⟨#[60]⟩, .int .i64 a, .int .i64 b] w fun e w' => e = .returned (.bool (decide (a < b))) ∧ w = w' := by
  go_enter Tryz.func85, Tryz.ntmps85
  go_wp2_with fail
  go_ret
  exact ⟨rfl, rfl⟩
theorem holds_le (a b : Int) (w : World) : Calls Tryz.prog 85 #[.string ⟨#[60, 61]⟩, .int .i64 a, .int .i64 b] w fun e w' => e = .returned (.bool (decide (a ≤ b))) ∧ w = w' := by
  go_enter Tryz.func85, Tryz.ntmps85
  go_wp2_with fail
  go_ret
  exact ⟨rfl, rfl⟩
theorem holds_gt (a b : Int) (w : World) : Calls Tryz.prog 85 #[.string ⟨#[62]⟩, .int .i64 a, .int .i64 b] w fun e w' => e = .returned (.bool (decide (b < a))) ∧ w = w' := by
  go_enter Tryz.func85, Tryz.ntmps85
  go_wp2_with fail
  go_ret
  exact ⟨rfl, rfl⟩
theorem holds_ge (a b : Int) (w : World) : Calls Tryz.prog 85 #[.string ⟨#[62, 61]⟩, .int .i64 a, .int .i64 b] w fun e w' => e = .returned (.bool (decide (b ≤ a))) ∧ w = w' := by
  go_enter Tryz.func85, Tryz.ntmps85
  go_wp2_with fail
  go_ret
  exact ⟨rfl, rfl⟩
theorem chain_snoc (p : Int → Int → Bool) (x y : Int) : ∀ l : List Int, chainB p (l ++ [x, y]) = (chainB p (l ++ [x]) && p x y)
  | [] => by show (p x y && true) = (true && p x y); cases p x y <;> rfl
  | [a] => by show (p a x && (p x y && true)) = ((p a x && true) && p x y); cases p a x <;> cases p x y <;> rfl
  | a :: b :: l => by
    show (p a b && chainB p (b :: l ++ [x, y])) = ((p a b && chainB p (b :: l ++ [x])) && p x y)
    rw [chain_snoc p x y (b :: l), Bool.and_assoc]
theorem chain_step (p : Int → Int → Bool) {l : List Int} {j : Nat} (h : j + 1 < l.length) : chainB p (l.take (j + 2)) = (chainB p (l.take (j + 1)) && p l[j] l[j + 1]) := by
  rw [List.take_succ_eq_append_getElem h, List.take_succ_eq_append_getElem (show j < l.length by omega), List.append_assoc]
  exact chain_snoc p _ _ _
end Go.Proofs.YtmadnehipagakaaGreatDoor
