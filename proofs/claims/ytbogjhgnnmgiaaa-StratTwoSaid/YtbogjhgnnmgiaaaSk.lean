/- StratThree: the plain law: the order is one order. -/
import Derived.Test.YtbogjhgnnmgiaaaSi
namespace Go.Proofs.Ytbogjhgnnmgiaaa
open Go.Lib

theorem cI_lt {x y : Int} : cI x y < 0 ↔ x < y := by unfold cI Lib.compareInt; split <;> (try split) <;> omega
theorem cI_gt {x y : Int} : 0 < cI x y ↔ y < x := by unfold cI Lib.compareInt; split <;> (try split) <;> omega
theorem cI_eq {x y : Int} : cI x y = 0 ↔ x = y := by unfold cI Lib.compareInt; split <;> (try split) <;> omega

/-- Three comparisons of one order. -/
def TR (p q r : Int) : Prop := (p ≤ 0 → q ≤ 0 → r ≤ 0 ∧ (r = 0 → p = 0 ∧ q = 0)) ∧ (0 ≤ p → 0 ≤ q → 0 ≤ r ∧ (r = 0 → p = 0 ∧ q = 0))
theorem TR.or {p q r P Q R : Int} (h : TR p q r) (h' : TR P Q R) : TR (orI p P) (orI q Q) (orI r R) := by
  unfold TR orI at *
  split <;> split <;> split <;> constructor <;> intro a b <;> constructor <;> omega
theorem TR.cI (x y z : Int) : TR (Lib.compareInt x y) (Lib.compareInt y z) (Lib.compareInt x z) := by
  have a1 := @cI_lt x y
  have a3 := @cI_gt x y
  have b1 := @cI_lt y z
  have b3 := @cI_gt y z
  have d1 := @cI_lt x z
  have d3 := @cI_gt x z
  unfold Ytbogjhgnnmgiaaa.cI at *
  unfold TR
  constructor <;> intro a b <;> constructor <;> omega
theorem TR.cIr (x y z : Int) : TR (Lib.compareInt y x) (Lib.compareInt z y) (Lib.compareInt z x) := by
  have a1 := @cI_lt y x
  have a3 := @cI_gt y x
  have b1 := @cI_lt z y
  have b3 := @cI_gt z y
  have d1 := @cI_lt z x
  have d3 := @cI_gt z x
  unfold Ytbogjhgnnmgiaaa.cI at *
  unfold TR
  constructor <;> intro a b <;> constructor <;> omega
theorem TR.zero : TR 0 0 0 := by unfold TR; constructor <;> intro a b <;> constructor <;> omega
theorem TR.list : ∀ l m n : List Int, TR (cmpList m l) (cmpList n m) (cmpList n l)
  | [], [], [] => TR.zero
  | [], [], _ :: _ => by simp [TR, cmpList]
  | [], _ :: _, [] => by simp [TR, cmpList]
  | [], _ :: _, _ :: _ => by
    simp only [TR, cmpList]; constructor <;> intro a b <;> constructor <;> (try split at b) <;> (try split) <;> omega
  | _ :: _, [], [] => by simp [TR, cmpList]
  | _ :: _, [], _ :: _ => by
    simp only [TR, cmpList]; constructor <;> intro a b <;> constructor <;> (try split at b) <;> (try split) <;> omega
  | _ :: _, _ :: _, [] => by
    simp only [TR, cmpList]; constructor <;> intro a b <;> constructor <;> (try split at a) <;> (try split) <;> omega
  | x :: xs, y :: ys, z :: zs => TR.or (TR.cIr x y z) (TR.list xs ys zs)
theorem TR.r5 (l1 : List Int) (sp1 bo1 : Int) (l2 : List Int) (sp2 bo2 : Int) (l3 : List Int) (sp3 bo3 : Int) : TR (rank5 l1 sp1 bo1 l2 sp2 bo2) (rank5 l2 sp2 bo2 l3 sp3 bo3) (rank5 l1 sp1 bo1 l3 sp3 bo3) :=
  TR.or (TR.list _ _ _) (TR.or (TR.cIr _ _ _) (TR.cIr _ _ _))
theorem TR.rk (s : Int) (a b c : AV) : TR (rk s a b) (rk s b c) (rk s a c) := by
  unfold Ytbogjhgnnmgiaaa.rk rankF
  refine TR.or (TR.cIr _ _ _) ?_
  by_cases e2 : s = 2
  · rw [if_pos e2, if_pos e2, if_pos e2]; exact TR.cI _ _ _
  rw [if_neg e2, if_neg e2, if_neg e2]
  by_cases e3 : s = 3
  · rw [if_pos e3, if_pos e3, if_pos e3]; exact TR.or (TR.cI _ _ _) (TR.cIr _ _ _)
  rw [if_neg e3, if_neg e3, if_neg e3]
  by_cases e7 : s = 7
  · rw [if_pos e7, if_pos e7, if_pos e7]; exact TR.or (TR.cI _ _ _) (TR.cIr _ _ _)
  rw [if_neg e7, if_neg e7, if_neg e7]
  by_cases e6 : s = 6
  · rw [if_pos e6, if_pos e6, if_pos e6]; exact TR.or (TR.cIr _ _ _) (TR.r5 _ _ _ _ _ _ _ _ _)
  rw [if_neg e6, if_neg e6, if_neg e6]
  by_cases e5 : s = 5
  · rw [if_pos e5, if_pos e5, if_pos e5]; exact TR.r5 _ _ _ _ _ _ _ _ _
  rw [if_neg e5, if_neg e5, if_neg e5]
  by_cases e4 : s = 4
  · rw [if_pos e4, if_pos e4, if_pos e4]; exact TR.or (TR.cIr _ _ _) (TR.cIr _ _ _)
  rw [if_neg e4, if_neg e4, if_neg e4]
  exact TR.or TR.zero (TR.cIr _ _ _)
theorem before_trans (s : Int) (a b c : AV) (h1 : before s a b = true) (h2 : before s b c = true) : before s a c = true := by
  unfold before at *
  have h := TR.rk s a b c
  have h1 := of_decide_eq_true h1
  have h2 := of_decide_eq_true h2
  refine decide_eq_true ?_
  have h3 := h.1 (by omega) (by omega)
  have h4 := h3.2
  omega
end Go.Proofs.Ytbogjhgnnmgiaaa
