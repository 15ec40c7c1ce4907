/- The reference's numbers answer as the plain answer says. -/
import Derived.Test.YtmadnehipagakaaGreatDoorRc
import Derived.Test.YtmadnehipagakaaGreatDoorRe
import Derived.Test.YtmadnehipagakaaGreatDoorRf
import Derived.Test.YtmadnehipagakaaGreatDoorBu
namespace Go.Proofs.YtmadnehipagakaaGreatDoor
open Go.RowKit Go.Lib Go.Sort KP
theorem all_yes {l : List Vl} (h : allInt l = true) : ∀ k (hk : k < l.length), l[k].1 = 1 := fun k hk => by
  unfold allInt at h
  simpa using List.all_eq_true.1 h _ (List.getElem_mem hk)
theorem all_not {l : List Vl} (h : allInt l = false) : ∃ k, ∃ hk : k < l.length, l[k].1 ≠ 1 := by
  unfold allInt at h
  rw [List.all_eq_false] at h
  obtain ⟨x, hx, h1⟩ := h
  obtain ⟨k, hk, rfl⟩ := List.getElem_of_mem hx
  exact ⟨k, hk, by simpa using h1⟩
theorem numsLen (l : List Vl) : (nums l).length = l.length := by unfold nums; simp
theorem fold_max : ∀ (l : List Int) (a : Int), foldO maxO a l = some (maxL a l)
  | [], a => rfl
  | b :: l, a => by
    show foldO maxO (if a < b then b else a) l = some (maxL (max a b) l)
    rw [show (if a < b then b else a) = max a b by rw [Int.max_def]; split <;> split <;> omega, fold_max l]
theorem fold_min : ∀ (l : List Int) (a : Int), foldO minO a l = some (minL a l)
  | [], a => rfl
  | b :: l, a => by
    show foldO minO (if b < a then b else a) l = some (minL (min a b) l)
    rw [show (if b < a then b else a) = min a b by rw [Int.min_def]; split <;> split <;> omega, fold_min l]
theorem rnum_mul (A : Option Addr) (c : Nat) (l : List Vl) (w : World) (hA : A = none → c = 0) (hv : ValsAt w A l) (hok : ∀ v ∈ l, okV v) (hl : l.length ≤ 1000000) (hf : fits (arity ⟨#[42]⟩) l.length = true) :
    Calls Tryz.prog 57 #[.string ⟨#[42]⟩, .slice A l.length c] w fun e w' => e = .returned (pairV (applyO ⟨#[42]⟩ l)) ∧ Below w.heap.size w w' := by
  rw [apply_of (k := 0) (by decide +kernel) hf (by decide +kernel), show applyN 0 l = if allInt l then numN 0 (nums l) else (v0, 8) from rfl]
  cases ha : allInt l
  · exact rnumbers_no ⟨#[42]⟩ A c l w hv hl (all_not ha)
  · have hall := all_yes ha
    have hok2 : ∀ k (h : k < l.length), okI l[k].2.1 := fun k h => (hok _ (List.getElem_mem h)).n
    rw [if_pos rfl]
    exact rown_mul A c l w hv hl hall hok2 hA
theorem rnum_add (A : Option Addr) (c : Nat) (l : List Vl) (w : World) (hA : A = none → c = 0) (hv : ValsAt w A l) (hok : ∀ v ∈ l, okV v) (hl : l.length ≤ 1000000) (hf : fits (arity ⟨#[43]⟩) l.length = true) :
    Calls Tryz.prog 57 #[.string ⟨#[43]⟩, .slice A l.length c] w fun e w' => e = .returned (pairV (applyO ⟨#[43]⟩ l)) ∧ Below w.heap.size w w' := by
  rw [apply_of (k := 1) (by decide +kernel) hf (by decide +kernel), show applyN 1 l = if allInt l then numN 1 (nums l) else (v0, 8) from rfl]
  cases ha : allInt l
  · exact rnumbers_no ⟨#[43]⟩ A c l w hv hl (all_not ha)
  · have hall := all_yes ha
    have hok2 : ∀ k (h : k < l.length), okI l[k].2.1 := fun k h => (hok _ (List.getElem_mem h)).n
    rw [if_pos rfl]
    exact rown_add A c l w hv hl hall hok2 hA
theorem rnum_eq (A : Option Addr) (c : Nat) (l : List Vl) (w : World) (_ : A = none → c = 0) (hv : ValsAt w A l) (hok : ∀ v ∈ l, okV v) (hl : l.length ≤ 1000000) (hf : fits (arity ⟨#[61]⟩) l.length = true) :
    Calls Tryz.prog 57 #[.string ⟨#[61]⟩, .slice A l.length c] w fun e w' => e = .returned (pairV (applyO ⟨#[61]⟩ l)) ∧ Below w.heap.size w w' := by
  rw [apply_of (k := 6) (by decide +kernel) hf (by decide +kernel), show applyN 6 l = if allInt l then numN 6 (nums l) else (v0, 8) from rfl]
  cases ha : allInt l
  · exact rnumbers_no ⟨#[61]⟩ A c l w hv hl (all_not ha)
  · have hall := all_yes ha
    have hok2 : ∀ k (h : k < l.length), okI l[k].2.1 := fun k h => (hok _ (List.getElem_mem h)).n
    rw [if_pos rfl]
    have hlo : 2 ≤ l.length ∧ l.length ≤ 2 := by
      rw [show arity ⟨#[61]⟩ = (2, 2) by decide +kernel] at hf
      unfold fits at hf
      simp at hf
      omega
    exact rnumbers_eq A c l w hv (by omega) hl hall
theorem rnum_ne (A : Option Addr) (c : Nat) (l : List Vl) (w : World) (_ : A = none → c = 0) (hv : ValsAt w A l) (hok : ∀ v ∈ l, okV v) (hl : l.length ≤ 1000000) (hf : fits (arity ⟨#[60, 62]⟩) l.length = true) :
    Calls Tryz.prog 57 #[.string ⟨#[60, 62]⟩, .slice A l.length c] w fun e w' => e = .returned (pairV (applyO ⟨#[60, 62]⟩ l)) ∧ Below w.heap.size w w' := by
  rw [apply_of (k := 5) (by decide +kernel) hf (by decide +kernel), show applyN 5 l = if allInt l then numN 5 (nums l) else (v0, 8) from rfl]
  cases ha : allInt l
  · exact rnumbers_no ⟨#[60, 62]⟩ A c l w hv hl (all_not ha)
  · have hall := all_yes ha
    have hok2 : ∀ k (h : k < l.length), okI l[k].2.1 := fun k h => (hok _ (List.getElem_mem h)).n
    rw [if_pos rfl]
    have hlo : 2 ≤ l.length ∧ l.length ≤ 2 := by
      rw [show arity ⟨#[60, 62]⟩ = (2, 2) by decide +kernel] at hf
      unfold fits at hf
      simp at hf
      omega
    exact rnumbers_ne A c l w hv (by omega) hl hall
theorem rnum_lt (A : Option Addr) (c : Nat) (l : List Vl) (w : World) (_ : A = none → c = 0) (hv : ValsAt w A l) (hok : ∀ v ∈ l, okV v) (hl : l.length ≤ 1000000) (hf : fits (arity ⟨#[60]⟩) l.length = true) :
    Calls Tryz.prog 57 #[.string ⟨#[60]⟩, .slice A l.length c] w fun e w' => e = .returned (pairV (applyO ⟨#[60]⟩ l)) ∧ Below w.heap.size w w' := by
  rw [apply_of (k := 3) (by decide +kernel) hf (by decide +kernel), show applyN 3 l = if allInt l then numN 3 (nums l) else (v0, 8) from rfl]
  cases ha : allInt l
  · exact rnumbers_no ⟨#[60]⟩ A c l w hv hl (all_not ha)
  · have hall := all_yes ha
    have hok2 : ∀ k (h : k < l.length), okI l[k].2.1 := fun k h => (hok _ (List.getElem_mem h)).n
    rw [if_pos rfl]
    have hlo : 2 ≤ l.length := by
      rw [show arity ⟨#[60]⟩ = (2, -1) by decide +kernel] at hf
      unfold fits at hf
      simp at hf
      omega
    exact rnumbers_lt A c l w hv (by omega) hl hall
theorem rnum_le (A : Option Addr) (c : Nat) (l : List Vl) (w : World) (_ : A = none → c = 0) (hv : ValsAt w A l) (hok : ∀ v ∈ l, okV v) (hl : l.length ≤ 1000000) (hf : fits (arity ⟨#[60, 61]⟩) l.length = true) :
    Calls Tryz.prog 57 #[.string ⟨#[60, 61]⟩, .slice A l.length c] w fun e w' => e = .returned (pairV (applyO ⟨#[60, 61]⟩ l)) ∧ Below w.heap.size w w' := by
  rw [apply_of (k := 4) (by decide +kernel) hf (by decide +kernel), show applyN 4 l = if allInt l then numN 4 (nums l) else (v0, 8) from rfl]
  cases ha : allInt l
  · exact rnumbers_no ⟨#[60, 61]⟩ A c l w hv hl (all_not ha)
  · have hall := all_yes ha
    have hok2 : ∀ k (h : k < l.length), okI l[k].2.1 := fun k h => (hok _ (List.getElem_mem h)).n
    rw [if_pos rfl]
    have hlo : 2 ≤ l.length := by
      rw [show arity ⟨#[60, 61]⟩ = (2, -1) by decide +kernel] at hf
      unfold fits at hf
      simp at hf
      omega
    exact rnumbers_le A c l w hv (by omega) hl hall
theorem rnum_gt (A : Option Addr) (c : Nat) (l : List Vl) (w : World) (_ : A = none → c = 0) (hv : ValsAt w A l) (hok : ∀ v ∈ l, okV v) (hl : l.length ≤ 1000000) (hf : fits (arity ⟨#[62]⟩) l.length = true) :
    Calls Tryz.prog 57 #[.string ⟨#[62]⟩, .slice A l.length c] w fun e w' => e = .returned (pairV (applyO ⟨#[62]⟩ l)) ∧ Below w.heap.size w w' := by
  rw [apply_of (k := 7) (by decide +kernel) hf (by decide +kernel), show applyN 7 l = if allInt l then numN 7 (nums l) else (v0, 8) from rfl]
  cases ha : allInt l
  · exact rnumbers_no ⟨#[62]⟩ A c l w hv hl (all_not ha)
  · have hall := all_yes ha
    have hok2 : ∀ k (h : k < l.length), okI l[k].2.1 := fun k h => (hok _ (List.getElem_mem h)).n
    rw [if_pos rfl]
    have hlo : 2 ≤ l.length := by
      rw [show arity ⟨#[62]⟩ = (2, -1) by decide +kernel] at hf
      unfold fits at hf
      simp at hf
      omega
    exact rnumbers_gt A c l w hv (by omega) hl hall
theorem rnum_ge (A : Option Addr) (c : Nat) (l : List Vl) (w : World) (_ : A = none → c = 0) (hv : ValsAt w A l) (hok : ∀ v ∈ l, okV v) (hl : l.length ≤ 1000000) (hf : fits (arity ⟨#[62, 61]⟩) l.length = true) :
    Calls Tryz.prog 57 #[.string ⟨#[62, 61]⟩, .slice A l.length c] w fun e w' => e = .returned (pairV (applyO ⟨#[62, 61]⟩ l)) ∧ Below w.heap.size w w' := by
  rw [apply_of (k := 8) (by decide +kernel) hf (by decide +kernel), show applyN 8 l = if allInt l then numN 8 (nums l) else (v0, 8) from rfl]
  cases ha : allInt l
  · exact rnumbers_no ⟨#[62, 61]⟩ A c l w hv hl (all_not ha)
  · have hall := all_yes ha
    have hok2 : ∀ k (h : k < l.length), okI l[k].2.1 := fun k h => (hok _ (List.getElem_mem h)).n
    rw [if_pos rfl]
    have hlo : 2 ≤ l.length := by
      rw [show arity ⟨#[62, 61]⟩ = (2, -1) by decide +kernel] at hf
      unfold fits at hf
      simp at hf
      omega
    exact rnumbers_ge A c l w hv (by omega) hl hall
theorem rnum_div (A : Option Addr) (c : Nat) (l : List Vl) (w : World) (_ : A = none → c = 0) (hv : ValsAt w A l) (hok : ∀ v ∈ l, okV v) (hl : l.length ≤ 1000000) (hf : fits (arity ⟨#[100, 105, 118]⟩) l.length = true) :
    Calls Tryz.prog 57 #[.string ⟨#[100, 105, 118]⟩, .slice A l.length c] w fun e w' => e = .returned (pairV (applyO ⟨#[100, 105, 118]⟩ l)) ∧ Below w.heap.size w w' := by
  rw [apply_of (k := 10) (by decide +kernel) hf (by decide +kernel), show applyN 10 l = if allInt l then numN 10 (nums l) else (v0, 8) from rfl]
  cases ha : allInt l
  · exact rnumbers_no ⟨#[100, 105, 118]⟩ A c l w hv hl (all_not ha)
  · have hall := all_yes ha
    have hok2 : ∀ k (h : k < l.length), okI l[k].2.1 := fun k h => (hok _ (List.getElem_mem h)).n
    rw [if_pos rfl]
    have hlo : 2 ≤ l.length ∧ l.length ≤ 2 := by
      rw [show arity ⟨#[100, 105, 118]⟩ = (2, 2) by decide +kernel] at hf
      unfold fits at hf
      simp at hf
      omega
    exact rfold_div A c l w hv (by omega) hl hall hok2
theorem rnum_mod (A : Option Addr) (c : Nat) (l : List Vl) (w : World) (_ : A = none → c = 0) (hv : ValsAt w A l) (hok : ∀ v ∈ l, okV v) (hl : l.length ≤ 1000000) (hf : fits (arity ⟨#[109, 111, 100]⟩) l.length = true) :
    Calls Tryz.prog 57 #[.string ⟨#[109, 111, 100]⟩, .slice A l.length c] w fun e w' => e = .returned (pairV (applyO ⟨#[109, 111, 100]⟩ l)) ∧ Below w.heap.size w w' := by
  rw [apply_of (k := 15) (by decide +kernel) hf (by decide +kernel), show applyN 15 l = if allInt l then numN 15 (nums l) else (v0, 8) from rfl]
  cases ha : allInt l
  · exact rnumbers_no ⟨#[109, 111, 100]⟩ A c l w hv hl (all_not ha)
  · have hall := all_yes ha
    have hok2 : ∀ k (h : k < l.length), okI l[k].2.1 := fun k h => (hok _ (List.getElem_mem h)).n
    rw [if_pos rfl]
    have hlo : 2 ≤ l.length ∧ l.length ≤ 2 := by
      rw [show arity ⟨#[109, 111, 100]⟩ = (2, 2) by decide +kernel] at hf
      unfold fits at hf
      simp at hf
      omega
    exact rfold_mod A c l w hv (by omega) hl hall hok2
theorem rnum_max (A : Option Addr) (c : Nat) (l : List Vl) (w : World) (_ : A = none → c = 0) (hv : ValsAt w A l) (hok : ∀ v ∈ l, okV v) (hl : l.length ≤ 1000000) (hf : fits (arity ⟨#[109, 97, 120]⟩) l.length = true) :
    Calls Tryz.prog 57 #[.string ⟨#[109, 97, 120]⟩, .slice A l.length c] w fun e w' => e = .returned (pairV (applyO ⟨#[109, 97, 120]⟩ l)) ∧ Below w.heap.size w w' := by
  rw [apply_of (k := 13) (by decide +kernel) hf (by decide +kernel), show applyN 13 l = if allInt l then numN 13 (nums l) else (v0, 8) from rfl]
  cases ha : allInt l
  · exact rnumbers_no ⟨#[109, 97, 120]⟩ A c l w hv hl (all_not ha)
  · have hall := all_yes ha
    have hok2 : ∀ k (h : k < l.length), okI l[k].2.1 := fun k h => (hok _ (List.getElem_mem h)).n
    rw [if_pos rfl]
    have hlo : 1 ≤ l.length := by
      rw [show arity ⟨#[109, 97, 120]⟩ = (1, -1) by decide +kernel] at hf
      unfold fits at hf
      simp at hf
      omega
    have h := rfold_max A c l w hv (by omega) hl hall hok2
    rw [fold_max] at h
    exact h
theorem rnum_min (A : Option Addr) (c : Nat) (l : List Vl) (w : World) (_ : A = none → c = 0) (hv : ValsAt w A l) (hok : ∀ v ∈ l, okV v) (hl : l.length ≤ 1000000) (hf : fits (arity ⟨#[109, 105, 110]⟩) l.length = true) :
    Calls Tryz.prog 57 #[.string ⟨#[109, 105, 110]⟩, .slice A l.length c] w fun e w' => e = .returned (pairV (applyO ⟨#[109, 105, 110]⟩ l)) ∧ Below w.heap.size w w' := by
  rw [apply_of (k := 14) (by decide +kernel) hf (by decide +kernel), show applyN 14 l = if allInt l then numN 14 (nums l) else (v0, 8) from rfl]
  cases ha : allInt l
  · exact rnumbers_no ⟨#[109, 105, 110]⟩ A c l w hv hl (all_not ha)
  · have hall := all_yes ha
    have hok2 : ∀ k (h : k < l.length), okI l[k].2.1 := fun k h => (hok _ (List.getElem_mem h)).n
    rw [if_pos rfl]
    have hlo : 1 ≤ l.length := by
      rw [show arity ⟨#[109, 105, 110]⟩ = (1, -1) by decide +kernel] at hf
      unfold fits at hf
      simp at hf
      omega
    have h := rfold_min A c l w hv (by omega) hl hall hok2
    rw [fold_min] at h
    exact h
theorem rnum_sub (A : Option Addr) (c : Nat) (l : List Vl) (w : World) (_ : A = none → c = 0) (hv : ValsAt w A l) (hok : ∀ v ∈ l, okV v) (hl : l.length ≤ 1000000) (hf : fits (arity ⟨#[45]⟩) l.length = true) :
    Calls Tryz.prog 57 #[.string ⟨#[45]⟩, .slice A l.length c] w fun e w' => e = .returned (pairV (applyO ⟨#[45]⟩ l)) ∧ Below w.heap.size w w' := by
  rw [apply_of (k := 2) (by decide +kernel) hf (by decide +kernel), show applyN 2 l = if allInt l then numN 2 (nums l) else (v0, 8) from rfl]
  cases ha : allInt l
  · exact rnumbers_no ⟨#[45]⟩ A c l w hv hl (all_not ha)
  · have hall := all_yes ha
    have hok2 : ∀ k (h : k < l.length), okI l[k].2.1 := fun k h => (hok _ (List.getElem_mem h)).n
    rw [if_pos rfl]
    have hlo : 1 ≤ l.length := by
      rw [show arity ⟨#[45]⟩ = (1, -1) by decide +kernel] at hf
      unfold fits at hf
      simp at hf
      omega
    by_cases h1 : l.length = 1
    · rw [show numN 2 (nums l) = outP (foldO subO 0 (nums l)) from (show (if (nums l).length ≤ 1 then outP (foldO subO 0 (nums l)) else outP (foldO subO ((nums l).headD 0) (nums l).tail)) = _ by rw [if_pos (by rw [numsLen]; omega)])]
      exact rown_sub A c l w hv hl hall hok2 h1
    · rw [show numN 2 (nums l) = outP (foldO subO ((nums l).headD 0) (nums l).tail) from (show (if (nums l).length ≤ 1 then outP (foldO subO 0 (nums l)) else outP (foldO subO ((nums l).headD 0) (nums l).tail)) = _ by rw [if_neg (by rw [numsLen]; omega)])]
      exact rfold_sub A c l w hv (by omega) hl hall hok2 h1
theorem rnum_abs (A : Option Addr) (c : Nat) (l : List Vl) (w : World) (_ : A = none → c = 0) (hv : ValsAt w A l) (hok : ∀ v ∈ l, okV v) (hl : l.length ≤ 1000000) (hf : fits (arity ⟨#[97, 98, 115]⟩) l.length = true) :
    Calls Tryz.prog 57 #[.string ⟨#[97, 98, 115]⟩, .slice A l.length c] w fun e w' => e = .returned (pairV (applyO ⟨#[97, 98, 115]⟩ l)) ∧ Below w.heap.size w w' := by
  rw [apply_of (k := 9) (by decide +kernel) hf (by decide +kernel), show applyN 9 l = if allInt l then numN 9 (nums l) else (v0, 8) from rfl]
  cases ha : allInt l
  · exact rnumbers_no ⟨#[97, 98, 115]⟩ A c l w hv hl (all_not ha)
  · have hall := all_yes ha
    have hok2 : ∀ k (h : k < l.length), okI l[k].2.1 := fun k h => (hok _ (List.getElem_mem h)).n
    rw [if_pos rfl]
    have hlo : 1 ≤ l.length ∧ l.length ≤ 1 := by
      rw [show arity ⟨#[97, 98, 115]⟩ = (1, 1) by decide +kernel] at hf
      unfold fits at hf
      simp at hf
      omega
    have h1 : l.length = 1 := by omega
    by_cases h0 : 0 ≤ (nums l).headD 0
    · have h := rfold_abs A c l w hv (by omega) hl hall hok2 h0
      rw [show numN 9 (nums l) = (vI ((nums l).headD 0), 0) from (show (if 0 ≤ (nums l).headD 0 then (vI ((nums l).headD 0), (0 : Int)) else outP (foldO subO 0 (nums l))) = _ by rw [if_pos h0])]
      have ht : (nums l).tail = [] := by
        apply List.eq_nil_of_length_eq_zero
        rw [List.length_tail, numsLen]; omega
      rw [ht] at h
      exact h
    · rw [show numN 9 (nums l) = outP (foldO subO 0 (nums l)) from (show (if 0 ≤ (nums l).headD 0 then (vI ((nums l).headD 0), (0 : Int)) else outP (foldO subO 0 (nums l))) = _ by rw [if_neg h0])]
      refine rown_abs A c l w hv hl hall hok2 h1 ?_
      intro k hk
      match l, h1, h0, k, hk with
      | [v], _, h0, 0, _ => simp [nums] at h0; simpa using h0
end Go.Proofs.YtmadnehipagakaaGreatDoor
