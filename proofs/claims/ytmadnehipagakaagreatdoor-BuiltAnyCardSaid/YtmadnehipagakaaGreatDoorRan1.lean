/- What is answered without an error is a value. -/
import Derived.Test.YtmadnehipagakaaGreatDoorRz
import Derived.Test.YtmadnehipagakaaGreatDoorLv
namespace Go.Proofs.YtmadnehipagakaaGreatDoor
open Go.RowKit Go.Lib Go.Sort KP
theorem rright_v (a : Vl) (r : Bool) (h : rightB a = r) (hs : cameV a) (W : World) : Calls Tryz.prog 12 #[a.val] W fun e w' => e = .returned (.bool r) ∧ Below W.heap.size W w' := by
  rw [← h]; exact rright_c a W hs.s
theorem right_len {v : Vl} (h : rightB v = true) : v.2.2.size ≤ 1000 := by
  unfold rightB at h
  split at h
  · rw [empty_size h]; omega
  · split at h
    · have h2 : symB v.2.2 = true := by simp at h; exact h.2
      unfold symB at h2
      simp at h2
      omega
    · split at h
      · simp at h; omega
      · cases h
theorem int_right (x : Int) : rightB (vI x) = true := by
  unfold rightB; rw [if_pos rfl]
  show (⟨#[]⟩ : ByteArray).toList.isEmpty = true
  decide +kernel
theorem outP_right (o : Option Int) (h : (outP o).2 = 0) : rightB (outP o).1 = true := by
  cases o with
  | none => simp [outP, rE] at h
  | some x => exact int_right x
theorem num_right (k : Nat) (l : List Int) (hk : k = 0 ∨ k = 1 ∨ k = 2 ∨ k = 3 ∨ k = 4 ∨ k = 5 ∨ k = 6 ∨ k = 7 ∨ k = 8 ∨ k = 9 ∨ k = 10 ∨ k = 13 ∨ k = 14 ∨ k = 15) (h : (numN k l).2 = 0) : rightB (numN k l).1 = true := by
  have hB : ∀ b, rightB (vB b) = true := by intro b; cases b <;> decide +kernel
  rcases hk with rfl | rfl | rfl | rfl | rfl | rfl | rfl | rfl | rfl | rfl | rfl | rfl | rfl | rfl
  · exact outP_right _ h
  · exact outP_right _ h
  · change (if l.length ≤ 1 then outP (foldO subO 0 l) else outP (foldO subO (l.headD 0) l.tail)).2 = 0 at h
    show rightB (if l.length ≤ 1 then outP (foldO subO 0 l) else outP (foldO subO (l.headD 0) l.tail)).1 = true
    by_cases h2 : l.length ≤ 1
    · rw [if_pos h2] at h ⊢; exact outP_right _ h
    · rw [if_neg h2] at h ⊢; exact outP_right _ h
  · exact hB _
  · exact hB _
  · exact hB _
  · exact hB _
  · exact hB _
  · exact hB _
  · change (if 0 ≤ l.headD 0 then ((vI (l.headD 0), 0) : Vl × Int) else outP (foldO subO 0 l)).2 = 0 at h
    show rightB (if 0 ≤ l.headD 0 then ((vI (l.headD 0), 0) : Vl × Int) else outP (foldO subO 0 l)).1 = true
    by_cases h2 : 0 ≤ l.headD 0
    · rw [if_pos h2]; exact int_right _
    · rw [if_neg h2] at h ⊢; exact outP_right _ h
  · exact outP_right _ h
  · exact int_right _
  · exact int_right _
  · exact outP_right _ h
theorem code_lt {s : ByteArray} (h : knownB s = true) : code s < 21 := by
  have hm : s ∈ namB := (Lib.containsS_iff _ _).1 h
  rcases name_cases hm with rfl | rfl | rfl | rfl | rfl | rfl | rfl | rfl | rfl | rfl | rfl | rfl | rfl | rfl | rfl | rfl | rfl | rfl | rfl | rfl | rfl
  all_goals decide +kernel
theorem applyN_right (k : Nat) (hk : k < 21) (l : List Vl) (hl : ∀ v ∈ l, rightB v = true) (hn : k = 20 → l ≠ []) (h : (applyN k l).2 = 0) : rightB (applyN k l).1 = true := by
  have hB : ∀ b, rightB (vB b) = true := by intro b; cases b <;> decide +kernel
  have hN : ∀ k, (k = 0 ∨ k = 1 ∨ k = 2 ∨ k = 3 ∨ k = 4 ∨ k = 5 ∨ k = 6 ∨ k = 7 ∨ k = 8 ∨ k = 9 ∨ k = 10 ∨ k = 13 ∨ k = 14 ∨ k = 15) → (if allInt l then numN k (nums l) else (v0, 8)).2 = 0 → rightB (if allInt l then numN k (nums l) else (v0, 8)).1 = true := by
    intro k hk h
    split at h
    · rename_i h2; rw [if_pos h2]; exact num_right _ _ hk h
    · simp at h
  by_cases e11 : k = 11
  · subst e11; exact hB _
  by_cases e16 : k = 16
  · subst e16; exact hB _
  by_cases e17 : k = 17
  · subst e17; exact hB _
  by_cases e12 : k = 12
  · subst e12
    change (if (l.headD v0).1 ≠ 3 then ((v0, 8) : Vl × Int) else (vI (l.headD v0).2.2.size, 0)).2 = 0 at h
    show rightB (if (l.headD v0).1 ≠ 3 then ((v0, 8) : Vl × Int) else (vI (l.headD v0).2.2.size, 0)).1 = true
    by_cases h2 : (l.headD v0).1 ≠ 3
    · rw [if_pos h2] at h; simp at h
    · rw [if_neg h2]; exact int_right _
  by_cases e20 : k = 20
  · subst e20
    obtain ⟨a, l', rfl⟩ : ∃ a l', l = a :: l' := by
      cases l with
      | nil => exact absurd rfl (hn rfl)
      | cons a l' => exact ⟨a, l', rfl⟩
    show rightB (vS (typeS a.1)) = true
    rcases right_kinds (hl a (by simp)) with h3 | h3 | h3 <;> rw [h3] <;> decide +kernel
  by_cases e19 : k = 19
  · subst e19
    show rightB (symCat l).1 = true
    change (symCat l).2 = 0 at h
    unfold symCat at h ⊢
    split at h
    · rename_i h2; exact absurd h h2
    · rename_i h2
      rw [if_neg h2]
      split at h
      · rename_i h3; rw [if_pos h3]; exact h3
      · simp at h
  by_cases e18 : k = 18
  · subst e18
    show rightB (strCat l).1 = true
    change (strCat l).2 = 0 at h
    unfold strCat at h ⊢
    split at h
    · rename_i h2; exact absurd h h2
    · rename_i h2
      rw [if_neg h2]
      unfold joinO at h2 ⊢
      split at h2
      · rename_i h3; rw [if_pos h3]; simp [rightB, h3]
      · simp at h2
  have h14 : k = 0 ∨ k = 1 ∨ k = 2 ∨ k = 3 ∨ k = 4 ∨ k = 5 ∨ k = 6 ∨ k = 7 ∨ k = 8 ∨ k = 9 ∨ k = 10 ∨ k = 13 ∨ k = 14 ∨ k = 15 := by omega
  have := hN k h14
  rcases h14 with rfl | rfl | rfl | rfl | rfl | rfl | rfl | rfl | rfl | rfl | rfl | rfl | rfl | rfl <;> exact this h
/-- What is answered without an error is a value. -/
theorem apply_right (s : ByteArray) (l : List Vl) (hl : ∀ v ∈ l, rightB v = true) (h : (applyO s l).2 = 0) : rightB (applyO s l).1 = true := by
  unfold applyO at h ⊢
  split at h
  · simp at h
  · rename_i hk
    have hk' : knownB s = true := by simpa using hk
    rw [if_neg hk]
    split at h
    · simp at h
    · rename_i hf
      rw [if_neg hf]
      refine applyN_right _ (code_lt hk') l hl ?_ h
      rintro hc rfl
      apply hf
      have hm : s ∈ namB := (Lib.containsS_iff _ _).1 hk'
      rcases name_cases hm with rfl | rfl | rfl | rfl | rfl | rfl | rfl | rfl | rfl | rfl | rfl | rfl | rfl | rfl | rfl | rfl | rfl | rfl | rfl | rfl | rfl
      all_goals first | (exact absurd hc (by decide +kernel)) | decide +kernel
end Go.Proofs.YtmadnehipagakaaGreatDoor
