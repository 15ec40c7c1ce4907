/- The reference's Apply, whole. -/
import Derived.Test.YtmadnehipagakaaGreatDoorRw
import Derived.Test.YtmadnehipagakaaGreatDoorRp
import Derived.Test.YtmadnehipagakaaGreatDoorOa
namespace Go.Proofs.YtmadnehipagakaaGreatDoor
open Go.RowKit Go.Lib Go.Sort KP
theorem right_size {v : Vl} (h : rightB v = true) (hr : cameV v) : (plainS v).size ≤ 1000 := by
  unfold plainS textS
  have hs : v.2.2.size ≤ 1000 := by
    unfold rightB at h
    split at h
    · rw [empty_size h]; omega
    · split at h
      · have h2 : symB v.2.2 = true := by simp at h; exact h.2
        unfold symB at h2
        simp at h2
        omega
      · split at h
        · simp at h; omega
        · cases h
  split
  · exact hs
  · split
    · unfold itoaB
      have := itoa_length_le v.2.1 hr.n.1 hr.n.2
      show (itoa v.2.1).toArray.size ≤ _
      simp; omega
    · exact hs
theorem right_kinds {v : Vl} (h : rightB v = true) : v.1 = 1 ∨ v.1 = 2 ∨ v.1 = 3 := by
  unfold rightB at h
  split at h
  · exact .inl ‹_›
  · split at h
    · exact .inr (.inl ‹_›)
    · split at h
      · exact .inr (.inr ‹_›)
      · cases h
theorem fit_of {p : Int × Int} {n : Nat} (h : fits p n = true) : p.1 ≤ n ∧ (p.2 = -1 ∨ (n : Int) ≤ p.2) := by
  unfold fits at h
  simp at h
  omega
theorem two_of {l : List Vl} (h : l.length = 2) : ∃ a b, l = [a, b] := by
  match l, h with
  | [a, b], _ => exact ⟨a, b, rfl⟩
theorem one_of {l : List Vl} (h : l.length = 1) : ∃ a, l = [a] := by
  match l, h with
  | [a], _ => exact ⟨a, rfl⟩
theorem rapply_c (s : ByteArray) (A : Option Addr) (c : Nat) (l : List Vl) (w : World) (hA : A = none → c = 0) (hv : ValsAt w A l) (hx : ∀ v ∈ l, cameV v) (hr : ∀ v ∈ l, rightB v = true) (hl : l.length ≤ 30) :
    Calls Tryz.prog 14 #[.string s, .slice A l.length c] w fun e w' => e = .returned (pairV (applyO s l)) ∧ Below w.heap.size w w' := by
  have hok : ∀ v ∈ l, okV v := fun v h => right_okV (hr v h) (hx v h)
  have hps : ∀ v ∈ l, (plainS v).size ≤ 1000 := fun v h => right_size (hr v h) (hx v h)
  cases hk : knownB s
  · rw [show applyO s l = (v0, 5) by unfold applyO; rw [if_pos hk]]
    exact rapply_unknown s hk A _ c w
  · cases hf : fits (arity s) l.length
    · rw [show applyO s l = (v0, 1) by unfold applyO; rw [if_neg (by rw [hk]; decide), if_pos hf]]
      exact rapply_nofit s hk A _ c hf w
    · have hm : s ∈ namB := (Lib.containsS_iff _ _).1 hk
      rcases name_cases hm with rfl | rfl | rfl | rfl | rfl | rfl | rfl | rfl | rfl | rfl | rfl | rfl | rfl | rfl | rfl | rfl | rfl | rfl | rfl | rfl | rfl
      · exact rapply_mul A c l w hA hv hok (by omega) hf
      · exact rapply_add A c l w hA hv hok (by omega) hf
      · exact rapply_sub A c l w hA hv hok (by omega) hf
      · exact rapply_lt A c l w hA hv hok (by omega) hf
      · exact rapply_le A c l w hA hv hok (by omega) hf
      · exact rapply_ne A c l w hA hv hok (by omega) hf
      · exact rapply_eq A c l w hA hv hok (by omega) hf
      · exact rapply_gt A c l w hA hv hok (by omega) hf
      · exact rapply_ge A c l w hA hv hok (by omega) hf
      · exact rapply_abs A c l w hA hv hok (by omega) hf
      · exact rapply_div A c l w hA hv hok (by omega) hf
      · rw [apply_of (k := 11) (by decide +kernel) hf (by decide +kernel)]
        have h2 := fit_of hf
        rw [show arity ⟨#[101, 113]⟩ = (2, 2) by decide +kernel] at h2
        obtain ⟨a, b, rfl⟩ := two_of (show l.length = 2 by simp at h2; omega)
        exact rapply_eqv A c a b w hv
      · rw [apply_of (k := 12) (by decide +kernel) hf (by decide +kernel)]
        have h2 := fit_of hf
        rw [show arity ⟨#[108, 101, 110, 103, 116, 104]⟩ = (1, 1) by decide +kernel] at h2
        obtain ⟨a, rfl⟩ := one_of (show l.length = 1 by simp at h2; omega)
        by_cases h3 : a.1 = 3
        · rw [show applyN 12 [a] = (vI a.2.2.size, 0) from if_neg (by simpa using h3)]
          exact rapply_len A c a w hv h3
        · rw [show applyN 12 [a] = (v0, 8) from if_pos (by simpa using h3)]
          exact rapply_len_no A c a w hv h3
      · exact rapply_max A c l w hA hv hok (by omega) hf
      · exact rapply_min A c l w hA hv hok (by omega) hf
      · exact rapply_mod A c l w hA hv hok (by omega) hf
      · rw [apply_of (k := 16) (by decide +kernel) hf (by decide +kernel)]
        have h2 := fit_of hf
        rw [show arity ⟨#[110, 101, 113]⟩ = (2, 2) by decide +kernel] at h2
        obtain ⟨a, b, rfl⟩ := two_of (show l.length = 2 by simp at h2; omega)
        exact rapply_neqv A c a b w hv
      · rw [apply_of (k := 17) (by decide +kernel) hf (by decide +kernel)]
        have h2 := fit_of hf
        rw [show arity ⟨#[110, 111, 116]⟩ = (1, 1) by decide +kernel] at h2
        obtain ⟨a, rfl⟩ := one_of (show l.length = 1 by simp at h2; omega)
        exact rapply_not A c a w hv
      · rw [apply_of (k := 18) (by decide +kernel) hf (by decide +kernel)]
        rw [show applyN 18 l = strCat l from rfl]
        by_cases h3 : (cat l).size ≤ 1000
        · rw [show strCat l = (vT (cat l), 0) by unfold strCat joinO; rw [if_pos h3]; rfl]
          exact rapply_str_yes A c l w hv hok hps hl hf h3
        · rw [show strCat l = (v0, 4) by unfold strCat joinO; rw [if_neg h3]; rfl]
          exact rapply_str_no A c l w hv hok hps hl hf (by omega)
      · rw [apply_of (k := 19) (by decide +kernel) hf (by decide +kernel)]
        rw [show applyN 19 l = symCat l from rfl]
        by_cases h3 : (cat l).size ≤ 40
        · cases h4 : rightB (vS (cat l))
          · rw [show symCat l = (v0, 2) by unfold symCat joinO; rw [if_pos h3]; simp [h4]]
            exact rapply_sym_bad A c l w hv hok hps hl hf h3 h4
          · rw [show symCat l = (vS (cat l), 0) by unfold symCat joinO; rw [if_pos h3]; simp [h4]]
            exact rapply_sym_yes A c l w hv hok hps hl hf h3 h4
        · rw [show symCat l = (v0, 4) by unfold symCat joinO; rw [if_neg h3]; rfl]
          exact rapply_sym_no A c l w hv hok hps hl hf (by omega)
      · rw [apply_of (k := 20) (by decide +kernel) hf (by decide +kernel)]
        have h2 := fit_of hf
        rw [show arity ⟨#[116, 121, 112, 101]⟩ = (1, 1) by decide +kernel] at h2
        obtain ⟨a, rfl⟩ := one_of (show l.length = 1 by simp at h2; omega)
        rcases right_kinds (hr a (by simp)) with h3 | h3 | h3
        · exact rapply_type1 A c a w hv h3
        · exact rapply_type2 A c a w hv h3
        · exact rapply_type3 A c a w hv h3
end Go.Proofs.YtmadnehipagakaaGreatDoor
