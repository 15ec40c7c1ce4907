/- The reference's names: Arity, Known, Fits. -/
import Derived.Test.YtmadnehipagakaaGreatDoorBp
namespace Go.Proofs.YtmadnehipagakaaGreatDoor
open Go.RowKit Go.Lib Go.Sort KP
def namV : Array Value := #[.string ⟨#[42]⟩, .string ⟨#[43]⟩, .string ⟨#[45]⟩, .string ⟨#[60]⟩, .string ⟨#[60, 61]⟩, .string ⟨#[60, 62]⟩, .string ⟨#[61]⟩, .string ⟨#[62]⟩, .string ⟨#[62, 61]⟩, .string ⟨#[97, 98, 115]⟩, .string ⟨#[100, 105, 118]⟩, .string ⟨#[101, 113]⟩, .string ⟨#[108, 101, 110, 103, 116, 104]⟩, .string ⟨#[109, 97, 120]⟩, .string ⟨#[109, 105, 110]⟩, .string ⟨#[109, 111, 100]⟩, .string ⟨#[110, 101, 113]⟩, .string ⟨#[110, 111, 116]⟩, .string ⟨#[115, 116, 114, 45, 99, 97, 116]⟩, .string ⟨#[115, 121, 109, 45, 99, 97, 116]⟩, .string ⟨#[116, 121, 112, 101]⟩]
theorem namV_at (j : Nat) (h : j < namB.length) : namV[j]? = some (.string namB[j]) := by
  have key : ∀ j : Fin 21, namV[j.val]? = (namB[j.val]?).map Value.string := by
    intro j
    match j with
    | ⟨0, _⟩ => rfl
    | ⟨1, _⟩ => rfl
    | ⟨2, _⟩ => rfl
    | ⟨3, _⟩ => rfl
    | ⟨4, _⟩ => rfl
    | ⟨5, _⟩ => rfl
    | ⟨6, _⟩ => rfl
    | ⟨7, _⟩ => rfl
    | ⟨8, _⟩ => rfl
    | ⟨9, _⟩ => rfl
    | ⟨10, _⟩ => rfl
    | ⟨11, _⟩ => rfl
    | ⟨12, _⟩ => rfl
    | ⟨13, _⟩ => rfl
    | ⟨14, _⟩ => rfl
    | ⟨15, _⟩ => rfl
    | ⟨16, _⟩ => rfl
    | ⟨17, _⟩ => rfl
    | ⟨18, _⟩ => rfl
    | ⟨19, _⟩ => rfl
    | ⟨20, _⟩ => rfl
    | ⟨k + 21, h⟩ => omega
  have := key ⟨j, h⟩
  rw [List.getElem?_eq_getElem h] at this
  exact this
theorem nb_lt {k : Nat} (h : k < 21) : k < namB.length := h
theorem rnames_c (w : World) : Calls Tryz.prog 59 #[] w fun e w' => e = .returned (.slice (some ⟨w.heap.size, 0, none⟩) 21 21) ∧ w'.heap[w.heap.size]? = some (.cells namV 9 (0, 0)) ∧ Below w.heap.size w w' := by
  have h0 : Hid (Below w.heap.size w (w.alloc (.cells namV 9))) := Lib.hid ((Below.refl _ _).alloc (Nat.le_refl _) _)
  have h1 : Hid ((w.alloc (.cells namV 9)).heap[w.heap.size]? = some (.cells namV 9 (0, 0))) := Lib.hid (heap_alloc_new w _)
  go_enter Tryz.func59, Tryz.ntmps59
  go_wp2_with fail
  go_ret
  exact ⟨rfl, h1.out, h0.out⟩
theorem rarity_0 (w : World) : Calls Tryz.prog 16 #[.string ⟨#[42]⟩] w fun e w' => e = .returned (.tuple #[.int .i64 0, .int .i64 (-1)]) ∧ w = w' := by
  go_enter Tryz.func16, Tryz.ntmps16
  go_wp2_with fail
  go_ret2
  exact ⟨rfl, rfl⟩
theorem rarity_1 (w : World) : Calls Tryz.prog 16 #[.string ⟨#[43]⟩] w fun e w' => e = .returned (.tuple #[.int .i64 0, .int .i64 (-1)]) ∧ w = w' := by
  go_enter Tryz.func16, Tryz.ntmps16
  go_wp2_with fail
  go_ret2
  exact ⟨rfl, rfl⟩
theorem rarity_2 (w : World) : Calls Tryz.prog 16 #[.string ⟨#[45]⟩] w fun e w' => e = .returned (.tuple #[.int .i64 1, .int .i64 (-1)]) ∧ w = w' := by
  go_enter Tryz.func16, Tryz.ntmps16
  go_wp2_with fail
  go_ret2
  exact ⟨rfl, rfl⟩
theorem rarity_3 (w : World) : Calls Tryz.prog 16 #[.string ⟨#[60]⟩] w fun e w' => e = .returned (.tuple #[.int .i64 2, .int .i64 (-1)]) ∧ w = w' := by
  go_enter Tryz.func16, Tryz.ntmps16
  go_wp2_with fail
  go_ret2
  exact ⟨rfl, rfl⟩
theorem rarity_4 (w : World) : Calls Tryz.prog 16 #[.string ⟨#[60, 61]⟩] w fun e w' => e = .returned (.tuple #[.int .i64 2, .int .i64 (-1)]) ∧ w = w' := by
  go_enter Tryz.func16, Tryz.ntmps16
  go_wp2_with fail
  go_ret2
  exact ⟨rfl, rfl⟩
theorem rarity_5 (w : World) : Calls Tryz.prog 16 #[.string ⟨#[60, 62]⟩] w fun e w' => e = .returned (.tuple #[.int .i64 2, .int .i64 (2)]) ∧ w = w' := by
  go_enter Tryz.func16, Tryz.ntmps16
  go_wp2_with fail
  go_ret2
  exact ⟨rfl, rfl⟩
theorem rarity_6 (w : World) : Calls Tryz.prog 16 #[.string ⟨#[61]⟩] w fun e w' => e = .returned (.tuple #[.int .i64 2, .int .i64 (2)]) ∧ w = w' := by
  go_enter Tryz.func16, Tryz.ntmps16
  go_wp2_with fail
  go_ret2
  exact ⟨rfl, rfl⟩
theorem rarity_7 (w : World) : Calls Tryz.prog 16 #[.string ⟨#[62]⟩] w fun e w' => e = .returned (.tuple #[.int .i64 2, .int .i64 (-1)]) ∧ w = w' := by
  go_enter Tryz.func16, Tryz.ntmps16
  go_wp2_with fail
  go_ret2
  exact ⟨rfl, rfl⟩
theorem rarity_8 (w : World) : Calls Tryz.prog 16 #[.string ⟨#[62, 61]⟩] w fun e w' => e = .returned (.tuple #[.int .i64 2, .int .i64 (-1)]) ∧ w = w' := by
  go_enter Tryz.func16, Tryz.ntmps16
  go_wp2_with fail
  go_ret2
  exact ⟨rfl, rfl⟩
theorem rarity_9 (w : World) : Calls Tryz.prog 16 #[.string ⟨#[97, 98, 115]⟩] w fun e w' => e = .returned (.tuple #[.int .i64 1, .int .i64 (1)]) ∧ w = w' := by
  go_enter Tryz.func16, Tryz.ntmps16
  go_wp2_with fail
  go_ret2
  exact ⟨rfl, rfl⟩
theorem rarity_10 (w : World) : Calls Tryz.prog 16 #[.string ⟨#[100, 105, 118]⟩] w fun e w' => e = .returned (.tuple #[.int .i64 2, .int .i64 (2)]) ∧ w = w' := by
  go_enter Tryz.func16, Tryz.ntmps16
  go_wp2_with fail
  go_ret2
  exact ⟨rfl, rfl⟩
theorem rarity_11 (w : World) : Calls Tryz.prog 16 #[.string ⟨#[101, 113]⟩] w fun e w' => e = .returned (.tuple #[.int .i64 2, .int .i64 (2)]) ∧ w = w' := by
  go_enter Tryz.func16, Tryz.ntmps16
  go_wp2_with fail
  go_ret2
  exact ⟨rfl, rfl⟩
theorem rarity_12 (w : World) : Calls Tryz.prog 16 #[.string ⟨#[108, 101, 110, 103, 116, 104]⟩] w fun e w' => e = .returned (.tuple #[.int .i64 1, .int .i64 (1)]) ∧ w = w' := by
  go_enter Tryz.func16, Tryz.ntmps16
  go_wp2_with fail
  go_ret2
  exact ⟨rfl, rfl⟩
theorem rarity_13 (w : World) : Calls Tryz.prog 16 #[.string ⟨#[109, 97, 120]⟩] w fun e w' => e = .returned (.tuple #[.int .i64 1, .int .i64 (-1)]) ∧ w = w' := by
  go_enter Tryz.func16, Tryz.ntmps16
  go_wp2_with fail
  go_ret2
  exact ⟨rfl, rfl⟩
theorem rarity_14 (w : World) : Calls Tryz.prog 16 #[.string ⟨#[109, 105, 110]⟩] w fun e w' => e = .returned (.tuple #[.int .i64 1, .int .i64 (-1)]) ∧ w = w' := by
  go_enter Tryz.func16, Tryz.ntmps16
  go_wp2_with fail
  go_ret2
  exact ⟨rfl, rfl⟩
theorem rarity_15 (w : World) : Calls Tryz.prog 16 #[.string ⟨#[109, 111, 100]⟩] w fun e w' => e = .returned (.tuple #[.int .i64 2, .int .i64 (2)]) ∧ w = w' := by
  go_enter Tryz.func16, Tryz.ntmps16
  go_wp2_with fail
  go_ret2
  exact ⟨rfl, rfl⟩
theorem rarity_16 (w : World) : Calls Tryz.prog 16 #[.string ⟨#[110, 101, 113]⟩] w fun e w' => e = .returned (.tuple #[.int .i64 2, .int .i64 (2)]) ∧ w = w' := by
  go_enter Tryz.func16, Tryz.ntmps16
  go_wp2_with fail
  go_ret2
  exact ⟨rfl, rfl⟩
theorem rarity_17 (w : World) : Calls Tryz.prog 16 #[.string ⟨#[110, 111, 116]⟩] w fun e w' => e = .returned (.tuple #[.int .i64 1, .int .i64 (1)]) ∧ w = w' := by
  go_enter Tryz.func16, Tryz.ntmps16
  go_wp2_with fail
  go_ret2
  exact ⟨rfl, rfl⟩
theorem rarity_18 (w : World) : Calls Tryz.prog 16 #[.string ⟨#[115, 116, 114, 45, 99, 97, 116]⟩] w fun e w' => e = .returned (.tuple #[.int .i64 0, .int .i64 (-1)]) ∧ w = w' := by
  go_enter Tryz.func16, Tryz.ntmps16
  go_wp2_with fail
  go_ret2
  exact ⟨rfl, rfl⟩
theorem rarity_19 (w : World) : Calls Tryz.prog 16 #[.string ⟨#[115, 121, 109, 45, 99, 97, 116]⟩] w fun e w' => e = .returned (.tuple #[.int .i64 1, .int .i64 (-1)]) ∧ w = w' := by
  go_enter Tryz.func16, Tryz.ntmps16
  go_wp2_with fail
  go_ret2
  exact ⟨rfl, rfl⟩
theorem rarity_20 (w : World) : Calls Tryz.prog 16 #[.string ⟨#[116, 121, 112, 101]⟩] w fun e w' => e = .returned (.tuple #[.int .i64 1, .int .i64 (1)]) ∧ w = w' := by
  go_enter Tryz.func16, Tryz.ntmps16
  go_wp2_with fail
  go_ret2
  exact ⟨rfl, rfl⟩
theorem rarity_n (s : ByteArray) (h : s ∉ namB) (w : World) : Calls Tryz.prog 16 #[.string s] w fun e w' => e = .returned (.tuple #[.int .i64 0, .int .i64 0]) ∧ w = w' := by
  obtain ⟨_, _, _, _, _, _, _, _, _, _, _, _, _, _, _, _, _, _, _, _, _⟩ := noName h
  clear h
  go_enter Tryz.func16, Tryz.ntmps16
  go_wp2_with fail
  go_ret2
  exact ⟨rfl, rfl⟩
theorem rarity_c (s : ByteArray) (w : World) : Calls Tryz.prog 16 #[.string s] w fun e w' => e = .returned (.tuple #[.int .i64 (arity s).1, .int .i64 (arity s).2]) ∧ w = w' := by
  by_cases h : s ∈ namB
  · rcases name_cases h with rfl | rfl | rfl | rfl | rfl | rfl | rfl | rfl | rfl | rfl | rfl | rfl | rfl | rfl | rfl | rfl | rfl | rfl | rfl | rfl | rfl
    · exact rarity_0 w
    · exact rarity_1 w
    · exact rarity_2 w
    · exact rarity_3 w
    · exact rarity_4 w
    · exact rarity_5 w
    · exact rarity_6 w
    · exact rarity_7 w
    · exact rarity_8 w
    · exact rarity_9 w
    · exact rarity_10 w
    · exact rarity_11 w
    · exact rarity_12 w
    · exact rarity_13 w
    · exact rarity_14 w
    · exact rarity_15 w
    · exact rarity_16 w
    · exact rarity_17 w
    · exact rarity_18 w
    · exact rarity_19 w
    · exact rarity_20 w
  · rw [arity_no h]
    exact rarity_n s h w
theorem tol_ne {x s : ByteArray} (h : x ≠ s) : (x.toList == s.toList) = false := by
  rw [beq_eq_false_iff_ne]
  intro e
  apply h
  apply ba_ext
  rwa [ByteArray.toList_eq, ByteArray.toList_eq] at e
set_option maxHeartbeats 2000000 in
theorem rknown_c (s : ByteArray) (w : World) : Calls Tryz.prog 19 #[.string s] w fun e w' => e = .returned (.bool (knownB s)) ∧ Below w.heap.size w w' := by
  have HK : Hid (∀ k (h : k < namB.length), namB[k] = s → knownB s = true) := Lib.hid (fun k h e => known_yes (e ▸ List.getElem_mem h))
  have HN : Hid ((∀ k (h : k < namB.length), namB[k] ≠ s) → knownB s = false) := Lib.hid (fun h => known_no (fun hm => by
    obtain ⟨k, hk, e⟩ := List.getElem_of_mem hm
    exact h k hk e))
  generalize knownB s = b at *
  go_enter Tryz.func19, Tryz.ntmps19
  go_wp2_with fail
  refine (rnames_c _).mono ?_
  rintro e w1 ⟨rfl, hm, b1⟩
  have E1 := Lib.hid b1
  have RL : Hid (∀ k (h : k < namB.length), w1.cell? ⟨w.heap.size, k, none⟩ = some (.string namB[k])) := Lib.hid (fun k hk => block_cell hm (namV_at k hk))
  clear hm b1
  go_wp2_with fail
  go_loopw [4] (fun i wr => ∃ k : Nat, k ≤ 21 ∧ i = .int .i64 k ∧ Hid (∀ j (h : j < namB.length), j < k → namB[j] ≠ s) ∧ wr = w1) (fun i _ => 21 - (intOf i).toNat)
  case atStart => exact ⟨0, by omega, rfl, Lib.hid (fun j _ h => by omega), by first | rfl | trivial⟩
  case round =>
    obtain ⟨k, hk, rfl, hJ, rfl⟩ := hrel
    by_cases hlt : k < 21
    · have hltI : (k : Int) < 21 := by omega
      have hc := RL.out k hlt
      by_cases he : namB[k] = s
      · have hb := HK.out k hlt he
        rw [he] at hc
        clear he
        subst hb
        go_wp2_with fail
        go_ret
        exact ⟨rfl, E1.out⟩
      · have hne := tol_ne he
        have hJ2 : Hid (∀ j (h : j < namB.length), j < k + 1 → namB[j] ≠ s) := Lib.hid (fun j h h2 => by
          by_cases e2 : j = k
          · subst e2; exact he
          · exact hJ.out j h (by omega))
        clear he
        generalize namB[k] = x at *
        go_wp2_with fail
        exact ⟨⟨k + 1, by omega, by go_num, hJ2, by first | rfl | trivial⟩, by simp [intOf]; omega⟩
    · obtain rfl : k = 21 := by omega
      have hb := HN.out (fun j h => hJ.out j h h)
      subst hb
      go_wp2_with fail
      go_ret
      exact ⟨rfl, E1.out⟩
theorem arity_hi (s : ByteArray) : (arity s).2 = -1 ∨ 0 ≤ (arity s).2 := by
  by_cases h : s ∈ namB
  · rcases name_cases h with rfl | rfl | rfl | rfl | rfl | rfl | rfl | rfl | rfl | rfl | rfl | rfl | rfl | rfl | rfl | rfl | rfl | rfl | rfl | rfl | rfl <;> decide +kernel
  · rw [arity_no h]; right; decide
theorem rfits_c (s : ByteArray) (n : Nat) (w : World) : Calls Tryz.prog 53 #[.string s, .int .i64 n] w fun e w' => e = .returned (.bool (fits (arity s) n)) ∧ w = w' := by
  have AC := Lib.hid (fun W => rarity_c s W)
  have hh := arity_hi s
  generalize arity s = p at *
  obtain ⟨lo, hi⟩ := p
  dsimp only at AC hh
  by_cases h1 : (n : Int) < lo
  · have HF : Hid (fits (lo, hi) n = false) := Lib.hid (by unfold fits; simp [h1])
    clear hh
    go_enter Tryz.func53, Tryz.ntmps53
    go_wp2_with fail
    refine (AC.out _).mono ?_
    rintro e w' ⟨rfl, rfl⟩
    go_wp2_with fail
    go_ret
    exact ⟨by rw [HF.out]; rfl, rfl⟩
  · have h2 : lo ≤ (n : Int) := by omega
    by_cases h3 : hi < 0
    · have HF : Hid (fits (lo, hi) n = true) := Lib.hid (by
        obtain rfl : hi = -1 := by omega
        unfold fits; simp; omega)
      clear hh h1
      go_enter Tryz.func53, Tryz.ntmps53
      go_wp2_with fail
      refine (AC.out _).mono ?_
      rintro e w' ⟨rfl, rfl⟩
      go_wp2_with fail
      go_ret
      exact ⟨by rw [HF.out]; rfl, rfl⟩
    · have h4 : 0 ≤ hi := by omega
      by_cases h5 : (n : Int) ≤ hi
      · have HF : Hid (fits (lo, hi) n = true) := Lib.hid (by unfold fits; simp; omega)
        clear hh h1 h3
        go_enter Tryz.func53, Tryz.ntmps53
        go_wp2_with fail
        refine (AC.out _).mono ?_
        rintro e w' ⟨rfl, rfl⟩
        go_wp2_with fail
        go_ret
        exact ⟨by rw [HF.out]; rfl, rfl⟩
      · have h6 : hi < (n : Int) := by omega
        have HF : Hid (fits (lo, hi) n = false) := Lib.hid (by unfold fits; simp; omega)
        clear hh h1 h3 h5
        go_enter Tryz.func53, Tryz.ntmps53
        go_wp2_with fail
        refine (AC.out _).mono ?_
        rintro e w' ⟨rfl, rfl⟩
        go_wp2_with fail
        go_ret
        exact ⟨by
          rw [HF.out]
          show Ending.returned (.bool (decide (hi < 0) || decide ((n : Int) ≤ hi))) = _
          rw [decide_eq_false (by omega), decide_eq_false (by omega)]; rfl, rfl⟩
end Go.Proofs.YtmadnehipagakaaGreatDoor
