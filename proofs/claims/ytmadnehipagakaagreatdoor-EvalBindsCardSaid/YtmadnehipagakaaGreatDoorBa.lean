/- built.Arity. -/
import Derived.Test.YtmadnehipagakaaGreatDoorBm
namespace Go.Proofs.YtmadnehipagakaaGreatDoor
open Go.RowKit Go.Lib Go.Sort KP
def arT : List (ByteArray × Int × Int) := [(⟨#[42]⟩, 0, -1), (⟨#[43]⟩, 0, -1), (⟨#[45]⟩, 1, -1), (⟨#[60]⟩, 2, -1), (⟨#[60, 61]⟩, 2, -1), (⟨#[60, 62]⟩, 2, 2), (⟨#[61]⟩, 2, 2), (⟨#[62]⟩, 2, -1), (⟨#[62, 61]⟩, 2, -1), (⟨#[97, 98, 115]⟩, 1, 1), (⟨#[100, 105, 118]⟩, 2, 2), (⟨#[101, 113]⟩, 2, 2), (⟨#[108, 101, 110, 103, 116, 104]⟩, 1, 1), (⟨#[109, 97, 120]⟩, 1, -1), (⟨#[109, 105, 110]⟩, 1, -1), (⟨#[109, 111, 100]⟩, 2, 2), (⟨#[110, 101, 113]⟩, 2, 2), (⟨#[110, 111, 116]⟩, 1, 1), (⟨#[115, 116, 114, 45, 99, 97, 116]⟩, 0, -1), (⟨#[115, 121, 109, 45, 99, 97, 116]⟩, 1, -1), (⟨#[116, 121, 112, 101]⟩, 1, 1)]
/-- How many values a name takes. -/
def arity (s : ByteArray) : Int × Int := ((arT.find? fun p => decide (p.1 = s)).map (·.2)).getD (0, 0)
theorem namB_eq : namB = arT.map (·.1) := rfl
theorem arity_no {s : ByteArray} (h : s ∉ namB) : arity s = (0, 0) := by
  unfold arity
  have : (arT.find? fun p => decide (p.1 = s)) = none := by
    rw [List.find?_eq_none]
    intro p hp
    have : p.1 ≠ s := fun e => h (by rw [namB_eq]; exact List.mem_map.2 ⟨p, hp, e⟩)
    simpa using this
  rw [this]; rfl
theorem name_cases {s : ByteArray} (h : s ∈ namB) : s = ⟨#[42]⟩ ∨ s = ⟨#[43]⟩ ∨ s = ⟨#[45]⟩ ∨ s = ⟨#[60]⟩ ∨ s = ⟨#[60, 61]⟩ ∨ s = ⟨#[60, 62]⟩ ∨ s = ⟨#[61]⟩ ∨ s = ⟨#[62]⟩ ∨ s = ⟨#[62, 61]⟩ ∨ s = ⟨#[97, 98, 115]⟩ ∨ s = ⟨#[100, 105, 118]⟩ ∨ s = ⟨#[101, 113]⟩ ∨ s = ⟨#[108, 101, 110, 103, 116, 104]⟩ ∨ s = ⟨#[109, 97, 120]⟩ ∨ s = ⟨#[109, 105, 110]⟩ ∨ s = ⟨#[109, 111, 100]⟩ ∨ s = ⟨#[110, 101, 113]⟩ ∨ s = ⟨#[110, 111, 116]⟩ ∨ s = ⟨#[115, 116, 114, 45, 99, 97, 116]⟩ ∨ s = ⟨#[115, 121, 109, 45, 99, 97, 116]⟩ ∨ s = ⟨#[116, 121, 112, 101]⟩ := by
  have e : namB = [⟨#[42]⟩, ⟨#[43]⟩, ⟨#[45]⟩, ⟨#[60]⟩, ⟨#[60, 61]⟩, ⟨#[60, 62]⟩, ⟨#[61]⟩, ⟨#[62]⟩, ⟨#[62, 61]⟩, ⟨#[97, 98, 115]⟩, ⟨#[100, 105, 118]⟩, ⟨#[101, 113]⟩, ⟨#[108, 101, 110, 103, 116, 104]⟩, ⟨#[109, 97, 120]⟩, ⟨#[109, 105, 110]⟩, ⟨#[109, 111, 100]⟩, ⟨#[110, 101, 113]⟩, ⟨#[110, 111, 116]⟩, ⟨#[115, 116, 114, 45, 99, 97, 116]⟩, ⟨#[115, 121, 109, 45, 99, 97, 116]⟩, ⟨#[116, 121, 112, 101]⟩] := rfl
  rw [e] at h
  simpa only [List.mem_cons, List.not_mem_nil, or_false] using h
/-- A name that is none, as a walk asks it. -/
structure NoName (s : ByteArray) : Prop where
  n0 : (s.toList == [42]) = false
  n1 : (s.toList == [43]) = false
  n2 : (s.toList == [45]) = false
  n3 : (s.toList == [60]) = false
  n4 : (s.toList == [60, 61]) = false
  n5 : (s.toList == [60, 62]) = false
  n6 : (s.toList == [61]) = false
  n7 : (s.toList == [62]) = false
  n8 : (s.toList == [62, 61]) = false
  n9 : (s.toList == [97, 98, 115]) = false
  n10 : (s.toList == [100, 105, 118]) = false
  n11 : (s.toList == [101, 113]) = false
  n12 : (s.toList == [108, 101, 110, 103, 116, 104]) = false
  n13 : (s.toList == [109, 97, 120]) = false
  n14 : (s.toList == [109, 105, 110]) = false
  n15 : (s.toList == [109, 111, 100]) = false
  n16 : (s.toList == [110, 101, 113]) = false
  n17 : (s.toList == [110, 111, 116]) = false
  n18 : (s.toList == [115, 116, 114, 45, 99, 97, 116]) = false
  n19 : (s.toList == [115, 121, 109, 45, 99, 97, 116]) = false
  n20 : (s.toList == [116, 121, 112, 101]) = false
theorem noName {s : ByteArray} (h : s ∉ namB) : NoName s := by
  have key : ∀ l : List UInt8, bs l ∈ namB → (s.toList == l) = false := by
    intro l hl
    rw [beq_eq_false_iff_ne]
    intro e
    apply h
    have : s = bs l := by
      apply ba_ext
      rw [← ByteArray.toList_eq, e]; rfl
    rw [this]; exact hl
  have e : namB = [bs [42], bs [43], bs [45], bs [60], bs [60, 61], bs [60, 62], bs [61], bs [62], bs [62, 61], bs [97, 98, 115], bs [100, 105, 118], bs [101, 113], bs [108, 101, 110, 103, 116, 104], bs [109, 97, 120], bs [109, 105, 110], bs [109, 111, 100], bs [110, 101, 113], bs [110, 111, 116], bs [115, 116, 114, 45, 99, 97, 116], bs [115, 121, 109, 45, 99, 97, 116], bs [116, 121, 112, 101]] := rfl
  rw [e] at key
  exact ⟨key _ (by simp), key _ (by simp), key _ (by simp), key _ (by simp), key _ (by simp), key _ (by simp), key _ (by simp), key _ (by simp), key _ (by simp), key _ (by simp), key _ (by simp), key _ (by simp), key _ (by simp), key _ (by simp), key _ (by simp), key _ (by simp), key _ (by simp), key _ (by simp), key _ (by simp), key _ (by simp), key _ (by simp)⟩
theorem arity_0 (w : World) : Calls Tryz.prog 15 #[.string ⟨#[42]⟩] w fun e w' => e = .returned (.tuple #[.int .i64 0, .int .i64 (-1)]) ∧ w = w' := by
  go_enter Tryz.func15, Tryz.ntmps15
  go_wp2_with fail
  go_ret2
  exact ⟨rfl, rfl⟩
theorem arity_1 (w : World) : Calls Tryz.prog 15 #[.string ⟨#[43]⟩] w fun e w' => e = .returned (.tuple #[.int .i64 0, .int .i64 (-1)]) ∧ w = w' := by
  go_enter Tryz.func15, Tryz.ntmps15
  go_wp2_with fail
  go_ret2
  exact ⟨rfl, rfl⟩
theorem arity_2 (w : World) : Calls Tryz.prog 15 #[.string ⟨#[45]⟩] w fun e w' => e = .returned (.tuple #[.int .i64 1, .int .i64 (-1)]) ∧ w = w' := by
  go_enter Tryz.func15, Tryz.ntmps15
  go_wp2_with fail
  go_ret2
  exact ⟨rfl, rfl⟩
theorem arity_3 (w : World) : Calls Tryz.prog 15 #[.string ⟨#[60]⟩] w fun e w' => e = .returned (.tuple #[.int .i64 2, .int .i64 (-1)]) ∧ w = w' := by
  go_enter Tryz.func15, Tryz.ntmps15
  go_wp2_with fail
  go_ret2
  exact ⟨rfl, rfl⟩
theorem arity_4 (w : World) : Calls Tryz.prog 15 #[.string ⟨#[60, 61]⟩] w fun e w' => e = .returned (.tuple #[.int .i64 2, .int .i64 (-1)]) ∧ w = w' := by
  go_enter Tryz.func15, Tryz.ntmps15
  go_wp2_with fail
  go_ret2
  exact ⟨rfl, rfl⟩
theorem arity_5 (w : World) : Calls Tryz.prog 15 #[.string ⟨#[60, 62]⟩] w fun e w' => e = .returned (.tuple #[.int .i64 2, .int .i64 (2)]) ∧ w = w' := by
  go_enter Tryz.func15, Tryz.ntmps15
  go_wp2_with fail
  go_ret2
  exact ⟨rfl, rfl⟩
theorem arity_6 (w : World) : Calls Tryz.prog 15 #[.string ⟨#[61]⟩] w fun e w' => e = .returned (.tuple #[.int .i64 2, .int .i64 (2)]) ∧ w = w' := by
  go_enter Tryz.func15, Tryz.ntmps15
  go_wp2_with fail
  go_ret2
  exact ⟨rfl, rfl⟩
theorem arity_7 (w : World) : Calls Tryz.prog 15 #[.string ⟨#[62]⟩] w fun e w' => e = .returned (.tuple #[.int .i64 2, .int .i64 (-1)]) ∧ w = w' := by
  go_enter Tryz.func15, Tryz.ntmps15
  go_wp2_with fail
  go_ret2
  exact ⟨rfl, rfl⟩
theorem arity_8 (w : World) : Calls Tryz.prog 15 #[.string ⟨#[62, 61]⟩] w fun e w' => e = .returned (.tuple #[.int .i64 2, .int .i64 (-1)]) ∧ w = w' := by
  go_enter Tryz.func15, Tryz.ntmps15
  go_wp2_with fail
  go_ret2
  exact ⟨rfl, rfl⟩
theorem arity_9 (w : World) : Calls Tryz.prog 15 #[.string ⟨#[97, 98, 115]⟩] w fun e w' => e = .returned (.tuple #[.int .i64 1, .int .i64 (1)]) ∧ w = w' := by
  go_enter Tryz.func15, Tryz.ntmps15
  go_wp2_with fail
  go_ret2
  exact ⟨rfl, rfl⟩
theorem arity_10 (w : World) : Calls Tryz.prog 15 #[.string ⟨#[100, 105, 118]⟩] w fun e w' => e = .returned (.tuple #[.int .i64 2, .int .i64 (2)]) ∧ w = w' := by
  go_enter Tryz.func15, Tryz.ntmps15
  go_wp2_with fail
  go_ret2
  exact ⟨rfl, rfl⟩
theorem arity_11 (w : World) : Calls Tryz.prog 15 #[.string ⟨#[101, 113]⟩] w fun e w' => e = .returned (.tuple #[.int .i64 2, .int .i64 (2)]) ∧ w = w' := by
  go_enter Tryz.func15, Tryz.ntmps15
  go_wp2_with fail
  go_ret2
  exact ⟨rfl, rfl⟩
theorem arity_12 (w : World) : Calls Tryz.prog 15 #[.string ⟨#[108, 101, 110, 103, 116, 104]⟩] w fun e w' => e = .returned (.tuple #[.int .i64 1, .int .i64 (1)]) ∧ w = w' := by
  go_enter Tryz.func15, Tryz.ntmps15
  go_wp2_with fail
  go_ret2
  exact ⟨rfl, rfl⟩
theorem arity_13 (w : World) : Calls Tryz.prog 15 #[.string ⟨#[109, 97, 120]⟩] w fun e w' => e = .returned (.tuple #[.int .i64 1, .int .i64 (-1)]) ∧ w = w' := by
  go_enter Tryz.func15, Tryz.ntmps15
  go_wp2_with fail
  go_ret2
  exact ⟨rfl, rfl⟩
theorem arity_14 (w : World) : Calls Tryz.prog 15 #[.string ⟨#[109, 105, 110]⟩] w fun e w' => e = .returned (.tuple #[.int .i64 1, .int .i64 (-1)]) ∧ w = w' := by
  go_enter Tryz.func15, Tryz.ntmps15
  go_wp2_with fail
  go_ret2
  exact ⟨rfl, rfl⟩
theorem arity_15 (w : World) : Calls Tryz.prog 15 #[.string ⟨#[109, 111, 100]⟩] w fun e w' => e = .returned (.tuple #[.int .i64 2, .int .i64 (2)]) ∧ w = w' := by
  go_enter Tryz.func15, Tryz.ntmps15
  go_wp2_with fail
  go_ret2
  exact ⟨rfl, rfl⟩
theorem arity_16 (w : World) : Calls Tryz.prog 15 #[.string ⟨#[110, 101, 113]⟩] w fun e w' => e = .returned (.tuple #[.int .i64 2, .int .i64 (2)]) ∧ w = w' := by
  go_enter Tryz.func15, Tryz.ntmps15
  go_wp2_with fail
  go_ret2
  exact ⟨rfl, rfl⟩
theorem arity_17 (w : World) : Calls Tryz.prog 15 #[.string ⟨#[110, 111, 116]⟩] w fun e w' => e = .returned (.tuple #[.int .i64 1, .int .i64 (1)]) ∧ w = w' := by
  go_enter Tryz.func15, Tryz.ntmps15
  go_wp2_with fail
  go_ret2
  exact ⟨rfl, rfl⟩
theorem arity_18 (w : World) : Calls Tryz.prog 15 #[.string ⟨#[115, 116, 114, 45, 99, 97, 116]⟩] w fun e w' => e = .returned (.tuple #[.int .i64 0, .int .i64 (-1)]) ∧ w = w' := by
  go_enter Tryz.func15, Tryz.ntmps15
  go_wp2_with fail
  go_ret2
  exact ⟨rfl, rfl⟩
theorem arity_19 (w : World) : Calls Tryz.prog 15 #[.string ⟨#[115, 121, 109, 45, 99, 97, 116]⟩] w fun e w' => e = .returned (.tuple #[.int .i64 1, .int .i64 (-1)]) ∧ w = w' := by
  go_enter Tryz.func15, Tryz.ntmps15
  go_wp2_with fail
  go_ret2
  exact ⟨rfl, rfl⟩
theorem arity_20 (w : World) : Calls Tryz.prog 15 #[.string ⟨#[116, 121, 112, 101]⟩] w fun e w' => e = .returned (.tuple #[.int .i64 1, .int .i64 (1)]) ∧ w = w' := by
  go_enter Tryz.func15, Tryz.ntmps15
  go_wp2_with fail
  go_ret2
  exact ⟨rfl, rfl⟩
theorem arity_n (s : ByteArray) (h : s ∉ namB) (w : World) : Calls Tryz.prog 15 #[.string s] w fun e w' => e = .returned (.tuple #[.int .i64 0, .int .i64 0]) ∧ w = w' := by
  obtain ⟨_, _, _, _, _, _, _, _, _, _, _, _, _, _, _, _, _, _, _, _, _⟩ := noName h
  clear h
  go_enter Tryz.func15, Tryz.ntmps15
  go_wp2_with fail
  go_ret2
  exact ⟨rfl, rfl⟩
theorem arity_c (s : ByteArray) (w : World) : Calls Tryz.prog 15 #[.string s] w fun e w' => e = .returned (.tuple #[.int .i64 (arity s).1, .int .i64 (arity s).2]) ∧ w = w' := by
  by_cases h : s ∈ namB
  · rcases name_cases h with rfl | rfl | rfl | rfl | rfl | rfl | rfl | rfl | rfl | rfl | rfl | rfl | rfl | rfl | rfl | rfl | rfl | rfl | rfl | rfl | rfl
    · exact arity_0 w
    · exact arity_1 w
    · exact arity_2 w
    · exact arity_3 w
    · exact arity_4 w
    · exact arity_5 w
    · exact arity_6 w
    · exact arity_7 w
    · exact arity_8 w
    · exact arity_9 w
    · exact arity_10 w
    · exact arity_11 w
    · exact arity_12 w
    · exact arity_13 w
    · exact arity_14 w
    · exact arity_15 w
    · exact arity_16 w
    · exact arity_17 w
    · exact arity_18 w
    · exact arity_19 w
    · exact arity_20 w
  · rw [arity_no h]
    exact arity_n s h w
end Go.Proofs.YtmadnehipagakaaGreatDoor
