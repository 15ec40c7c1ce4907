/- The reference's Right. -/
import Derived.Test.YtmadnehipagakaaGreatDoorNd
namespace Go.Proofs.YtmadnehipagakaaGreatDoor
open Go.RowKit Go.Lib KP
set_option maxHeartbeats 2000000 in
theorem rright_c (v : Vl) (w : World) (hs : v.2.2.size ≤ 9223372036854775807) : Calls Tryz.prog 12 #[v.val] w fun e w' => e = .returned (.bool (rightB v)) ∧ Below w.heap.size w w' := by
  obtain ⟨a, b, s⟩ := v
  have hs' : (s.size : Int) ≤ 9223372036854775807 := by have : s.size ≤ 9223372036854775807 := hs; omega
  have hB := one_box w (a, b, s) 26
  dsimp only at hB
  have E2 := Lib.hid hB.2.1
  clear hB hs
  by_cases h1 : a = 1
  · subst h1
    have H : Hid (rightB (1, b, s) = s.toList.isEmpty) := Lib.hid rfl
    go_enter Tryz.func12, Tryz.ntmps12
    go_wp2_with fail
    go_ret
    exact ⟨ret_bool H.out.symm, E2.out⟩
  have e1 : (a == 1) = false := by simp [h1]
  by_cases h2 : a = 2
  · subst h2
    clear h1
    by_cases h0 : b = 0
    · subst h0
      by_cases hz : s.size = 0
      · have H : Hid (rightB (2, 0, s) = (false && s.data.toList.all fun c => signB c.toNat)) := Lib.hid (by simp [rightB]; exact symB_no (by omega))
        have hz1 : (s.size : Int) < 1 := by omega
        clear hz
        go_enter Tryz.func12, Tryz.ntmps12
        go_wp2_with fail
        have hB := one_box w (2, 0, s) 26
        dsimp only at hB
        generalize w.alloc (.cells #[.int .i64 2, .int .i64 0, .string s] 26) = w2 at hB ⊢
        clear E2
        obtain ⟨⟨c0, c1, c2⟩, hB, _⟩ := hB
        have E2 := Lib.hid hB
        clear hB
        go_loop [3, 4] (fun ok i => ∃ k : Nat, k ≤ s.size ∧ i = .int .i64 k ∧ ∃ o : Bool, ok = .bool o ∧ Hid (o = (false && (s.data.toList.take k).all fun c => signB c.toNat))) (fun _ i => s.size - (intOf i).toNat)
        case atStart => exact ⟨0, by omega, rfl, _, rfl, Lib.hid (by simp)⟩
        case round =>
          obtain ⟨k, hk, rfl, o, rfl, ho⟩ := hrel
          by_cases hlt : k < s.size
          · exfalso; omega
          · obtain rfl : k = s.size := by omega
            have hq := Lib.hid (ho.out.trans (by rw [List.take_of_length_le (by simp)] : _ = (false && s.data.toList.all fun c => signB c.toNat)))
            go_wp2_with fail
            go_ret
            exact ⟨ret_bool (hq.out.trans (H.out.symm)), E2.out⟩
      by_cases h4 : 40 < s.size
      · have H : Hid (rightB (2, 0, s) = (false && s.data.toList.all fun c => signB c.toNat)) := Lib.hid (by simp [rightB]; exact symB_no (by omega))
        have hz1 : (1 : Int) ≤ (s.size : Int) := by omega
        have hz2 : (40 : Int) < (s.size : Int) := by omega
        go_enter Tryz.func12, Tryz.ntmps12
        go_wp2_with fail
        have hB := one_box w (2, 0, s) 26
        dsimp only at hB
        generalize w.alloc (.cells #[.int .i64 2, .int .i64 0, .string s] 26) = w2 at hB ⊢
        clear E2
        obtain ⟨⟨c0, c1, c2⟩, hB, _⟩ := hB
        have E2 := Lib.hid hB
        clear hB
        go_loop [3, 4] (fun ok i => ∃ k : Nat, k ≤ s.size ∧ i = .int .i64 k ∧ ∃ o : Bool, ok = .bool o ∧ Hid (o = (false && (s.data.toList.take k).all fun c => signB c.toNat))) (fun _ i => s.size - (intOf i).toNat)
        case atStart => exact ⟨0, by omega, rfl, _, rfl, Lib.hid (by simp)⟩
        case round =>
          obtain ⟨k, hk, rfl, o, rfl, ho⟩ := hrel
          by_cases hlt : k < s.size
          · have hltI : (k : Int) < (s.size : Int) := by omega
            have hS := Lib.hid (show ((s.data.toList.take (k + 1)).all fun c => signB c.toNat) = (((s.data.toList.take k).all fun c => signB c.toNat) && signB s[k].toNat) by rw [take_snoc s k hlt, List.all_append]; simp)
            cases o with
            | true =>
              have hq : Hid (signB s[k].toNat = (false && (s.data.toList.take (k + 1)).all fun c => signB c.toNat)) := Lib.hid (by rw [hS.out, ← Bool.and_assoc, ← ho.out, Bool.true_and])
              go_wp2_with fail
              refine (rsign_c _ _).mono ?_
              rintro e w' ⟨rfl, rfl⟩
              generalize signB (s[k].toNat : Int) = q at *
              go_wp2_with fail
              go_round
              case rel => exact ⟨k + 1, by omega, by go_num, _, rfl, hq⟩
              case measure => simp [intOf]; omega
            | false =>
              have hq : Hid (false = (false && (s.data.toList.take (k + 1)).all fun c => signB c.toNat)) := Lib.hid (by rw [hS.out, ← Bool.and_assoc, ← ho.out, Bool.false_and])
              go_wp2_with fail
              go_round
              case rel => exact ⟨k + 1, by omega, by go_num, _, rfl, hq⟩
              case measure => simp [intOf]; omega
          · obtain rfl : k = s.size := by omega
            have hq := Lib.hid (ho.out.trans (by rw [List.take_of_length_le (by simp)] : _ = (false && s.data.toList.all fun c => signB c.toNat)))
            go_wp2_with fail
            go_ret
            exact ⟨ret_bool (hq.out.trans (H.out.symm)), E2.out⟩
      have H : Hid (rightB (2, 0, s) = (!shapeB s && s.data.toList.all fun c => signB c.toNat)) := Lib.hid (by show (decide ((0 : Int) = 0) && symB s) = _; rw [symB_of (by omega), Bool.and_comm (s.data.toList.all _)]; rfl)
      have hz1 : (1 : Int) ≤ (s.size : Int) := by omega
      have hz2 : (s.size : Int) ≤ 40 := by omega
      go_enter Tryz.func12, Tryz.ntmps12
      go_wp2_with fail
      refine (rshape_c s (by omega) _).mono ?_
      rintro e w' ⟨rfl, rfl⟩
      generalize shapeB s = q at *
      go_wp2_with fail
      have hB := one_box w (2, 0, s) 26
      dsimp only at hB
      generalize w.alloc (.cells #[.int .i64 2, .int .i64 0, .string s] 26) = w2 at hB ⊢
      clear E2
      obtain ⟨⟨c0, c1, c2⟩, hB, _⟩ := hB
      have E2 := Lib.hid hB
      clear hB
      go_loop [3, 4] (fun ok i => ∃ k : Nat, k ≤ s.size ∧ i = .int .i64 k ∧ ∃ o : Bool, ok = .bool o ∧ Hid (o = (!q && (s.data.toList.take k).all fun c => signB c.toNat))) (fun _ i => s.size - (intOf i).toNat)
      case atStart => exact ⟨0, by omega, rfl, _, rfl, Lib.hid (by simp)⟩
      case round =>
        obtain ⟨k, hk, rfl, o, rfl, ho⟩ := hrel
        by_cases hlt : k < s.size
        · have hltI : (k : Int) < (s.size : Int) := by omega
          have hS := Lib.hid (show ((s.data.toList.take (k + 1)).all fun c => signB c.toNat) = (((s.data.toList.take k).all fun c => signB c.toNat) && signB s[k].toNat) by rw [take_snoc s k hlt, List.all_append]; simp)
          cases o with
          | true =>
            have hq : Hid (signB s[k].toNat = (!q && (s.data.toList.take (k + 1)).all fun c => signB c.toNat)) := Lib.hid (by rw [hS.out, ← Bool.and_assoc, ← ho.out, Bool.true_and])
            go_wp2_with fail
            refine (rsign_c _ _).mono ?_
            rintro e w' ⟨rfl, rfl⟩
            generalize signB (s[k].toNat : Int) = q at *
            go_wp2_with fail
            go_round
            case rel => exact ⟨k + 1, by omega, by go_num, _, rfl, hq⟩
            case measure => simp [intOf]; omega
          | false =>
            have hq : Hid (false = (!q && (s.data.toList.take (k + 1)).all fun c => signB c.toNat)) := Lib.hid (by rw [hS.out, ← Bool.and_assoc, ← ho.out, Bool.false_and])
            go_wp2_with fail
            go_round
            case rel => exact ⟨k + 1, by omega, by go_num, _, rfl, hq⟩
            case measure => simp [intOf]; omega
        · obtain rfl : k = s.size := by omega
          have hq := Lib.hid (ho.out.trans (by rw [List.take_of_length_le (by simp)] : _ = (!q && s.data.toList.all fun c => signB c.toNat)))
          go_wp2_with fail
          go_ret
          exact ⟨ret_bool (hq.out.trans (H.out.symm)), E2.out⟩
    · have H : Hid (rightB (2, b, s) = (false && s.data.toList.all fun c => signB c.toNat)) := Lib.hid (by simp [rightB, h0])
      have e0 : (b == 0) = false := by simp [h0]
      clear h0
      go_enter Tryz.func12, Tryz.ntmps12
      go_wp2_with fail
      have hB := one_box w (2, b, s) 26
      dsimp only at hB
      generalize w.alloc (.cells #[.int .i64 2, .int .i64 b, .string s] 26) = w2 at hB ⊢
      clear E2
      obtain ⟨⟨c0, c1, c2⟩, hB, _⟩ := hB
      have E2 := Lib.hid hB
      clear hB
      go_loop [3, 4] (fun ok i => ∃ k : Nat, k ≤ s.size ∧ i = .int .i64 k ∧ ∃ o : Bool, ok = .bool o ∧ Hid (o = (false && (s.data.toList.take k).all fun c => signB c.toNat))) (fun _ i => s.size - (intOf i).toNat)
      case atStart => exact ⟨0, by omega, rfl, _, rfl, Lib.hid (by simp)⟩
      case round =>
        obtain ⟨k, hk, rfl, o, rfl, ho⟩ := hrel
        by_cases hlt : k < s.size
        · have hltI : (k : Int) < (s.size : Int) := by omega
          have hS := Lib.hid (show ((s.data.toList.take (k + 1)).all fun c => signB c.toNat) = (((s.data.toList.take k).all fun c => signB c.toNat) && signB s[k].toNat) by rw [take_snoc s k hlt, List.all_append]; simp)
          cases o with
          | true =>
            have hq : Hid (signB s[k].toNat = (false && (s.data.toList.take (k + 1)).all fun c => signB c.toNat)) := Lib.hid (by rw [hS.out, ← Bool.and_assoc, ← ho.out, Bool.true_and])
            go_wp2_with fail
            refine (rsign_c _ _).mono ?_
            rintro e w' ⟨rfl, rfl⟩
            generalize signB (s[k].toNat : Int) = q at *
            go_wp2_with fail
            go_round
            case rel => exact ⟨k + 1, by omega, by go_num, _, rfl, hq⟩
            case measure => simp [intOf]; omega
          | false =>
            have hq : Hid (false = (false && (s.data.toList.take (k + 1)).all fun c => signB c.toNat)) := Lib.hid (by rw [hS.out, ← Bool.and_assoc, ← ho.out, Bool.false_and])
            go_wp2_with fail
            go_round
            case rel => exact ⟨k + 1, by omega, by go_num, _, rfl, hq⟩
            case measure => simp [intOf]; omega
        · obtain rfl : k = s.size := by omega
          have hq := Lib.hid (ho.out.trans (by rw [List.take_of_length_le (by simp)] : _ = (false && s.data.toList.all fun c => signB c.toNat)))
          go_wp2_with fail
          go_ret
          exact ⟨ret_bool (hq.out.trans (H.out.symm)), E2.out⟩
  have e2 : (a == 2) = false := by simp [h2]
  by_cases h3 : a = 3
  · subst h3
    clear h1 h2
    by_cases h0 : b = 0
    · subst h0
      have H : Hid (rightB (3, 0, s) = decide ((s.size : Int) ≤ 1000)) := Lib.hid (by simp [rightB]; omega)
      go_enter Tryz.func12, Tryz.ntmps12
      go_wp2_with fail
      go_ret
      exact ⟨ret_bool H.out.symm, E2.out⟩
    · have H : Hid (rightB (3, b, s) = false) := Lib.hid (by simp [rightB, h0])
      have e0 : (b == 0) = false := by simp [h0]
      clear h0
      go_enter Tryz.func12, Tryz.ntmps12
      go_wp2_with fail
      go_ret
      exact ⟨ret_bool H.out.symm, E2.out⟩
  have e3 : (a == 3) = false := by simp [h3]
  have H : Hid (rightB (a, b, s) = false) := Lib.hid (by simp [rightB, h1, h2, h3])
  clear h1 h2 h3
  go_enter Tryz.func12, Tryz.ntmps12
  go_wp2_with fail
  go_ret
  exact ⟨ret_bool H.out.symm, E2.out⟩
end Go.Proofs.YtmadnehipagakaaGreatDoor
