/- Symbols and values that may be: val's Right, the reference's Shape and Right. -/
import Derived.Test.YtmadnehipagakaaGreatDoorNc
import Derived.Lib.IndexBytes
namespace Go.Proofs.YtmadnehipagakaaGreatDoor
open Go.RowKit Go.Lib KP
def symB (s : ByteArray) : Bool := decide (1 ≤ s.size ∧ s.size ≤ 40) && (s.data.toList.all fun b => signB b.toNat) && !shapeB s
theorem symB_no {s : ByteArray} (h : ¬ (1 ≤ s.size ∧ s.size ≤ 40)) : symB s = false := by unfold symB; rw [decide_eq_false h]; rfl
theorem symB_of {s : ByteArray} (h : 1 ≤ s.size ∧ s.size ≤ 40) : symB s = ((s.data.toList.all fun b => signB b.toNat) && !shapeB s) := by unfold symB; rw [decide_eq_true h]; rfl
set_option maxHeartbeats 1000000 in
theorem symbol_c (s : ByteArray) (w : World) : Calls Tryz.prog 75 #[.string s] w fun e w' => e = .returned (.bool (symB s)) ∧ w = w' := by
  by_cases h0 : s.size = 0
  · have H := Lib.hid (symB_no (s := s) (by omega))
    have h1 : (s.size : Int) < 1 := by omega
    have h2 : s.data.toList = [] := List.eq_nil_of_length_eq_zero (by have : s.data.toList.length = s.size := by simp
                                                                      omega)
    go_enter Tryz.func75, Tryz.ntmps75
    go_wp2_with fail
    go_ret
    exact ⟨ret_bool H.out.symm, rfl⟩
  by_cases h4 : 40 < s.size
  · have H := Lib.hid (symB_no (s := s) (by omega))
    have h1 : (1 : Int) ≤ (s.size : Int) := by omega
    have h2 : (40 : Int) < (s.size : Int) := by omega
    go_enter Tryz.func75, Tryz.ntmps75
    go_wp2_with fail
    go_ret
    exact ⟨ret_bool H.out.symm, rfl⟩
  have H := Lib.hid (symB_of (s := s) (by omega))
  have h1 : (1 : Int) ≤ (s.size : Int) := by omega
  have h2 : (s.size : Int) ≤ 40 := by omega
  go_enter Tryz.func75, Tryz.ntmps75
  go_wp2_with fail
  go_loop [3, 16] (fun _ i => ∃ k : Nat, k ≤ s.size ∧ i = .int .i64 k ∧ Hid ((s.data.toList.take k).all (fun b => signB b.toNat) = true)) (fun _ i => s.size - (intOf i).toNat)
  case atStart => exact ⟨0, by omega, rfl, Lib.hid rfl⟩
  case round =>
    obtain ⟨k, hk, rfl, hp⟩ := hrel
    by_cases hlt : k < s.size
    · cases hP : signB (s[k].toNat : Int) with
      | true =>
        have hq := Lib.hid (all_snoc (p := fun b => signB b.toNat) hlt hp.out hP)
        have SC := Lib.hid (fun w => sign_c (s[k].toNat : Int) w)
        rw [hP] at SC
        clear hP
        go_wp2_with fail
        refine (SC.out _).mono ?_
        rintro e w' ⟨rfl, rfl⟩
        go_wp2_with fail
        go_round
        case rel => exact ⟨k + 1, by omega, by go_num, hq⟩
        case measure => simp [intOf]; omega
      | false =>
        have hq := Lib.hid (H.out.trans (by rw [all_no (p := fun b => signB b.toNat) hlt hP, Bool.false_and]))
        have SC := Lib.hid (fun w => sign_c (s[k].toNat : Int) w)
        rw [hP] at SC
        clear hP
        go_wp2_with fail
        refine (SC.out _).mono ?_
        rintro e w' ⟨rfl, rfl⟩
        go_wp2_with fail
        go_ret
        exact ⟨ret_bool hq.out.symm, rfl⟩
    · obtain rfl : k = s.size := by omega
      have hq := Lib.hid (H.out.trans (by rw [all_end hp.out, Bool.true_and] : _ = !shapeB s))
      go_wp2_with fail
      refine (parse_c s (by omega) _).mono ?_
      rintro e w' ⟨n, c, rfl, hc, rfl⟩
      have HC := Lib.hid hc
      clear hc
      go_wp2_with fail
      go_ret
      exact ⟨ret_bool (HC.out.trans hq.out.symm), rfl⟩
def rightB (v : Vl) : Bool := if v.1 = 1 then v.2.2.toList.isEmpty else if v.1 = 2 then decide (v.2.1 = 0) && symB v.2.2 else if v.1 = 3 then decide (v.2.1 = 0) && decide (v.2.2.size ≤ 1000) else false
set_option maxHeartbeats 1000000 in
theorem right_c (v : Vl) (w : World) : Calls Tryz.prog 47 #[v.val] w fun e w' => e = .returned (.bool (rightB v)) ∧ Below w.heap.size w w' := by
  obtain ⟨a, b, s⟩ := v
  have hB := one_box w (a, b, s) 26
  dsimp only at hB
  have E2 := Lib.hid hB.2.1
  clear hB
  by_cases h1 : a = 1
  · subst h1
    have H : Hid (rightB (1, b, s) = s.toList.isEmpty) := Lib.hid rfl
    go_enter Tryz.func47, Tryz.ntmps47
    go_wp2_with fail
    go_ret
    exact ⟨ret_bool H.out.symm, E2.out⟩
  have e1 : (a == 1) = false := by simp [h1]
  by_cases h2 : a = 2
  · subst h2
    clear h1
    by_cases h0 : b = 0
    · subst h0
      have H : Hid (rightB (2, 0, s) = symB s) := Lib.hid (by simp [rightB])
      go_enter Tryz.func47, Tryz.ntmps47
      go_wp2_with fail
      refine (symbol_c s _).mono ?_
      rintro e w' ⟨rfl, rfl⟩
      go_wp2_with fail
      go_ret
      exact ⟨ret_bool H.out.symm, E2.out⟩
    · have H : Hid (rightB (2, b, s) = false) := Lib.hid (by simp [rightB, h0])
      have e0 : (b == 0) = false := by simp [h0]
      clear h0
      go_enter Tryz.func47, Tryz.ntmps47
      go_wp2_with fail
      go_ret
      exact ⟨ret_bool H.out.symm, E2.out⟩
  have e2 : (a == 2) = false := by simp [h2]
  by_cases h3 : a = 3
  · subst h3
    clear h1 h2
    by_cases h0 : b = 0
    · subst h0
      have H : Hid (rightB (3, 0, s) = decide ((s.size : Int) ≤ 1000)) := Lib.hid (by simp [rightB]; omega)
      go_enter Tryz.func47, Tryz.ntmps47
      go_wp2_with fail
      go_ret
      exact ⟨ret_bool H.out.symm, E2.out⟩
    · have H : Hid (rightB (3, b, s) = false) := Lib.hid (by simp [rightB, h0])
      have e0 : (b == 0) = false := by simp [h0]
      clear h0
      go_enter Tryz.func47, Tryz.ntmps47
      go_wp2_with fail
      go_ret
      exact ⟨ret_bool H.out.symm, E2.out⟩
  have e3 : (a == 3) = false := by simp [h3]
  have H : Hid (rightB (a, b, s) = false) := Lib.hid (by simp [rightB, h1, h2, h3])
  clear h1 h2 h3
  go_enter Tryz.func47, Tryz.ntmps47
  go_wp2_with fail
  go_ret
  exact ⟨ret_bool H.out.symm, E2.out⟩
theorem hasP_list : ∀ (l : List UInt8) (h : 0 < l.length) (c : UInt8), Lib.hasPrefix l [c] = decide (l[0] = c)
  | [], h, _ => by simp at h
  | x :: l, _, c => by
    show [c].isPrefixOf (x :: l) = decide (x = c)
    rw [Bool.eq_iff_iff]
    simp [List.isPrefixOf]
    exact eq_comm
theorem hasP {s : ByteArray} {c : UInt8} (h : 0 < s.size) : Lib.hasPrefix s.data.toList [c] = decide (s[0] = c) := hasP_list s.data.toList (by simpa using h) c
theorem u8_ne43 {c : UInt8} (h : ¬ c = 43) : ((c.toNat : Int) == 43) = false := by
  rw [beq_eq_false_iff_ne]; intro e; apply h; apply UInt8.toNat_inj.1; show c.toNat = 43; omega
theorem u8_ne45 {c : UInt8} (h : ¬ c = 45) : ((c.toNat : Int) == 45) = false := by
  rw [beq_eq_false_iff_ne]; intro e; apply h; apply UInt8.toNat_inj.1; show c.toNat = 45; omega
theorem digs_list (s : ByteArray) : (digs s).data.toList = s.data.toList.drop (if Lib.hasPrefix s.data.toList [45] || Lib.hasPrefix s.data.toList [43] then 1 else 0) := by
  unfold digs
  split
  · exact Lib.extract_to_end s 1
  · rfl
theorem shape_all {s : ByteArray} {n : Nat} (hd : (digs s).data.toList = s.data.toList.drop n) (h : ∀ j (hj : j < s.size), n ≤ j → digB s[j] = true) : shapeB s = decide (n < s.size) := by
  have hl : (digs s).size = s.size - n := by
    have : (digs s).data.toList.length = (digs s).size := by simp
    rw [← this, hd]; simp
  unfold shapeB
  rw [hl]
  have : (digs s).data.toList.all digB = true := by
    rw [hd, List.all_eq_true]
    intro x hx
    obtain ⟨j, hj, rfl⟩ := List.getElem_of_mem hx
    rw [List.getElem_drop]
    rw [List.length_drop] at hj
    exact h (n + j) (by simp at hj; omega) (by omega)
  rw [this, Bool.and_true]
  exact decide_eq_decide.2 (by omega)
theorem shape_bad {s : ByteArray} {n : Nat} (hd : (digs s).data.toList = s.data.toList.drop n) {j : Nat} (hj : j < s.size) (hn : n ≤ j) (h : digB s[j] = false) : shapeB s = false := by
  have : (digs s).data.toList.all digB = false := by
    rw [hd, List.all_eq_false]
    refine ⟨s[j], ?_, by simp [h]⟩
    rw [List.mem_iff_getElem]
    refine ⟨j - n, by simp; omega, ?_⟩
    rw [List.getElem_drop]
    have e : n + (j - n) = j := by omega
    simp only [e]
    rfl
  unfold shapeB
  rw [this, Bool.and_false]
theorem size_nil {s : ByteArray} (h : s.size = 0) : s.data.toList = [] := List.eq_nil_of_length_eq_zero (by
  have : s.data.toList.length = s.size := by simp
  omega)
theorem shape_nil {s : ByteArray} (h : s.size = 0) : shapeB s = false := by
  have := shape_all (s := s) (n := 0) (by rw [digs_list, size_nil h]; simp) (fun j hj _ => by omega)
  rw [this]; exact decide_eq_false (by omega)
set_option maxHeartbeats 1000000 in
theorem rshape_c (s : ByteArray) (hs : s.size ≤ 1000000) (w : World) : Calls Tryz.prog 42 #[.string s] w fun e w' => e = .returned (.bool (shapeB s)) ∧ w = w' := by
  by_cases h0 : s.size = 0
  · have H := Lib.hid (shape_nil h0)
    have h2 := Lib.hid (size_nil h0)
    have h3 : (s.size : Int) ≤ 0 := by omega
    go_enter Tryz.func42, Tryz.ntmps42
    go_wp2_with fail
    go_loop [4] (fun i => i = .int .i64 0) (fun i => 0)
    case atStart => rfl
    case round =>
      subst hrel
      go_wp2_with fail
      go_ret
      exact ⟨ret_bool (by rw [H.out]), rfl⟩
  have hpos : 0 < s.size := by omega
  have hposI : (0 : Int) < (s.size : Int) := by omega
  by_cases h43 : s[0] = 43
  · have HL : Hid ((digs s).data.toList = s.data.toList.drop 1) := Lib.hid (by rw [digs_list, hasP hpos, hasP hpos, decide_eq_true h43]; simp)
    have e1 : ((s[0].toNat : Int) == 43) = true := by rw [h43]; rfl
    clear h43
    go_enter Tryz.func42, Tryz.ntmps42
    go_wp2_with fail
    go_loop [4] (fun i => ∃ k : Nat, 1 ≤ k ∧ k ≤ s.size ∧ i = .int .i64 k ∧ Hid (∀ j (hj : j < s.size), 1 ≤ j → j < k → digB s[j] = true)) (fun i => s.size - (intOf i).toNat)
    case atStart => exact ⟨1, by omega, by omega, rfl, Lib.hid (fun j _ h1 h2 => by omega)⟩
    case round =>
      obtain ⟨k, hk0, hk, rfl, hp⟩ := hrel
      by_cases hlt : k < s.size
      · have hltI : (k : Int) < (s.size : Int) := by omega
        cases hP : digB s[k] with
        | true =>
          have hq : Hid (∀ j (hj : j < s.size), 1 ≤ j → j < k + 1 → digB s[j] = true) := Lib.hid (fun j hj h1 h2 => by
            by_cases e : j = k
            · subst e; exact hP
            · exact hp.out j hj h1 (by omega))
          have hb : (48 : Int) ≤ (s[k].toNat : Int) ∧ (s[k].toNat : Int) ≤ 57 := by have := of_decide_eq_true hP; omega
          obtain ⟨hb1, hb2⟩ := hb
          clear hP
          go_wp2_with fail
          go_round
          case rel => exact ⟨k + 1, by omega, by omega, by go_num, hq⟩
          case measure => simp [intOf]; omega
        | false =>
          have hq := Lib.hid (shape_bad HL.out hlt hk0 hP)
          by_cases hb : (s[k].toNat : Int) < 48
          · clear hP
            go_wp2_with fail
            go_ret
            exact ⟨ret_bool hq.out.symm, rfl⟩
          · have hb2 : (57 : Int) < (s[k].toNat : Int) := by have := of_decide_eq_false hP; omega
            clear hP
            go_wp2_with fail
            go_ret
            exact ⟨ret_bool hq.out.symm, rfl⟩
      · obtain rfl : k = s.size := by omega
        have HT := Lib.hid (shape_all HL.out (fun j hj h => hp.out j hj h hj))
        go_wp2_with fail
        go_ret
        exact ⟨ret_bool (by rw [HT.out]; first | (simp; done) | (symm; simp; omega)), rfl⟩
  by_cases h45 : s[0] = 45
  · have HL : Hid ((digs s).data.toList = s.data.toList.drop 1) := Lib.hid (by rw [digs_list, hasP hpos, hasP hpos, decide_eq_true h45]; simp)
    have e1 : ((s[0].toNat : Int) == 43) = false := by rw [h45]; rfl
    have e2 : ((s[0].toNat : Int) == 45) = true := by rw [h45]; rfl
    clear h43 h45
    go_enter Tryz.func42, Tryz.ntmps42
    go_wp2_with fail
    go_loop [4] (fun i => ∃ k : Nat, 1 ≤ k ∧ k ≤ s.size ∧ i = .int .i64 k ∧ Hid (∀ j (hj : j < s.size), 1 ≤ j → j < k → digB s[j] = true)) (fun i => s.size - (intOf i).toNat)
    case atStart => exact ⟨1, by omega, by omega, rfl, Lib.hid (fun j _ h1 h2 => by omega)⟩
    case round =>
      obtain ⟨k, hk0, hk, rfl, hp⟩ := hrel
      by_cases hlt : k < s.size
      · have hltI : (k : Int) < (s.size : Int) := by omega
        cases hP : digB s[k] with
        | true =>
          have hq : Hid (∀ j (hj : j < s.size), 1 ≤ j → j < k + 1 → digB s[j] = true) := Lib.hid (fun j hj h1 h2 => by
            by_cases e : j = k
            · subst e; exact hP
            · exact hp.out j hj h1 (by omega))
          have hb : (48 : Int) ≤ (s[k].toNat : Int) ∧ (s[k].toNat : Int) ≤ 57 := by have := of_decide_eq_true hP; omega
          obtain ⟨hb1, hb2⟩ := hb
          clear hP
          go_wp2_with fail
          go_round
          case rel => exact ⟨k + 1, by omega, by omega, by go_num, hq⟩
          case measure => simp [intOf]; omega
        | false =>
          have hq := Lib.hid (shape_bad HL.out hlt hk0 hP)
          by_cases hb : (s[k].toNat : Int) < 48
          · clear hP
            go_wp2_with fail
            go_ret
            exact ⟨ret_bool hq.out.symm, rfl⟩
          · have hb2 : (57 : Int) < (s[k].toNat : Int) := by have := of_decide_eq_false hP; omega
            clear hP
            go_wp2_with fail
            go_ret
            exact ⟨ret_bool hq.out.symm, rfl⟩
      · obtain rfl : k = s.size := by omega
        have HT := Lib.hid (shape_all HL.out (fun j hj h => hp.out j hj h hj))
        go_wp2_with fail
        go_ret
        exact ⟨ret_bool (by rw [HT.out]; first | (simp; done) | (symm; simp; omega)), rfl⟩
  have HL : Hid ((digs s).data.toList = s.data.toList.drop 0) := Lib.hid (by rw [digs_list, hasP hpos, hasP hpos, decide_eq_false h43, decide_eq_false h45]; simp)
  have e1 := u8_ne43 h43
  have e2 := u8_ne45 h45
  clear h43 h45
  go_enter Tryz.func42, Tryz.ntmps42
  go_wp2_with fail
  go_loop [4] (fun i => ∃ k : Nat, 0 ≤ k ∧ k ≤ s.size ∧ i = .int .i64 k ∧ Hid (∀ j (hj : j < s.size), 0 ≤ j → j < k → digB s[j] = true)) (fun i => s.size - (intOf i).toNat)
  case atStart => exact ⟨0, by omega, by omega, rfl, Lib.hid (fun j _ h1 h2 => by omega)⟩
  case round =>
    obtain ⟨k, hk0, hk, rfl, hp⟩ := hrel
    by_cases hlt : k < s.size
    · have hltI : (k : Int) < (s.size : Int) := by omega
      cases hP : digB s[k] with
      | true =>
        have hq : Hid (∀ j (hj : j < s.size), 0 ≤ j → j < k + 1 → digB s[j] = true) := Lib.hid (fun j hj h1 h2 => by
          by_cases e : j = k
          · subst e; exact hP
          · exact hp.out j hj h1 (by omega))
        have hb : (48 : Int) ≤ (s[k].toNat : Int) ∧ (s[k].toNat : Int) ≤ 57 := by have := of_decide_eq_true hP; omega
        obtain ⟨hb1, hb2⟩ := hb
        clear hP
        go_wp2_with fail
        go_round
        case rel => exact ⟨k + 1, by omega, by omega, by go_num, hq⟩
        case measure => simp [intOf]; omega
      | false =>
        have hq := Lib.hid (shape_bad HL.out hlt hk0 hP)
        by_cases hb : (s[k].toNat : Int) < 48
        · clear hP
          go_wp2_with fail
          go_ret
          exact ⟨ret_bool hq.out.symm, rfl⟩
        · have hb2 : (57 : Int) < (s[k].toNat : Int) := by have := of_decide_eq_false hP; omega
          clear hP
          go_wp2_with fail
          go_ret
          exact ⟨ret_bool hq.out.symm, rfl⟩
    · obtain rfl : k = s.size := by omega
      have HT := Lib.hid (shape_all HL.out (fun j hj h => hp.out j hj h hj))
      go_wp2_with fail
      go_ret
      exact ⟨ret_bool (by rw [HT.out]; first | (simp; done) | (symm; simp; omega)), rfl⟩
end Go.Proofs.YtmadnehipagakaaGreatDoor
