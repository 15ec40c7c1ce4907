/- Numbers' texts: num.Parse, and whether a text is a number. -/
import Derived.Test.YtmadnehipagakaaGreatDoorNa
import Derived.Deep.DeepCutAuto
namespace Go.Proofs.YtmadnehipagakaaGreatDoor
open Go.RowKit Go.Lib KP
def digB (c : UInt8) : Bool := decide (48 ≤ c.toNat ∧ c.toNat ≤ 57)
def digs (s : ByteArray) : ByteArray := if Lib.hasPrefix s.data.toList [45] || Lib.hasPrefix s.data.toList [43] then s.extract 1 s.size else s
/-- Is a text a sign, or none, and digits alone? -/
def shapeB (s : ByteArray) : Bool := decide (0 < (digs s).size) && (digs s).data.toList.all digB
def Parsed (b : Bool) (w : World) (e : Ending) (w' : World) : Prop := ∃ n c : Int, e = .returned (.tuple #[.int .i64 n, .int .i64 c]) ∧ (c == 2) = !b ∧ w = w'
theorem notEmpty {d : ByteArray} (h : 0 < d.size) : d.toList.isEmpty = false := by
  rw [ByteArray.toList_eq]
  cases e : d.data.toList with
  | nil => have : d.data.toList.length = d.size := by simp
           rw [e] at this; simp at this; omega
  | cons _ _ => rfl
theorem isEmpty {d : ByteArray} (h : ¬ 0 < d.size) : d.toList.isEmpty = true := by
  rw [ByteArray.toList_eq]
  have : d.data.toList = [] := List.eq_nil_of_length_eq_zero (by have : d.data.toList.length = d.size := by simp
                                                                 omega)
  rw [this]; rfl
theorem shape_of {s d : ByteArray} (h : digs s = d) (hd : 0 < d.size) : shapeB s = d.data.toList.all digB := by
  unfold shapeB; rw [h]; simp [hd]
theorem shape_no {s d : ByteArray} (h : digs s = d) (hd : ¬ 0 < d.size) : shapeB s = false := by
  unfold shapeB; rw [h]; simp [hd]
theorem numV_no {f : FuncId} {args : Array Value} {o : Option Int} {w : World} (h : Calls Tryz.prog f args w fun e w' => e = .returned (numV o) ∧ w = w') (ho : o = none) : Calls Tryz.prog f args w fun e w' => e = .returned (.tuple #[.int .i64 0, .int .i64 11]) ∧ w = w' := by subst ho; exact h
theorem numV_yes {f : FuncId} {args : Array Value} {o : Option Int} {x : Int} {w : World} (h : Calls Tryz.prog f args w fun e w' => e = .returned (numV o) ∧ w = w') (ho : o = some x) : Calls Tryz.prog f args w fun e w' => e = .returned (.tuple #[.int .i64 x, .int .i64 0]) ∧ w = w' := by subst ho; exact h
theorem take_snoc (s : ByteArray) (k : Nat) (h : k < s.size) : s.data.toList.take (k + 1) = s.data.toList.take k ++ [s[k]] := by
  rw [List.take_succ_eq_append_getElem (by simpa using h)]; rfl
theorem all_snoc {p : UInt8 → Bool} {s : ByteArray} {k : Nat} (h : k < s.size) (hk : (s.data.toList.take k).all p = true) (hp : p s[k] = true) : (s.data.toList.take (k + 1)).all p = true := by
  rw [take_snoc s k h, List.all_append, hk]
  simp [hp]
theorem all_no {p : UInt8 → Bool} {s : ByteArray} {k : Nat} (h : k < s.size) (hp : p s[k] = false) : s.data.toList.all p = false := by
  rw [List.all_eq_false]
  exact ⟨s[k], Array.mem_toList_iff.2 (Array.getElem_mem (xs := s.data) h), by simp [hp]⟩
theorem all_end {p : UInt8 → Bool} {s : ByteArray} (hk : (s.data.toList.take s.size).all p = true) : s.data.toList.all p = true := by
  rwa [List.take_of_length_le (by simp)] at hk
theorem all_at {p : UInt8 → Bool} {s : ByteArray} (h : s.data.toList.all p = true) {k : Nat} (hk : k < s.size) : p s[k] = true :=
  List.all_eq_true.1 h _ (Array.mem_toList_iff.2 (Array.getElem_mem (xs := s.data) hk))
theorem prefix_size {s : ByteArray} {c : UInt8} (h : Lib.hasPrefix s.data.toList [c] = true) : 1 ≤ s.size := by
  cases e : s.data.toList with
  | nil => rw [e] at h; simp [Lib.hasPrefix] at h
  | cons _ _ => have : s.data.toList.length = s.size := by simp
                rw [e] at this; simp at this; omega
set_option maxHeartbeats 1000000 in
theorem parse_c (s : ByteArray) (hs : s.size ≤ 1000000) (w : World) : Calls Tryz.prog 114 #[.string s] w (Parsed (shapeB s) w) := by
  cases hm : Lib.hasPrefix s.data.toList [45] with
  | true =>
    have hsz : (1 : Int) ≤ (s.size : Int) := by have := prefix_size hm; omega
    have hz : (s.extract 1 s.size).size = s.size - 1 := by simp
    have HD : Hid (digs s = s.extract 1 s.size) := Lib.hid (by unfold digs; rw [hm]; rfl)
    by_cases hE : 0 < (s.extract 1 s.size).size
    · have hE1 : (s.extract 1 s.size).toList.isEmpty = false := notEmpty hE
      have hE2 : (s.extract 1 s.size).toList ≠ [] := by simpa using hE1
      have SH := Lib.hid (shape_of HD.out hE)
      clear hE
      go_enter Tryz.func114, Tryz.ntmps114
      go_wp2_with fail
      refine (strings_HasPrefix _ _ _).mono ?_
      rintro e w' ⟨rfl, rfl⟩
      go_wp2_with fail
      generalize s.extract 1 s.size = d at *
      go_loop [6, 24] (fun _ i => ∃ k : Nat, k ≤ d.size ∧ i = .int .i64 k ∧ Hid ((d.data.toList.take k).all digB = true)) (fun _ i => d.size - (intOf i).toNat)
      case atStart => exact ⟨0, by omega, rfl, Lib.hid rfl⟩
      case round =>
        obtain ⟨k, hk, rfl, hp⟩ := hrel
        by_cases hlt : k < d.size
        · have hltI : (k : Int) < (d.size : Int) := by omega
          cases hP : digB d[k] with
          | true =>
            have hq := Lib.hid (all_snoc hlt hp.out hP)
            have hb : (48 : Int) ≤ (d[k].toNat : Int) ∧ (d[k].toNat : Int) ≤ 57 := by have := of_decide_eq_true hP; omega
            obtain ⟨hb1, hb2⟩ := hb
            clear hP
            go_wp2_with fail
            go_round
            case rel => exact ⟨k + 1, by omega, by go_num, hq⟩
            case measure => simp [intOf]; omega
          | false =>
            have hq := Lib.hid (SH.out.trans (all_no hlt hP))
            by_cases hb : (d[k].toNat : Int) < 48
            · clear hP
              go_wp2_with fail
              go_ret2
              exact ⟨_, _, rfl, by rw [hq.out]; rfl, rfl⟩
            · have hb2 : (57 : Int) < (d[k].toNat : Int) := by have := of_decide_eq_false hP; omega
              clear hP
              go_wp2_with fail
              go_ret2
              exact ⟨_, _, rfl, by rw [hq.out]; rfl, rfl⟩
        · obtain rfl : k = d.size := by omega
          have HA := Lib.hid (all_end hp.out)
          have HT := Lib.hid (SH.out.trans (all_end hp.out))
          go_wp2_with fail
          go_loop [7, 40] (fun n i => ∃ k : Nat, k ≤ d.size ∧ i = .int .i64 k ∧ ∃ x : Int, n = .int .i64 x ∧ Hid (okI x)) (fun _ i => d.size - (intOf i).toNat)
          case atStart => exact ⟨0, by omega, rfl, 0, rfl, Lib.hid (by unfold okI; omega)⟩
          case round =>
            obtain ⟨k, hk, rfl, x, rfl, hx⟩ := hrel
            by_cases hlt : k < d.size
            · have hltI : (k : Int) < (d.size : Int) := by omega
              have hP := all_at HA.out hlt
              have hb : (48 : Int) ≤ (d[k].toNat : Int) ∧ (d[k].toNat : Int) ≤ 57 := by have := of_decide_eq_true hP; omega
              obtain ⟨hb1, hb2⟩ := hb
              clear hP
              cases hl : lim (x * 10) with
              | none =>
                have M := Lib.hid (fun w => numV_no (mul_c x 10 w hx.out (by unfold okI; omega)) hl)
                clear hl
                go_wp2_with fail
                refine (M.out _).mono ?_
                rintro e w' ⟨rfl, rfl⟩
                go_wp2_with fail
                go_ret2
                exact ⟨_, _, rfl, by rw [HT.out]; rfl, rfl⟩
              | some y =>
                have M := Lib.hid (fun w => numV_yes (mul_c x 10 w hx.out (by unfold okI; omega)) hl)
                have hy := Lib.hid (lim_ok hl)
                clear hl
                go_wp2_with fail
                refine (M.out _).mono ?_
                rintro e w' ⟨rfl, rfl⟩
                go_wp2_with fail
                cases hl2 : lim (y - ((d[k].toNat : Int) - 48)) with
                | none =>
                  have M2 := Lib.hid (fun w => numV_no (sub_c y ((d[k].toNat : Int) - 48) w hy.out (by unfold okI; omega)) hl2)
                  clear hl2
                  refine (M2.out _).mono ?_
                  rintro e w' ⟨rfl, rfl⟩
                  go_wp2_with fail
                  go_ret2
                  exact ⟨_, _, rfl, by rw [HT.out]; rfl, rfl⟩
                | some z =>
                  have M2 := Lib.hid (fun w => numV_yes (sub_c y ((d[k].toNat : Int) - 48) w hy.out (by unfold okI; omega)) hl2)
                  have hzz := Lib.hid (lim_ok hl2)
                  clear hl2
                  refine (M2.out _).mono ?_
                  rintro e w' ⟨rfl, rfl⟩
                  go_wp2_with fail
                  go_round
                  case rel => exact ⟨k + 1, by omega, by go_num, z, rfl, hzz⟩
                  case measure => simp [intOf]; omega
            · obtain rfl : k = d.size := by omega
              go_wp2_with fail
              go_ret2
              exact ⟨_, _, rfl, by rw [HT.out]; rfl, rfl⟩
    · have hE1 : (s.extract 1 s.size).toList.isEmpty = true := isEmpty hE
      have SH := Lib.hid (shape_no HD.out hE)
      clear hE
      go_enter Tryz.func114, Tryz.ntmps114
      go_wp2_with fail
      refine (strings_HasPrefix _ _ _).mono ?_
      rintro e w' ⟨rfl, rfl⟩
      go_wp2_with fail
      go_ret2
      exact ⟨_, _, rfl, by rw [SH.out]; rfl, rfl⟩
  | false =>
    cases hp : Lib.hasPrefix s.data.toList [43] with
    | true =>
      have hsz : (1 : Int) ≤ (s.size : Int) := by have := prefix_size hp; omega
      have hz : (s.extract 1 s.size).size = s.size - 1 := by simp
      have HD : Hid (digs s = s.extract 1 s.size) := Lib.hid (by unfold digs; rw [hp]; simp)
      by_cases hE : 0 < (s.extract 1 s.size).size
      · have hE1 : (s.extract 1 s.size).toList.isEmpty = false := notEmpty hE
        have hE2 : (s.extract 1 s.size).toList ≠ [] := by simpa using hE1
        have SH := Lib.hid (shape_of HD.out hE)
        clear hE
        go_enter Tryz.func114, Tryz.ntmps114
        go_wp2_with fail
        refine (strings_HasPrefix _ _ _).mono ?_
        rintro e w' ⟨rfl, rfl⟩
        go_wp2_with fail
        refine (strings_HasPrefix _ _ _).mono ?_
        rintro e w' ⟨rfl, rfl⟩
        go_wp2_with fail
        generalize s.extract 1 s.size = d at *
        go_loop [6, 24] (fun _ i => ∃ k : Nat, k ≤ d.size ∧ i = .int .i64 k ∧ Hid ((d.data.toList.take k).all digB = true)) (fun _ i => d.size - (intOf i).toNat)
        case atStart => exact ⟨0, by omega, rfl, Lib.hid rfl⟩
        case round =>
          obtain ⟨k, hk, rfl, hp⟩ := hrel
          by_cases hlt : k < d.size
          · have hltI : (k : Int) < (d.size : Int) := by omega
            cases hP : digB d[k] with
            | true =>
              have hq := Lib.hid (all_snoc hlt hp.out hP)
              have hb : (48 : Int) ≤ (d[k].toNat : Int) ∧ (d[k].toNat : Int) ≤ 57 := by have := of_decide_eq_true hP; omega
              obtain ⟨hb1, hb2⟩ := hb
              clear hP
              go_wp2_with fail
              go_round
              case rel => exact ⟨k + 1, by omega, by go_num, hq⟩
              case measure => simp [intOf]; omega
            | false =>
              have hq := Lib.hid (SH.out.trans (all_no hlt hP))
              by_cases hb : (d[k].toNat : Int) < 48
              · clear hP
                go_wp2_with fail
                go_ret2
                exact ⟨_, _, rfl, by rw [hq.out]; rfl, rfl⟩
              · have hb2 : (57 : Int) < (d[k].toNat : Int) := by have := of_decide_eq_false hP; omega
                clear hP
                go_wp2_with fail
                go_ret2
                exact ⟨_, _, rfl, by rw [hq.out]; rfl, rfl⟩
          · obtain rfl : k = d.size := by omega
            have HA := Lib.hid (all_end hp.out)
            have HT := Lib.hid (SH.out.trans (all_end hp.out))
            go_wp2_with fail
            go_loop [7, 40] (fun n i => ∃ k : Nat, k ≤ d.size ∧ i = .int .i64 k ∧ ∃ x : Int, n = .int .i64 x ∧ Hid (okI x)) (fun _ i => d.size - (intOf i).toNat)
            case atStart => exact ⟨0, by omega, rfl, 0, rfl, Lib.hid (by unfold okI; omega)⟩
            case round =>
              obtain ⟨k, hk, rfl, x, rfl, hx⟩ := hrel
              by_cases hlt : k < d.size
              · have hltI : (k : Int) < (d.size : Int) := by omega
                have hP := all_at HA.out hlt
                have hb : (48 : Int) ≤ (d[k].toNat : Int) ∧ (d[k].toNat : Int) ≤ 57 := by have := of_decide_eq_true hP; omega
                obtain ⟨hb1, hb2⟩ := hb
                clear hP
                cases hl : lim (x * 10) with
                | none =>
                  have M := Lib.hid (fun w => numV_no (mul_c x 10 w hx.out (by unfold okI; omega)) hl)
                  clear hl
                  go_wp2_with fail
                  refine (M.out _).mono ?_
                  rintro e w' ⟨rfl, rfl⟩
                  go_wp2_with fail
                  go_ret2
                  exact ⟨_, _, rfl, by rw [HT.out]; rfl, rfl⟩
                | some y =>
                  have M := Lib.hid (fun w => numV_yes (mul_c x 10 w hx.out (by unfold okI; omega)) hl)
                  have hy := Lib.hid (lim_ok hl)
                  clear hl
                  go_wp2_with fail
                  refine (M.out _).mono ?_
                  rintro e w' ⟨rfl, rfl⟩
                  go_wp2_with fail
                  cases hl2 : lim (y - ((d[k].toNat : Int) - 48)) with
                  | none =>
                    have M2 := Lib.hid (fun w => numV_no (sub_c y ((d[k].toNat : Int) - 48) w hy.out (by unfold okI; omega)) hl2)
                    clear hl2
                    refine (M2.out _).mono ?_
                    rintro e w' ⟨rfl, rfl⟩
                    go_wp2_with fail
                    go_ret2
                    exact ⟨_, _, rfl, by rw [HT.out]; rfl, rfl⟩
                  | some z =>
                    have M2 := Lib.hid (fun w => numV_yes (sub_c y ((d[k].toNat : Int) - 48) w hy.out (by unfold okI; omega)) hl2)
                    have hzz := Lib.hid (lim_ok hl2)
                    clear hl2
                    refine (M2.out _).mono ?_
                    rintro e w' ⟨rfl, rfl⟩
                    go_wp2_with fail
                    go_round
                    case rel => exact ⟨k + 1, by omega, by go_num, z, rfl, hzz⟩
                    case measure => simp [intOf]; omega
              · obtain rfl : k = d.size := by omega
                cases hl : lim (0 - x) with
                | none =>
                  have M := Lib.hid (fun w => numV_no (sub_c 0 x w (by unfold okI; omega) hx.out) hl)
                  clear hl
                  go_wp2_with fail
                  refine (M.out _).mono ?_
                  rintro e w' ⟨rfl, rfl⟩
                  go_wp2_with fail
                  go_ret2
                  exact ⟨_, _, rfl, by rw [HT.out]; rfl, rfl⟩
                | some z =>
                  have M := Lib.hid (fun w => numV_yes (sub_c 0 x w (by unfold okI; omega) hx.out) hl)
                  clear hl
                  go_wp2_with fail
                  refine (M.out _).mono ?_
                  rintro e w' ⟨rfl, rfl⟩
                  go_wp2_with fail
                  go_ret2
                  exact ⟨_, _, rfl, by rw [HT.out]; rfl, rfl⟩
      · have hE1 : (s.extract 1 s.size).toList.isEmpty = true := isEmpty hE
        have SH := Lib.hid (shape_no HD.out hE)
        clear hE
        go_enter Tryz.func114, Tryz.ntmps114
        go_wp2_with fail
        refine (strings_HasPrefix _ _ _).mono ?_
        rintro e w' ⟨rfl, rfl⟩
        go_wp2_with fail
        refine (strings_HasPrefix _ _ _).mono ?_
        rintro e w' ⟨rfl, rfl⟩
        go_wp2_with fail
        go_ret2
        exact ⟨_, _, rfl, by rw [SH.out]; rfl, rfl⟩
    | false =>
      have HD : Hid (digs s = s) := Lib.hid (by unfold digs; rw [hm, hp]; rfl)
      by_cases hE : 0 < (s).size
      · have hE1 : (s).toList.isEmpty = false := notEmpty hE
        have hE2 : (s).toList ≠ [] := by simpa using hE1
        have SH := Lib.hid (shape_of HD.out hE)
        clear hE
        go_enter Tryz.func114, Tryz.ntmps114
        go_wp2_with fail
        refine (strings_HasPrefix _ _ _).mono ?_
        rintro e w' ⟨rfl, rfl⟩
        go_wp2_with fail
        refine (strings_HasPrefix _ _ _).mono ?_
        rintro e w' ⟨rfl, rfl⟩
        go_wp2_with fail
        obtain ⟨d, hd⟩ : ∃ d, d = s := ⟨s, rfl⟩
        subst hd
        go_loop [6, 24] (fun _ i => ∃ k : Nat, k ≤ d.size ∧ i = .int .i64 k ∧ Hid ((d.data.toList.take k).all digB = true)) (fun _ i => d.size - (intOf i).toNat)
        case atStart => exact ⟨0, by omega, rfl, Lib.hid rfl⟩
        case round =>
          obtain ⟨k, hk, rfl, hp⟩ := hrel
          by_cases hlt : k < d.size
          · have hltI : (k : Int) < (d.size : Int) := by omega
            cases hP : digB d[k] with
            | true =>
              have hq := Lib.hid (all_snoc hlt hp.out hP)
              have hb : (48 : Int) ≤ (d[k].toNat : Int) ∧ (d[k].toNat : Int) ≤ 57 := by have := of_decide_eq_true hP; omega
              obtain ⟨hb1, hb2⟩ := hb
              clear hP
              go_wp2_with fail
              go_round
              case rel => exact ⟨k + 1, by omega, by go_num, hq⟩
              case measure => simp [intOf]; omega
            | false =>
              have hq := Lib.hid (SH.out.trans (all_no hlt hP))
              by_cases hb : (d[k].toNat : Int) < 48
              · clear hP
                go_wp2_with fail
                go_ret2
                exact ⟨_, _, rfl, by rw [hq.out]; rfl, rfl⟩
              · have hb2 : (57 : Int) < (d[k].toNat : Int) := by have := of_decide_eq_false hP; omega
                clear hP
                go_wp2_with fail
                go_ret2
                exact ⟨_, _, rfl, by rw [hq.out]; rfl, rfl⟩
          · obtain rfl : k = d.size := by omega
            have HA := Lib.hid (all_end hp.out)
            have HT := Lib.hid (SH.out.trans (all_end hp.out))
            go_wp2_with fail
            go_loop [7, 40] (fun n i => ∃ k : Nat, k ≤ d.size ∧ i = .int .i64 k ∧ ∃ x : Int, n = .int .i64 x ∧ Hid (okI x)) (fun _ i => d.size - (intOf i).toNat)
            case atStart => exact ⟨0, by omega, rfl, 0, rfl, Lib.hid (by unfold okI; omega)⟩
            case round =>
              obtain ⟨k, hk, rfl, x, rfl, hx⟩ := hrel
              by_cases hlt : k < d.size
              · have hltI : (k : Int) < (d.size : Int) := by omega
                have hP := all_at HA.out hlt
                have hb : (48 : Int) ≤ (d[k].toNat : Int) ∧ (d[k].toNat : Int) ≤ 57 := by have := of_decide_eq_true hP; omega
                obtain ⟨hb1, hb2⟩ := hb
                clear hP
                cases hl : lim (x * 10) with
                | none =>
                  have M := Lib.hid (fun w => numV_no (mul_c x 10 w hx.out (by unfold okI; omega)) hl)
                  clear hl
                  go_wp2_with fail
                  refine (M.out _).mono ?_
                  rintro e w' ⟨rfl, rfl⟩
                  go_wp2_with fail
                  go_ret2
                  exact ⟨_, _, rfl, by rw [HT.out]; rfl, rfl⟩
                | some y =>
                  have M := Lib.hid (fun w => numV_yes (mul_c x 10 w hx.out (by unfold okI; omega)) hl)
                  have hy := Lib.hid (lim_ok hl)
                  clear hl
                  go_wp2_with fail
                  refine (M.out _).mono ?_
                  rintro e w' ⟨rfl, rfl⟩
                  go_wp2_with fail
                  cases hl2 : lim (y - ((d[k].toNat : Int) - 48)) with
                  | none =>
                    have M2 := Lib.hid (fun w => numV_no (sub_c y ((d[k].toNat : Int) - 48) w hy.out (by unfold okI; omega)) hl2)
                    clear hl2
                    refine (M2.out _).mono ?_
                    rintro e w' ⟨rfl, rfl⟩
                    go_wp2_with fail
                    go_ret2
                    exact ⟨_, _, rfl, by rw [HT.out]; rfl, rfl⟩
                  | some z =>
                    have M2 := Lib.hid (fun w => numV_yes (sub_c y ((d[k].toNat : Int) - 48) w hy.out (by unfold okI; omega)) hl2)
                    have hzz := Lib.hid (lim_ok hl2)
                    clear hl2
                    refine (M2.out _).mono ?_
                    rintro e w' ⟨rfl, rfl⟩
                    go_wp2_with fail
                    go_round
                    case rel => exact ⟨k + 1, by omega, by go_num, z, rfl, hzz⟩
                    case measure => simp [intOf]; omega
              · obtain rfl : k = d.size := by omega
                cases hl : lim (0 - x) with
                | none =>
                  have M := Lib.hid (fun w => numV_no (sub_c 0 x w (by unfold okI; omega) hx.out) hl)
                  clear hl
                  go_wp2_with fail
                  refine (M.out _).mono ?_
                  rintro e w' ⟨rfl, rfl⟩
                  go_wp2_with fail
                  go_ret2
                  exact ⟨_, _, rfl, by rw [HT.out]; rfl, rfl⟩
                | some z =>
                  have M := Lib.hid (fun w => numV_yes (sub_c 0 x w (by unfold okI; omega) hx.out) hl)
                  clear hl
                  go_wp2_with fail
                  refine (M.out _).mono ?_
                  rintro e w' ⟨rfl, rfl⟩
                  go_wp2_with fail
                  go_ret2
                  exact ⟨_, _, rfl, by rw [HT.out]; rfl, rfl⟩
      · have hE1 : (s).toList.isEmpty = true := isEmpty hE
        have SH := Lib.hid (shape_no HD.out hE)
        clear hE
        go_enter Tryz.func114, Tryz.ntmps114
        go_wp2_with fail
        refine (strings_HasPrefix _ _ _).mono ?_
        rintro e w' ⟨rfl, rfl⟩
        go_wp2_with fail
        refine (strings_HasPrefix _ _ _).mono ?_
        rintro e w' ⟨rfl, rfl⟩
        go_wp2_with fail
        go_ret2
        exact ⟨_, _, rfl, by rw [SH.out]; rfl, rfl⟩
end Go.Proofs.YtmadnehipagakaaGreatDoor
