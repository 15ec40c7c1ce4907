/- MemoryFull. -/
import Derived.Test.YtoaepnidlddmjaaDoorWm
namespace Go.Proofs.YtoaepnidlddmjaaDoor
open Go.RowKit Go.Lib KP MR RW
abbrev tS : ByteArray := ⟨#[116]⟩
/-- The facts 1 to k. -/
def TT (k : Nat) : List Ft := (List.range k).map fun (i : Nat) => ((i : Int) + 1, tS, [vI ((i : Int) + 1)])
theorem TT_succ (k : Nat) : TT (k + 1) = TT k ++ [((k : Int) + 1, tS, [vI ((k : Int) + 1)])] := by
  unfold TT
  rw [List.range_succ, List.map_append]
  rfl
theorem TT_len (k : Nat) : (TT k).length = k := by unfold TT; simp
theorem vI_inj {a b : Int} (h : [vI a] = [vI b]) : a = b := by simpa using h
theorem find_TT (k : Nat) (n : Int) : findO (TT k) tS [vI n] = if 1 ≤ n ∧ n ≤ k then some n else none := by
  induction k with
  | zero => rw [if_neg (by omega)]; rfl
  | succ k ih =>
    unfold findO at *
    rw [TT_succ, List.find?_append]
    by_cases h1 : 1 ≤ n ∧ n ≤ (k : Int)
    · rw [if_pos h1] at ih
      rw [if_pos (by omega)]
      cases hq : (TT k).find? fun f => decide (f.2.1 = tS ∧ f.2.2 = [vI n]) with
      | none => rw [hq] at ih; cases ih
      | some y => rw [hq] at ih; simpa using ih
    · rw [if_neg h1] at ih
      have hq : ((TT k).find? fun f => decide (f.2.1 = tS ∧ f.2.2 = [vI n])) = none := by simpa using ih
      rw [hq]
      by_cases h2 : n = (k : Int) + 1
      · rw [if_pos (by omega)]
        subst h2
        simp
      · rw [if_neg (by omega)]
        have : ¬ [vI ((k : Int) + 1)] = [vI n] := fun e => h2 (vI_inj e).symm
        simp only [Option.none_or, Option.map_eq_none_iff, List.find?_eq_none, List.mem_singleton, decide_eq_true_eq]
        rintro x rfl ⟨_, e⟩
        exact this e
theorem TT_mem {k : Nat} {n : Int} (h1 : 1 ≤ n) (h2 : n ≤ k) : ∃ t ∈ TT k, t.1 = n := by
  refine ⟨_, List.mem_map.2 ⟨n.toNat - 1, List.mem_range.2 (by omega), rfl⟩, ?_⟩
  show ((n.toNat - 1 : Nat) : Int) + 1 = n
  omega
theorem TT_gone {n : Int} (h1 : 1 ≤ n) (h2 : n ≤ 1000) : ((TT 1000).filter fun t => decide (t.1 ≠ n)).length = 999 := by
  have hl : n.toNat - 1 < (TT 1000).length := by rw [TT_len]; omega
  have he : (TT 1000)[n.toNat - 1].1 = n := by
    have h1 : (TT 1000)[n.toNat - 1]? = some (((n.toNat - 1 : Nat) : Int) + 1, tS, [vI (((n.toNat - 1 : Nat) : Int) + 1)]) := by
      unfold TT
      rw [List.getElem?_map, List.getElem?_range (by omega)]
      rfl
    rw [List.getElem?_eq_getElem hl] at h1
    rw [Option.some.inj h1]
    show ((n.toNat - 1 : Nat) : Int) + 1 = n
    omega
  have hn : ((TT 1000).map (·.1)).Nodup := by
    unfold TT
    rw [List.map_map, List.Nodup, List.pairwise_map]
    exact (List.nodup_range (n := 1000)).imp (fun h e => h (by simp only [Function.comp_def] at e; omega))
  have := filter_erase (fun f : Ft => f.1) (TT 1000) (n.toNat - 1) hl hn
  rw [he] at this
  rw [this, List.length_eraseIdx_of_lt hl, TT_len]
theorem find_filter {T : List Ft} {t : ByteArray} {l : List Vl} (p : Ft → Bool) (h : findO T t l = none) : findO (T.filter p) t l = none := by
  have := find_none h
  unfold findO
  rw [Option.map_eq_none_iff, List.find?_eq_none]
  intro x hx hd
  exact this x (List.mem_filter.1 hx).1 (of_decide_eq_true hd)
set_option maxRecDepth 100000 in
set_option maxHeartbeats 4000000 in
theorem full_bad (a b : Int) (w : World) (ht : Tab w) (h : ¬ (1 ≤ a ∧ a ≤ 20 ∧ 1 ≤ b ∧ b ≤ 1000)) : Calls Tryd.prog 3 #[.int .i64 a, .int .i64 b] w fun e w' => e = .returned (.bool true) ∧ Below w.heap.size w w' := by
  have HT := Lib.hid ht
  clear ht
  have hc : a < 1 ∨ (1 ≤ a ∧ 20 < a) ∨ (1 ≤ a ∧ a ≤ 20 ∧ b < 1) ∨ (1 ≤ a ∧ a ≤ 20 ∧ 1 ≤ b ∧ 1000 < b) := by omega
  clear h
  rcases hc with h1 | ⟨h1, h2⟩ | ⟨h1, h2, h3⟩ | ⟨h1, h2, h3, h4⟩
  all_goals
    go_enter Tryd.func3, Tryd.ntmps3
    go_wp2_with fail
    refine (known_c w HT.out).mono ?_
    rintro e w1 ⟨rfl, b1⟩
    have E1 := Lib.hid b1; clear b1
    go_wp2_with fail
    go_ret
    exact ⟨rfl, E1.out⟩
set_option maxRecDepth 100000 in
set_option maxHeartbeats 4000000 in
theorem full_good (a b : Int) (w : World) (ht : Tab w) (ha1 : 1 ≤ a) (ha2 : a ≤ 20) (hb1 : 1 ≤ b) (hb2 : b ≤ 1000) : Calls Tryd.prog 3 #[.int .i64 a, .int .i64 b] w fun e w' => e = .returned (.bool true) ∧ Below w.heap.size w w' := by
  have HT := Lib.hid ht
  clear ht
  go_enter Tryd.func3, Tryd.ntmps3
  go_wp2_with fail
  refine (known_c w HT.out).mono ?_
  rintro e w1 ⟨rfl, b1⟩
  have E1 := Lib.hid b1; clear b1
  go_wp2_with fail
  refine (new_c w1).mono ?_
  rintro e w2 ⟨g, F2, rfl, i2, _⟩
  have T1 := Lib.hid (HT.out.b E1.out)
  have I2 := Lib.hid i2; clear i2
  go_wp2_with fail
  go_loopw [6] (fun i wr => ∃ k : Nat, k ≤ 1000 ∧ i = .int .i64 ((k : Int) + 1) ∧ Hid (∃ F, Inv w1.heap.size w1 F g (TT k) ((k : Int) + 1) wr)) (fun i _ => (1001 - RowKit.intOf i).toNat)
  case atStart => exact ⟨0, by omega, rfl, Lib.hid ⟨_, I2.out⟩⟩
  case round =>
    obtain ⟨k, hk, rfl, hI⟩ := hrel
    obtain ⟨F, i3⟩ := hI.out
    have I3 := Lib.hid i3
    clear i3 hI I2
    by_cases hlt : k < 1000
    · have hlt1 : (k : Int) + 1 ≤ 1000 := by omega
      have HF := Lib.hid (show findO (TT k) tS [vI ((k : Int) + 1)] = none by rw [find_TT, if_neg (by omega)])
      have HL := Lib.hid (TT_len k)
      go_wp2_with fail
      refine (rInt_c ((k : Int) + 1) wr).mono ?_
      rintro e w4 ⟨rfl, b4⟩
      have I4 := Lib.hid (I3.out.grow b4 I3.out.size); clear b4
      go_wp2_with fail
      refine (assertI_new tS (by decide) ((k : Int) + 1) (okI_small (by omega)) HF.out (by rw [HL.out]; exact hlt) (by omega) I4.out (I4.out.tab T1.out)).mono ?_
      rintro e w5 ⟨F5, rfl, i5, _, _⟩
      have I5 := Lib.hid (show Inv w1.heap.size w1 F5 g (TT (k + 1)) (((k + 1 : Nat) : Int) + 1) w5 by rw [TT_succ]; exact i5); clear i5
      go_wp2_with fail
      go_roundw
      case rel => exact ⟨k + 1, by omega, by go_num, Lib.hid ⟨F5, I5.out⟩⟩
      case measure => simp [RowKit.intOf]; omega
    · have hk0 : k = 1000 := by omega
      have I3' := Lib.hid (show Inv w1.heap.size w1 F g (TT 1000) 1001 wr by have := I3.out; rwa [hk0] at this)
      have hk1 : (k : Int) + 1 = 1001 := by omega
      rw [hk1]
      clear I3 hk0 hk1 hk hlt
      go_wp2_with fail
      obtain ⟨wo, rfl⟩ : ∃ wo : World, wo = wr := ⟨_, rfl⟩
      go_loopw [10] (fun i wr => ∃ k : Nat, (k : Int) ≤ a ∧ i = .int .i64 (k : Int) ∧ Hid (Inv w1.heap.size w1 F g (TT 1000) 1001 wr)) (fun i _ => (a - RowKit.intOf i).toNat)
      case atStart => exact ⟨0, by omega, rfl, I3'⟩
      case round =>
        obtain ⟨j, hj, rfl, I5⟩ := hrel
        clear I3'
        by_cases hlt2 : (j : Int) < a
        · have HF := Lib.hid (show findO (TT 1000) tS [vI (2000 + (j : Int))] = none by rw [find_TT, if_neg (by omega)])
          have HL := Lib.hid (TT_len 1000)
          go_wp2_with fail
          refine (rInt_c (2000 + (j : Int)) wr).mono ?_
          rintro e w4 ⟨rfl, b4⟩
          have I6 := Lib.hid (I5.out.grow b4 I5.out.size); clear b4
          go_wp2_with fail
          refine (assertI_full tS (by decide) (2000 + (j : Int)) (okI_small (by omega)) HF.out (by rw [HL.out]; exact Nat.le_refl _) I6.out (I6.out.tab T1.out)).mono ?_
          rintro e w5 ⟨rfl, i5, _⟩
          have I7 := Lib.hid i5; clear i5
          go_wp2_with fail
          go_roundw
          case rel => exact ⟨j + 1, by omega, by go_num, I7⟩
          case measure => simp [RowKit.intOf]; omega
        · have HF := Lib.hid (show findO (TT 1000) tS [vI b] = some b by rw [find_TT, if_pos (by omega)])
          have HF0 := Lib.hid (find_filter (fun t => decide (t.1 ≠ b)) (show findO (TT 1000) tS [vI 0] = none by rw [find_TT, if_neg (by omega)]))
          have HM := Lib.hid (TT_mem (k := 1000) hb1 (by omega))
          have HG := Lib.hid (TT_gone hb1 hb2)
          go_wp2_with fail
          refine (rInt_c b wr).mono ?_
          rintro e w4 ⟨rfl, b4⟩
          have I6 := Lib.hid (I5.out.grow b4 I5.out.size); clear b4
          go_wp2_with fail
          refine (assertI_old tS (by decide) b (okI_small (by omega)) b HF.out I6.out (I6.out.tab T1.out)).mono ?_
          rintro e w5 ⟨rfl, i7, _⟩
          have I7 := Lib.hid i7; clear i7
          go_wp2_with fail
          refine (retract_yes b I7.out HM.out (I7.out.tab T1.out)).mono ?_
          rintro e w6 ⟨rfl, i8, _⟩
          have I8 := Lib.hid i8; clear i8
          go_wp2_with fail
          refine (rInt_c 0 w6).mono ?_
          rintro e w7 ⟨rfl, b7⟩
          have I9 := Lib.hid (I8.out.grow b7 I8.out.size); clear b7
          go_wp2_with fail
          refine (assertI_new tS (by decide) 0 (okI_small (by omega)) HF0.out (by rw [HG.out]; decide) (by omega) I9.out (I9.out.tab T1.out)).mono ?_
          rintro e w8 ⟨F8, rfl, i10, _, _⟩
          have I10 := Lib.hid i10; clear i10
          go_wp2_with fail
          refine (len_n I10.out (n := 1000) (by rw [List.length_append, HG.out]; rfl)).mono ?_
          rintro e w9 ⟨rfl, rfl⟩
          go_wp2_with fail
          go_ret
          exact ⟨rfl, E1.out.trans (I10.out.below.mono E1.out.size)⟩
theorem memoryFull_any (a b : Int) (w : World) (ht : Tab w) (_ : (Lit.int .i64 a).wf = true) (_ : (Lit.int .i64 b).wf = true) : Calls Tryd.prog 3 #[.int .i64 a, .int .i64 b] w fun e w' => e = .returned (.bool true) ∧ Below w.heap.size w w' := by
  by_cases h : 1 ≤ a ∧ a ≤ 20 ∧ 1 ≤ b ∧ b ≤ 1000
  · exact full_good a b w ht h.1 h.2.1 h.2.2.1 h.2.2.2
  · exact full_bad a b w ht h
end Go.Proofs.YtoaepnidlddmjaaDoor
