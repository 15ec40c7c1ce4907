/- Values that may be: the reference's Sign, Shape, Right. -/
import Derived.Test.YtoaepnidlddmjaaDoorWr
import Derived.Lib.IndexBytes
import Derived.Lib.Strings
namespace Go.Proofs.YtoaepnidlddmjaaDoor
open Go.RowKit Go.Lib KP
def digB (c : UInt8) : Bool := decide (48 ≤ c.toNat ∧ c.toNat ≤ 57)
def digs (s : ByteArray) : ByteArray := if Lib.hasPrefix s.data.toList [45] || Lib.hasPrefix s.data.toList [43] then s.extract 1 s.size else s
/-- Is a text a sign, or none, and digits alone? -/
def shapeB (s : ByteArray) : Bool := decide (0 < (digs s).size) && (digs s).data.toList.all digB
theorem take_snoc (s : ByteArray) (k : Nat) (h : k < s.size) : s.data.toList.take (k + 1) = s.data.toList.take k ++ [s[k]] := by
  rw [List.take_succ_eq_append_getElem (by simpa using h)]; rfl
theorem all_snoc {p : UInt8 → Bool} {s : ByteArray} {k : Nat} (h : k < s.size) (hk : (s.data.toList.take k).all p = true) (hp : p s[k] = true) : (s.data.toList.take (k + 1)).all p = true := by
  rw [take_snoc s k h, List.all_append, hk]
  simp [hp]
theorem all_no {p : UInt8 → Bool} {s : ByteArray} {k : Nat} (h : k < s.size) (hp : p s[k] = false) : s.data.toList.all p = false := by
  rw [List.all_eq_false]
  exact ⟨s[k], Array.mem_toList_iff.2 (Array.getElem_mem (xs := s.data) h), by simp [hp]⟩
theorem all_end {p : UInt8 → Bool} {s : ByteArray} (hk : (s.data.toList.take s.size).all p = true) : s.data.toList.all p = true := by
  rwa [List.take_of_length_le (by simp)] at hk
theorem all_at {p : UInt8 → Bool} {s : ByteArray} (h : s.data.toList.all p = true) {k : Nat} (hk : k < s.size) : p s[k] = true :=
  List.all_eq_true.1 h _ (Array.mem_toList_iff.2 (Array.getElem_mem (xs := s.data) hk))
def signB (n : Int) : Bool := decide (33 ≤ n ∧ n ≤ 126 ∧ n ≠ 40 ∧ n ≠ 41 ∧ n ≠ 34 ∧ n ≠ 59 ∧ n ≠ 63 ∧ n ≠ 126)
theorem rsign_c (c : Int) (w : World) : Calls Tryd.prog 29 #[.int .u8 c] w fun e w' => e = .returned (.bool (signB c)) ∧ w = w' := by
  by_cases h40 : c = 40
  · subst h40
    go_enter Tryd.func29, Tryd.ntmps29
    go_wp2_with fail
    go_ret
    exact ⟨ret_bool (by first | rfl | (simp [signB]; done) | (simp [signB]; omega)), rfl⟩
  by_cases h41 : c = 41
  · subst h41
    go_enter Tryd.func29, Tryd.ntmps29
    go_wp2_with fail
    go_ret
    exact ⟨ret_bool (by first | rfl | (simp [signB]; done) | (simp [signB]; omega)), rfl⟩
  by_cases h34 : c = 34
  · subst h34
    go_enter Tryd.func29, Tryd.ntmps29
    go_wp2_with fail
    go_ret
    exact ⟨ret_bool (by first | rfl | (simp [signB]; done) | (simp [signB]; omega)), rfl⟩
  by_cases h59 : c = 59
  · subst h59
    go_enter Tryd.func29, Tryd.ntmps29
    go_wp2_with fail
    go_ret
    exact ⟨ret_bool (by first | rfl | (simp [signB]; done) | (simp [signB]; omega)), rfl⟩
  by_cases h63 : c = 63
  · subst h63
    go_enter Tryd.func29, Tryd.ntmps29
    go_wp2_with fail
    go_ret
    exact ⟨ret_bool (by first | rfl | (simp [signB]; done) | (simp [signB]; omega)), rfl⟩
  by_cases h126 : c = 126
  · subst h126
    go_enter Tryd.func29, Tryd.ntmps29
    go_wp2_with fail
    go_ret
    exact ⟨ret_bool (by first | rfl | (simp [signB]; done) | (simp [signB]; omega)), rfl⟩
  have e40 : (c == 40) = false := by simp [h40]
  have n40 : (c != 40) = true := by simp [h40]
  have e41 : (c == 41) = false := by simp [h41]
  have n41 : (c != 41) = true := by simp [h41]
  have e34 : (c == 34) = false := by simp [h34]
  have n34 : (c != 34) = true := by simp [h34]
  have e59 : (c == 59) = false := by simp [h59]
  have n59 : (c != 59) = true := by simp [h59]
  have e63 : (c == 63) = false := by simp [h63]
  have n63 : (c != 63) = true := by simp [h63]
  have e126 : (c == 126) = false := by simp [h126]
  have n126 : (c != 126) = true := by simp [h126]
  have H : Hid (signB c = decide (33 ≤ c ∧ c ≤ 126)) := Lib.hid (by unfold signB; simp [h40, h41, h34, h59, h63, h126])
  clear h40 h41 h34 h59 h63 h126
  by_cases hl : 33 ≤ c
  · by_cases hg : c ≤ 126
    · have hx : True := trivial
      go_enter Tryd.func29, Tryd.ntmps29
      go_wp2_with fail
      go_ret
      exact ⟨ret_bool (by rw [H.out]; symm; simp; omega), rfl⟩
    · have hg' : 126 < c := by omega
      go_enter Tryd.func29, Tryd.ntmps29
      go_wp2_with fail
      go_ret
      exact ⟨ret_bool (by rw [H.out]; symm; simp; omega), rfl⟩
  · have hl' : c < 33 := by omega
    go_enter Tryd.func29, Tryd.ntmps29
    go_wp2_with fail
    go_ret
    exact ⟨ret_bool (by rw [H.out]; symm; simp; omega), rfl⟩
def symB (s : ByteArray) : Bool := decide (1 ≤ s.size ∧ s.size ≤ 40) && (s.data.toList.all fun b => signB b.toNat) && !shapeB s
theorem symB_no {s : ByteArray} (h : ¬ (1 ≤ s.size ∧ s.size ≤ 40)) : symB s = false := by unfold symB; rw [decide_eq_false h]; rfl
theorem symB_of {s : ByteArray} (h : 1 ≤ s.size ∧ s.size ≤ 40) : symB s = ((s.data.toList.all fun b => signB b.toNat) && !shapeB s) := by unfold symB; rw [decide_eq_true h]; rfl
def rightB (v : Vl) : Bool := if v.1 = 1 then v.2.2.toList.isEmpty else if v.1 = 2 then decide (v.2.1 = 0) && symB v.2.2 else if v.1 = 3 then decide (v.2.1 = 0) && decide (v.2.2.size ≤ 1000) else false
theorem hasP_list : ∀ (l : List UInt8) (h : 0 < l.length) (c : UInt8), Lib.hasPrefix l [c] = decide (l[0] = c)
  | [], h, _ => by simp at h
  | x :: l, _, c => by
    show [c].isPrefixOf (x :: l) = decide (x = c)
    rw [Bool.eq_iff_iff]
    simp [List.isPrefixOf]
    exact eq_comm
theorem hasP {s : ByteArray} {c : UInt8} (h : 0 < s.size) : Lib.hasPrefix s.data.toList [c] = decide (s[0] = c) := hasP_list s.data.toList (by simpa using h) c
theorem u8_ne43 {c : UInt8} (h : ¬ c = 43) : ((c.toNat : Int) == 43) = false := by
  rw [beq_eq_false_iff_ne]; intro e; apply h; apply UInt8.toNat_inj.1; show c.toNat = 43; omega
theorem u8_ne45 {c : UInt8} (h : ¬ c = 45) : ((c.toNat : Int) == 45) = false := by
  rw [beq_eq_false_iff_ne]; intro e; apply h; apply UInt8.toNat_inj.1; show c.toNat = 45; omega
theorem digs_list (s : ByteArray) : (digs s).data.toList = s.data.toList.drop (if Lib.hasPrefix s.data.toList [45] || Lib.hasPrefix s.data.toList [43] then 1 else 0) := by
  unfold digs
  split
  · exact Lib.extract_to_end s 1
  · rfl
theorem shape_all {s : ByteArray} {n : Nat} (hd : (digs s).data.toList = s.data.toList.drop n) (h : ∀ j (hj : j < s.size), n ≤ j → digB s[j] = true) : shapeB s = decide (n < s.size) := by
  have hl : (digs s).size = s.size - n := by
    have : (digs s).data.toList.length = (digs s).size := by simp
    rw [← this, hd]; simp
  unfold shapeB
  rw [hl]
  have : (digs s).data.toList.all digB = true := by
    rw [hd, List.all_eq_true]
    intro x hx
    obtain ⟨j, hj, rfl⟩ := List.getElem_of_mem hx
    rw [List.getElem_drop]
    rw [List.length_drop] at hj
    exact h (n + j) (by simp at hj; omega) (by omega)
  rw [this, Bool.and_true]
  exact decide_eq_decide.2 (by omega)
theorem shape_bad {s : ByteArray} {n : Nat} (hd : (digs s).data.toList = s.data.toList.drop n) {j : Nat} (hj : j < s.size) (hn : n ≤ j) (h : digB s[j] = false) : shapeB s = false := by
  have : (digs s).data.toList.all digB = false := by
    rw [hd, List.all_eq_false]
    refine ⟨s[j], ?_, by simp [h]⟩
    rw [List.mem_iff_getElem]
    refine ⟨j - n, by simp; omega, ?_⟩
    rw [List.getElem_drop]
    have e : n + (j - n) = j := by omega
    simp only [e]
    rfl
  unfold shapeB
  rw [this, Bool.and_false]
theorem size_nil {s : ByteArray} (h : s.size = 0) : s.data.toList = [] := List.eq_nil_of_length_eq_zero (by
  have : s.data.toList.length = s.size := by simp
  omega)
theorem shape_nil {s : ByteArray} (h : s.size = 0) : shapeB s = false := by
  have := shape_all (s := s) (n := 0) (by rw [digs_list, size_nil h]; simp) (fun j hj _ => by omega)
  rw [this]; exact decide_eq_false (by omega)
set_option maxHeartbeats 1000000 in
theorem rshape_c (s : ByteArray) (hs : s.size ≤ 1000000) (w : World) : Calls Tryd.prog 28 #[.string s] w fun e w' => e = .returned (.bool (shapeB s)) ∧ w = w' := by
  by_cases h0 : s.size = 0
  · have H := Lib.hid (shape_nil h0)
    have h2 := Lib.hid (size_nil h0)
    have h3 : (s.size : Int) ≤ 0 := by omega
    go_enter Tryd.func28, Tryd.ntmps28
    go_wp2_with fail
    go_loop [4] (fun i => i = .int .i64 0) (fun i => 0)
    case atStart => rfl
    case round =>
      subst hrel
      go_wp2_with fail
      go_ret
      exact ⟨ret_bool (by rw [H.out]), rfl⟩
  have hpos : 0 < s.size := by omega
  have hposI : (0 : Int) < (s.size : Int) := by omega
  by_cases h43 : s[0] = 43
  · have HL : Hid ((digs s).data.toList = s.data.toList.drop 1) := Lib.hid (by rw [digs_list, hasP hpos, hasP hpos, decide_eq_true h43]; simp)
    have e1 : ((s[0].toNat : Int) == 43) = true := by rw [h43]; rfl
    clear h43
    go_enter Tryd.func28, Tryd.ntmps28
    go_wp2_with fail
    go_loop [4] (fun i => ∃ k : Nat, 1 ≤ k ∧ k ≤ s.size ∧ i = .int .i64 k ∧ Hid (∀ j (hj : j < s.size), 1 ≤ j → j < k → digB s[j] = true)) (fun i => s.size - (RowKit.intOf i).toNat)
    case atStart => exact ⟨1, by omega, by omega, rfl, Lib.hid (fun j _ h1 h2 => by omega)⟩
    case round =>
      obtain ⟨k, hk0, hk, rfl, hp⟩ := hrel
      by_cases hlt : k < s.size
      · have hltI : (k : Int) < (s.size : Int) := by omega
        cases hP : digB s[k] with
        | true =>
          have hq : Hid (∀ j (hj : j < s.size), 1 ≤ j → j < k + 1 → digB s[j] = true) := Lib.hid (fun j hj h1 h2 => by
            by_cases e : j = k
            · subst e; exact hP
            · exact hp.out j hj h1 (by omega))
          have hb : (48 : Int) ≤ (s[k].toNat : Int) ∧ (s[k].toNat : Int) ≤ 57 := by have := of_decide_eq_true hP; omega
          obtain ⟨hb1, hb2⟩ := hb
          clear hP
          go_wp2_with fail
          go_round
          case rel => exact ⟨k + 1, by omega, by omega, by go_num, hq⟩
          case measure => simp [RowKit.intOf]; omega
        | false =>
          have hq := Lib.hid (shape_bad HL.out hlt hk0 hP)
          by_cases hb : (s[k].toNat : Int) < 48
          · clear hP
            go_wp2_with fail
            go_ret
            exact ⟨ret_bool hq.out.symm, rfl⟩
          · have hb2 : (57 : Int) < (s[k].toNat : Int) := by have := of_decide_eq_false hP; omega
            clear hP
            go_wp2_with fail
            go_ret
            exact ⟨ret_bool hq.out.symm, rfl⟩
      · obtain rfl : k = s.size := by omega
        have HT := Lib.hid (shape_all HL.out (fun j hj h => hp.out j hj h hj))
        go_wp2_with fail
        go_ret
        exact ⟨ret_bool (by rw [HT.out]; first | (simp; done) | (symm; simp; omega)), rfl⟩
  by_cases h45 : s[0] = 45
  · have HL : Hid ((digs s).data.toList = s.data.toList.drop 1) := Lib.hid (by rw [digs_list, hasP hpos, hasP hpos, decide_eq_true h45]; simp)
    have e1 : ((s[0].toNat : Int) == 43) = false := by rw [h45]; rfl
    have e2 : ((s[0].toNat : Int) == 45) = true := by rw [h45]; rfl
    clear h43 h45
    go_enter Tryd.func28, Tryd.ntmps28
    go_wp2_with fail
    go_loop [4] (fun i => ∃ k : Nat, 1 ≤ k ∧ k ≤ s.size ∧ i = .int .i64 k ∧ Hid (∀ j (hj : j < s.size), 1 ≤ j → j < k → digB s[j] = true)) (fun i => s.size - (RowKit.intOf i).toNat)
    case atStart => exact ⟨1, by omega, by omega, rfl, Lib.hid (fun j _ h1 h2 => by omega)⟩
    case round =>
      obtain ⟨k, hk0, hk, rfl, hp⟩ := hrel
      by_cases hlt : k < s.size
      · have hltI : (k : Int) < (s.size : Int) := by omega
        cases hP : digB s[k] with
        | true =>
          have hq : Hid (∀ j (hj : j < s.size), 1 ≤ j → j < k + 1 → digB s[j] = true) := Lib.hid (fun j hj h1 h2 => by
            by_cases e : j = k
            · subst e; exact hP
            · exact hp.out j hj h1 (by omega))
          have hb : (48 : Int) ≤ (s[k].toNat : Int) ∧ (s[k].toNat : Int) ≤ 57 := by have := of_decide_eq_true hP; omega
          obtain ⟨hb1, hb2⟩ := hb
          clear hP
          go_wp2_with fail
          go_round
          case rel => exact ⟨k + 1, by omega, by omega, by go_num, hq⟩
          case measure => simp [RowKit.intOf]; omega
        | false =>
          have hq := Lib.hid (shape_bad HL.out hlt hk0 hP)
          by_cases hb : (s[k].toNat : Int) < 48
          · clear hP
            go_wp2_with fail
            go_ret
            exact ⟨ret_bool hq.out.symm, rfl⟩
          · have hb2 : (57 : Int) < (s[k].toNat : Int) := by have := of_decide_eq_false hP; omega
            clear hP
            go_wp2_with fail
            go_ret
            exact ⟨ret_bool hq.out.symm, rfl⟩
      · obtain rfl : k = s.size := by omega
        have HT := Lib.hid (shape_all HL.out (fun j hj h => hp.out j hj h hj))
        go_wp2_with fail
        go_ret
        exact ⟨ret_bool (by rw [HT.out]; first | (simp; done) | (symm; simp; omega)), rfl⟩
  have HL : Hid ((digs s).data.toList = s.data.toList.drop 0) := Lib.hid (by rw [digs_list, hasP hpos, hasP hpos, decide_eq_false h43, decide_eq_false h45]; simp)
  have e1 := u8_ne43 h43
  have e2 := u8_ne45 h45
  clear h43 h45
  go_enter Tryd.func28, Tryd.ntmps28
  go_wp2_with fail
  go_loop [4] (fun i => ∃ k : Nat, 0 ≤ k ∧ k ≤ s.size ∧ i = .int .i64 k ∧ Hid (∀ j (hj : j < s.size), 0 ≤ j → j < k → digB s[j] = true)) (fun i => s.size - (RowKit.intOf i).toNat)
  case atStart => exact ⟨0, by omega, by omega, rfl, Lib.hid (fun j _ h1 h2 => by omega)⟩
  case round =>
    obtain ⟨k, hk0, hk, rfl, hp⟩ := hrel
    by_cases hlt : k < s.size
    · have hltI : (k : Int) < (s.size : Int) := by omega
      cases hP : digB s[k] with
      | true =>
        have hq : Hid (∀ j (hj : j < s.size), 0 ≤ j → j < k + 1 → digB s[j] = true) := Lib.hid (fun j hj h1 h2 => by
          by_cases e : j = k
          · subst e; exact hP
          · exact hp.out j hj h1 (by omega))
        have hb : (48 : Int) ≤ (s[k].toNat : Int) ∧ (s[k].toNat : Int) ≤ 57 := by have := of_decide_eq_true hP; omega
        obtain ⟨hb1, hb2⟩ := hb
        clear hP
        go_wp2_with fail
        go_round
        case rel => exact ⟨k + 1, by omega, by omega, by go_num, hq⟩
        case measure => simp [RowKit.intOf]; omega
      | false =>
        have hq := Lib.hid (shape_bad HL.out hlt hk0 hP)
        by_cases hb : (s[k].toNat : Int) < 48
        · clear hP
          go_wp2_with fail
          go_ret
          exact ⟨ret_bool hq.out.symm, rfl⟩
        · have hb2 : (57 : Int) < (s[k].toNat : Int) := by have := of_decide_eq_false hP; omega
          clear hP
          go_wp2_with fail
          go_ret
          exact ⟨ret_bool hq.out.symm, rfl⟩
    · obtain rfl : k = s.size := by omega
      have HT := Lib.hid (shape_all HL.out (fun j hj h => hp.out j hj h hj))
      go_wp2_with fail
      go_ret
      exact ⟨ret_bool (by rw [HT.out]; first | (simp; done) | (symm; simp; omega)), rfl⟩
theorem one_box (W : World) (a : Vl) (T : TypeId) :
    let w2 := W.alloc (.cells (v3 a).toArray T)
    (w2.cell? ⟨W.heap.size, 0, none⟩ = some (.int .i64 a.1) ∧ w2.cell? ⟨W.heap.size, 1, none⟩ = some (.int .i64 a.2.1) ∧ w2.cell? ⟨W.heap.size, 2, none⟩ = some (.string a.2.2)) ∧ Below W.heap.size W w2 ∧ W.heap.size + 1 ≤ w2.heap.size := by
  intro w2
  have ha : w2.heap[W.heap.size]? = some (.cells (v3 a).toArray T (0, 0)) := heap_alloc_new W _
  exact ⟨⟨block_cell ha rfl, block_cell ha rfl, block_cell ha rfl⟩, (Below.refl _ _).alloc (Nat.le_refl _) _, by simp [w2]⟩
set_option maxHeartbeats 2000000 in
theorem rright_c (v : Vl) (w : World) (hs : v.2.2.size ≤ 9223372036854775807) : Calls Tryd.prog 18 #[v.val] w fun e w' => e = .returned (.bool (rightB v)) ∧ Below w.heap.size w w' := by
  obtain ⟨a, b, s⟩ := v
  have hs' : (s.size : Int) ≤ 9223372036854775807 := by have : s.size ≤ 9223372036854775807 := hs; omega
  have hB := one_box w (a, b, s) 29
  dsimp only at hB
  have E2 := Lib.hid hB.2.1
  clear hB hs
  by_cases h1 : a = 1
  · subst h1
    have H : Hid (rightB (1, b, s) = s.toList.isEmpty) := Lib.hid rfl
    go_enter Tryd.func18, Tryd.ntmps18
    go_wp2_with fail
    go_ret
    exact ⟨ret_bool H.out.symm, E2.out⟩
  have e1 : (a == 1) = false := by simp [h1]
  by_cases h2 : a = 2
  · subst h2
    clear h1
    by_cases h0 : b = 0
    · subst h0
      by_cases hz : s.size = 0
      · have H : Hid (rightB (2, 0, s) = (false && s.data.toList.all fun c => signB c.toNat)) := Lib.hid (by simp [rightB]; exact symB_no (by omega))
        have hz1 : (s.size : Int) < 1 := by omega
        clear hz
        go_enter Tryd.func18, Tryd.ntmps18
        go_wp2_with fail
        have hB := one_box w (2, 0, s) 29
        dsimp only at hB
        generalize w.alloc (.cells #[.int .i64 2, .int .i64 0, .string s] 29) = w2 at hB ⊢
        clear E2
        obtain ⟨⟨c0, c1, c2⟩, hB, _⟩ := hB
        have E2 := Lib.hid hB
        clear hB
        go_loop [3, 4] (fun ok i => ∃ k : Nat, k ≤ s.size ∧ i = .int .i64 k ∧ ∃ o : Bool, ok = .bool o ∧ Hid (o = (false && (s.data.toList.take k).all fun c => signB c.toNat))) (fun _ i => s.size - (RowKit.intOf i).toNat)
        case atStart => exact ⟨0, by omega, rfl, _, rfl, Lib.hid (by simp)⟩
        case round =>
          obtain ⟨k, hk, rfl, o, rfl, ho⟩ := hrel
          by_cases hlt : k < s.size
          · exfalso; omega
          · obtain rfl : k = s.size := by omega
            have hq := Lib.hid (ho.out.trans (by rw [List.take_of_length_le (by simp)] : _ = (false && s.data.toList.all fun c => signB c.toNat)))
            go_wp2_with fail
            go_ret
            exact ⟨ret_bool (hq.out.trans (H.out.symm)), E2.out⟩
      by_cases h4 : 40 < s.size
      · have H : Hid (rightB (2, 0, s) = (false && s.data.toList.all fun c => signB c.toNat)) := Lib.hid (by simp [rightB]; exact symB_no (by omega))
        have hz1 : (1 : Int) ≤ (s.size : Int) := by omega
        have hz2 : (40 : Int) < (s.size : Int) := by omega
        go_enter Tryd.func18, Tryd.ntmps18
        go_wp2_with fail
        have hB := one_box w (2, 0, s) 29
        dsimp only at hB
        generalize w.alloc (.cells #[.int .i64 2, .int .i64 0, .string s] 29) = w2 at hB ⊢
        clear E2
        obtain ⟨⟨c0, c1, c2⟩, hB, _⟩ := hB
        have E2 := Lib.hid hB
        clear hB
        go_loop [3, 4] (fun ok i => ∃ k : Nat, k ≤ s.size ∧ i = .int .i64 k ∧ ∃ o : Bool, ok = .bool o ∧ Hid (o = (false && (s.data.toList.take k).all fun c => signB c.toNat))) (fun _ i => s.size - (RowKit.intOf i).toNat)
        case atStart => exact ⟨0, by omega, rfl, _, rfl, Lib.hid (by simp)⟩
        case round =>
          obtain ⟨k, hk, rfl, o, rfl, ho⟩ := hrel
          by_cases hlt : k < s.size
          · have hltI : (k : Int) < (s.size : Int) := by omega
            have hS := Lib.hid (show ((s.data.toList.take (k + 1)).all fun c => signB c.toNat) = (((s.data.toList.take k).all fun c => signB c.toNat) && signB s[k].toNat) by rw [take_snoc s k hlt, List.all_append]; simp)
            cases o with
            | true =>
              have hq : Hid (signB s[k].toNat = (false && (s.data.toList.take (k + 1)).all fun c => signB c.toNat)) := Lib.hid (by rw [hS.out, ← Bool.and_assoc, ← ho.out, Bool.true_and])
              go_wp2_with fail
              refine (rsign_c _ _).mono ?_
              rintro e w' ⟨rfl, rfl⟩
              generalize signB (s[k].toNat : Int) = q at *
              go_wp2_with fail
              go_round
              case rel => exact ⟨k + 1, by omega, by go_num, _, rfl, hq⟩
              case measure => simp [RowKit.intOf]; omega
            | false =>
              have hq : Hid (false = (false && (s.data.toList.take (k + 1)).all fun c => signB c.toNat)) := Lib.hid (by rw [hS.out, ← Bool.and_assoc, ← ho.out, Bool.false_and])
              go_wp2_with fail
              go_round
              case rel => exact ⟨k + 1, by omega, by go_num, _, rfl, hq⟩
              case measure => simp [RowKit.intOf]; omega
          · obtain rfl : k = s.size := by omega
            have hq := Lib.hid (ho.out.trans (by rw [List.take_of_length_le (by simp)] : _ = (false && s.data.toList.all fun c => signB c.toNat)))
            go_wp2_with fail
            go_ret
            exact ⟨ret_bool (hq.out.trans (H.out.symm)), E2.out⟩
      have H : Hid (rightB (2, 0, s) = (!shapeB s && s.data.toList.all fun c => signB c.toNat)) := Lib.hid (by show (decide ((0 : Int) = 0) && symB s) = _; rw [symB_of (by omega), Bool.and_comm (s.data.toList.all _)]; rfl)
      have hz1 : (1 : Int) ≤ (s.size : Int) := by omega
      have hz2 : (s.size : Int) ≤ 40 := by omega
      go_enter Tryd.func18, Tryd.ntmps18
      go_wp2_with fail
      refine (rshape_c s (by omega) _).mono ?_
      rintro e w' ⟨rfl, rfl⟩
      generalize shapeB s = q at *
      go_wp2_with fail
      have hB := one_box w (2, 0, s) 29
      dsimp only at hB
      generalize w.alloc (.cells #[.int .i64 2, .int .i64 0, .string s] 29) = w2 at hB ⊢
      clear E2
      obtain ⟨⟨c0, c1, c2⟩, hB, _⟩ := hB
      have E2 := Lib.hid hB
      clear hB
      go_loop [3, 4] (fun ok i => ∃ k : Nat, k ≤ s.size ∧ i = .int .i64 k ∧ ∃ o : Bool, ok = .bool o ∧ Hid (o = (!q && (s.data.toList.take k).all fun c => signB c.toNat))) (fun _ i => s.size - (RowKit.intOf i).toNat)
      case atStart => exact ⟨0, by omega, rfl, _, rfl, Lib.hid (by simp)⟩
      case round =>
        obtain ⟨k, hk, rfl, o, rfl, ho⟩ := hrel
        by_cases hlt : k < s.size
        · have hltI : (k : Int) < (s.size : Int) := by omega
          have hS := Lib.hid (show ((s.data.toList.take (k + 1)).all fun c => signB c.toNat) = (((s.data.toList.take k).all fun c => signB c.toNat) && signB s[k].toNat) by rw [take_snoc s k hlt, List.all_append]; simp)
          cases o with
          | true =>
            have hq : Hid (signB s[k].toNat = (!q && (s.data.toList.take (k + 1)).all fun c => signB c.toNat)) := Lib.hid (by rw [hS.out, ← Bool.and_assoc, ← ho.out, Bool.true_and])
            go_wp2_with fail
            refine (rsign_c _ _).mono ?_
            rintro e w' ⟨rfl, rfl⟩
            generalize signB (s[k].toNat : Int) = q at *
            go_wp2_with fail
            go_round
            case rel => exact ⟨k + 1, by omega, by go_num, _, rfl, hq⟩
            case measure => simp [RowKit.intOf]; omega
          | false =>
            have hq : Hid (false = (!q && (s.data.toList.take (k + 1)).all fun c => signB c.toNat)) := Lib.hid (by rw [hS.out, ← Bool.and_assoc, ← ho.out, Bool.false_and])
            go_wp2_with fail
            go_round
            case rel => exact ⟨k + 1, by omega, by go_num, _, rfl, hq⟩
            case measure => simp [RowKit.intOf]; omega
        · obtain rfl : k = s.size := by omega
          have hq := Lib.hid (ho.out.trans (by rw [List.take_of_length_le (by simp)] : _ = (!q && s.data.toList.all fun c => signB c.toNat)))
          go_wp2_with fail
          go_ret
          exact ⟨ret_bool (hq.out.trans (H.out.symm)), E2.out⟩
    · have H : Hid (rightB (2, b, s) = (false && s.data.toList.all fun c => signB c.toNat)) := Lib.hid (by simp [rightB, h0])
      have e0 : (b == 0) = false := by simp [h0]
      clear h0
      go_enter Tryd.func18, Tryd.ntmps18
      go_wp2_with fail
      have hB := one_box w (2, b, s) 29
      dsimp only at hB
      generalize w.alloc (.cells #[.int .i64 2, .int .i64 b, .string s] 29) = w2 at hB ⊢
      clear E2
      obtain ⟨⟨c0, c1, c2⟩, hB, _⟩ := hB
      have E2 := Lib.hid hB
      clear hB
      go_loop [3, 4] (fun ok i => ∃ k : Nat, k ≤ s.size ∧ i = .int .i64 k ∧ ∃ o : Bool, ok = .bool o ∧ Hid (o = (false && (s.data.toList.take k).all fun c => signB c.toNat))) (fun _ i => s.size - (RowKit.intOf i).toNat)
      case atStart => exact ⟨0, by omega, rfl, _, rfl, Lib.hid (by simp)⟩
      case round =>
        obtain ⟨k, hk, rfl, o, rfl, ho⟩ := hrel
        by_cases hlt : k < s.size
        · have hltI : (k : Int) < (s.size : Int) := by omega
          have hS := Lib.hid (show ((s.data.toList.take (k + 1)).all fun c => signB c.toNat) = (((s.data.toList.take k).all fun c => signB c.toNat) && signB s[k].toNat) by rw [take_snoc s k hlt, List.all_append]; simp)
          cases o with
          | true =>
            have hq : Hid (signB s[k].toNat = (false && (s.data.toList.take (k + 1)).all fun c => signB c.toNat)) := Lib.hid (by rw [hS.out, ← Bool.and_assoc, ← ho.out, Bool.true_and])
            go_wp2_with fail
            refine (rsign_c _ _).mono ?_
            rintro e w' ⟨rfl, rfl⟩
            generalize signB (s[k].toNat : Int) = q at *
            go_wp2_with fail
            go_round
            case rel => exact ⟨k + 1, by omega, by go_num, _, rfl, hq⟩
            case measure => simp [RowKit.intOf]; omega
          | false =>
            have hq : Hid (false = (false && (s.data.toList.take (k + 1)).all fun c => signB c.toNat)) := Lib.hid (by rw [hS.out, ← Bool.and_assoc, ← ho.out, Bool.false_and])
            go_wp2_with fail
            go_round
            case rel => exact ⟨k + 1, by omega, by go_num, _, rfl, hq⟩
            case measure => simp [RowKit.intOf]; omega
        · obtain rfl : k = s.size := by omega
          have hq := Lib.hid (ho.out.trans (by rw [List.take_of_length_le (by simp)] : _ = (false && s.data.toList.all fun c => signB c.toNat)))
          go_wp2_with fail
          go_ret
          exact ⟨ret_bool (hq.out.trans (H.out.symm)), E2.out⟩
  have e2 : (a == 2) = false := by simp [h2]
  by_cases h3 : a = 3
  · subst h3
    clear h1 h2
    by_cases h0 : b = 0
    · subst h0
      have H : Hid (rightB (3, 0, s) = decide ((s.size : Int) ≤ 1000)) := Lib.hid (by simp [rightB]; omega)
      go_enter Tryd.func18, Tryd.ntmps18
      go_wp2_with fail
      go_ret
      exact ⟨ret_bool H.out.symm, E2.out⟩
    · have H : Hid (rightB (3, b, s) = false) := Lib.hid (by simp [rightB, h0])
      have e0 : (b == 0) = false := by simp [h0]
      clear h0
      go_enter Tryd.func18, Tryd.ntmps18
      go_wp2_with fail
      go_ret
      exact ⟨ret_bool H.out.symm, E2.out⟩
  have e3 : (a == 3) = false := by simp [h3]
  have H : Hid (rightB (a, b, s) = false) := Lib.hid (by simp [rightB, h1, h2, h3])
  clear h1 h2 h3
  go_enter Tryd.func18, Tryd.ntmps18
  go_wp2_with fail
  go_ret
  exact ⟨ret_bool H.out.symm, E2.out⟩
structure cameV (v : Vl) : Prop where
  k : okI v.1
  n : okI v.2.1
  s : v.2.2.size ≤ 9223372036854775807
theorem empty_size {s : ByteArray} (h : s.toList.isEmpty = true) : s.size = 0 := by
  have : s.toList = [] := by simpa using h
  rw [ByteArray.toList_eq] at this
  have h2 := ba_size s
  rw [this] at h2
  exact h2.symm
theorem right_okV {v : Vl} (h : rightB v = true) (hr : cameV v) : okV v := by
  refine ⟨hr.k, hr.n, ?_⟩
  unfold rightB at h
  split at h
  · rw [empty_size h]; omega
  · split at h
    · have h2 : symB v.2.2 = true := by simp at h; exact h.2
      unfold symB at h2
      simp at h2
      omega
    · split at h
      · simp at h; omega
      · cases h
end Go.Proofs.YtoaepnidlddmjaaDoor
