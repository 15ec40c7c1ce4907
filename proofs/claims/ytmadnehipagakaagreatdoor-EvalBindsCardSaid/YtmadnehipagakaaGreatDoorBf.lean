/- built.fold at each of num's functions. -/
import Derived.Test.YtmadnehipagakaaGreatDoorBn
namespace Go.Proofs.YtmadnehipagakaaGreatDoor
open Go.RowKit Go.Lib Go.Sort KP
def addO (a b : Int) : Option Int := lim (a + b)
def subO (a b : Int) : Option Int := lim (a - b)
def mulO (a b : Int) : Option Int := lim (a * b)
def foldO (op : Int → Int → Option Int) : Int → List Int → Option Int
  | a, [] => some a
  | a, b :: l => (op a b).bind fun x => foldO op x l
def outV (o : Option Int) : Vl := match o with
  | some x => vI x
  | none => v0
def outW (o : Option Int) : Value := .tuple #[Vl.val (outV o), .int .i64 (rE o)]
theorem addO_ok {a b y : Int} (_ : okI a) (h : addO a b = some y) : okI y := lim_ok h
theorem subO_ok {a b y : Int} (_ : okI a) (h : subO a b = some y) : okI y := lim_ok h
theorem mulO_ok {a b y : Int} (_ : okI a) (h : mulO a b = some y) : okI y := lim_ok h
theorem foldO_drop {op : Int → Int → Option Int} {x : Int} {l : List Int} {k : Nat} (h : k < l.length) : foldO op x (l.drop k) = (op x l[k]).bind fun y => foldO op y (l.drop (k + 1)) := by
  rw [List.drop_eq_getElem_cons h]; rfl
set_option maxHeartbeats 1000000 in
theorem foldAdd_c (o : Int) (A : Option Addr) (c : Nat) (l : List Int) (w : World) (ho : okI o) (hr : RowAt w (Value.int .i64) A l) (hk : ∀ n ∈ l, okI n) (hl : l.length ≤ 1000000) :
    Calls Tryz.prog 76 #[.int .i64 o, .slice A l.length c, .func (.func 83) #[] #[]] w fun e w' => e = .returned (outW (foldO addO o l)) ∧ Below w.heap.size w w' := by
  have hlI : (l.length : Int) ≤ 1000000 := by omega
  have HO := Lib.hid ho
  have K := Lib.hid hk
  have R := Lib.hid (fun W (h : Below w.heap.size w W) => hr.below h)
  clear hr hk ho
  go_enter Tryz.func76, Tryz.ntmps76
  go_wp2_with fail
  go_loop [0, 14] (fun x i => ∃ k : Nat, k ≤ l.length ∧ i = .int .i64 k ∧ ∃ n : Int, x = .int .i64 n ∧ Hid (okI n) ∧ Hid (foldO addO o l = foldO addO n (l.drop k))) (fun _ i => l.length - (intOf i).toNat)
  case atStart => exact ⟨0, by omega, rfl, o, rfl, HO, Lib.hid rfl⟩
  case round =>
    obtain ⟨k, hk, rfl, n, rfl, hn, hF⟩ := hrel
    have hB : Hid (Below w.heap.size w (w.alloc (.cells #[.int .i64 0, .int .i64 0, .string ⟨#[]⟩] 26))) := Lib.hid ((Below.refl _ _).alloc (Nat.le_refl _) _)
    by_cases hlt : k < l.length
    · have hltI : (k : Int) < (l.length : Int) := by omega
      obtain ⟨ad, rfl, _, hc⟩ := R.out _ hB.out k hlt
      have hd := Lib.hid (hF.out.trans (foldO_drop hlt))
      have hm := Lib.hid (K.out l[k] (List.getElem_mem hlt))
      generalize l[k] = b at *
      cases hl : addO n b with
      | none =>
        have M := Lib.hid (fun w => numV_no (add_c n b w hn.out hm.out) hl)
        have HN : Hid (foldO addO o l = none) := Lib.hid (hd.out.trans (by rw [hl]; rfl))
        clear hl
        go_wp2_with fail
        refine (M.out _).mono ?_
        rintro e w' ⟨rfl, rfl⟩
        go_wp2_with fail
        refine bodyPost_ret (v := .tuple #[Vl.val v0, .int .i64 11]) (by simp [results, Tryz.results76, go_sem]) rfl ⟨by rw [HN.out]; rfl, hB.out⟩
      | some y =>
        have M := Lib.hid (fun w => numV_yes (add_c n b w hn.out hm.out) hl)
        have HN : Hid (foldO addO o l = foldO addO y (l.drop (k + 1))) := Lib.hid (hd.out.trans (by rw [hl]; rfl))
        have HY := Lib.hid (addO_ok hn.out hl)
        clear hl
        go_wp2_with fail
        refine (M.out _).mono ?_
        rintro e w' ⟨rfl, rfl⟩
        go_wp2_with fail
        go_round
        case rel => exact ⟨k + 1, by omega, by go_num, y, rfl, HY, HN⟩
        case measure => simp [intOf]; omega
    · obtain rfl : k = l.length := by omega
      have HN : Hid (foldO addO o l = some n) := Lib.hid (hF.out.trans (by rw [List.drop_length]; rfl))
      go_wp2_with fail
      refine (ofInt_c n _).mono ?_
      rintro e w1 ⟨rfl, b1⟩
      obtain ⟨⟨_, _, _⟩, ⟨_, _, _⟩, _⟩ := new3 b1
      have E1 := Lib.hid (bel_new b1); clear b1
      go_wp2_with fail
      exact bodyPost_ret (v := .tuple #[Vl.val (vI n), .int .i64 0]) (by simp [results, Tryz.results76, go_sem, *]) rfl ⟨by rw [HN.out]; rfl, put3 E1.out⟩
set_option maxHeartbeats 1000000 in
theorem foldSub_c (o : Int) (A : Option Addr) (c : Nat) (l : List Int) (w : World) (ho : okI o) (hr : RowAt w (Value.int .i64) A l) (hk : ∀ n ∈ l, okI n) (hl : l.length ≤ 1000000) :
    Calls Tryz.prog 76 #[.int .i64 o, .slice A l.length c, .func (.func 82) #[] #[]] w fun e w' => e = .returned (outW (foldO subO o l)) ∧ Below w.heap.size w w' := by
  have hlI : (l.length : Int) ≤ 1000000 := by omega
  have HO := Lib.hid ho
  have K := Lib.hid hk
  have R := Lib.hid (fun W (h : Below w.heap.size w W) => hr.below h)
  clear hr hk ho
  go_enter Tryz.func76, Tryz.ntmps76
  go_wp2_with fail
  go_loop [0, 14] (fun x i => ∃ k : Nat, k ≤ l.length ∧ i = .int .i64 k ∧ ∃ n : Int, x = .int .i64 n ∧ Hid (okI n) ∧ Hid (foldO subO o l = foldO subO n (l.drop k))) (fun _ i => l.length - (intOf i).toNat)
  case atStart => exact ⟨0, by omega, rfl, o, rfl, HO, Lib.hid rfl⟩
  case round =>
    obtain ⟨k, hk, rfl, n, rfl, hn, hF⟩ := hrel
    have hB : Hid (Below w.heap.size w (w.alloc (.cells #[.int .i64 0, .int .i64 0, .string ⟨#[]⟩] 26))) := Lib.hid ((Below.refl _ _).alloc (Nat.le_refl _) _)
    by_cases hlt : k < l.length
    · have hltI : (k : Int) < (l.length : Int) := by omega
      obtain ⟨ad, rfl, _, hc⟩ := R.out _ hB.out k hlt
      have hd := Lib.hid (hF.out.trans (foldO_drop hlt))
      have hm := Lib.hid (K.out l[k] (List.getElem_mem hlt))
      generalize l[k] = b at *
      cases hl : subO n b with
      | none =>
        have M := Lib.hid (fun w => numV_no (sub_c n b w hn.out hm.out) hl)
        have HN : Hid (foldO subO o l = none) := Lib.hid (hd.out.trans (by rw [hl]; rfl))
        clear hl
        go_wp2_with fail
        refine (M.out _).mono ?_
        rintro e w' ⟨rfl, rfl⟩
        go_wp2_with fail
        refine bodyPost_ret (v := .tuple #[Vl.val v0, .int .i64 11]) (by simp [results, Tryz.results76, go_sem]) rfl ⟨by rw [HN.out]; rfl, hB.out⟩
      | some y =>
        have M := Lib.hid (fun w => numV_yes (sub_c n b w hn.out hm.out) hl)
        have HN : Hid (foldO subO o l = foldO subO y (l.drop (k + 1))) := Lib.hid (hd.out.trans (by rw [hl]; rfl))
        have HY := Lib.hid (subO_ok hn.out hl)
        clear hl
        go_wp2_with fail
        refine (M.out _).mono ?_
        rintro e w' ⟨rfl, rfl⟩
        go_wp2_with fail
        go_round
        case rel => exact ⟨k + 1, by omega, by go_num, y, rfl, HY, HN⟩
        case measure => simp [intOf]; omega
    · obtain rfl : k = l.length := by omega
      have HN : Hid (foldO subO o l = some n) := Lib.hid (hF.out.trans (by rw [List.drop_length]; rfl))
      go_wp2_with fail
      refine (ofInt_c n _).mono ?_
      rintro e w1 ⟨rfl, b1⟩
      obtain ⟨⟨_, _, _⟩, ⟨_, _, _⟩, _⟩ := new3 b1
      have E1 := Lib.hid (bel_new b1); clear b1
      go_wp2_with fail
      exact bodyPost_ret (v := .tuple #[Vl.val (vI n), .int .i64 0]) (by simp [results, Tryz.results76, go_sem, *]) rfl ⟨by rw [HN.out]; rfl, put3 E1.out⟩
set_option maxHeartbeats 1000000 in
theorem foldMul_c (o : Int) (A : Option Addr) (c : Nat) (l : List Int) (w : World) (ho : okI o) (hr : RowAt w (Value.int .i64) A l) (hk : ∀ n ∈ l, okI n) (hl : l.length ≤ 1000000) :
    Calls Tryz.prog 76 #[.int .i64 o, .slice A l.length c, .func (.func 77) #[] #[]] w fun e w' => e = .returned (outW (foldO mulO o l)) ∧ Below w.heap.size w w' := by
  have hlI : (l.length : Int) ≤ 1000000 := by omega
  have HO := Lib.hid ho
  have K := Lib.hid hk
  have R := Lib.hid (fun W (h : Below w.heap.size w W) => hr.below h)
  clear hr hk ho
  go_enter Tryz.func76, Tryz.ntmps76
  go_wp2_with fail
  go_loop [0, 14] (fun x i => ∃ k : Nat, k ≤ l.length ∧ i = .int .i64 k ∧ ∃ n : Int, x = .int .i64 n ∧ Hid (okI n) ∧ Hid (foldO mulO o l = foldO mulO n (l.drop k))) (fun _ i => l.length - (intOf i).toNat)
  case atStart => exact ⟨0, by omega, rfl, o, rfl, HO, Lib.hid rfl⟩
  case round =>
    obtain ⟨k, hk, rfl, n, rfl, hn, hF⟩ := hrel
    have hB : Hid (Below w.heap.size w (w.alloc (.cells #[.int .i64 0, .int .i64 0, .string ⟨#[]⟩] 26))) := Lib.hid ((Below.refl _ _).alloc (Nat.le_refl _) _)
    by_cases hlt : k < l.length
    · have hltI : (k : Int) < (l.length : Int) := by omega
      obtain ⟨ad, rfl, _, hc⟩ := R.out _ hB.out k hlt
      have hd := Lib.hid (hF.out.trans (foldO_drop hlt))
      have hm := Lib.hid (K.out l[k] (List.getElem_mem hlt))
      generalize l[k] = b at *
      cases hl : mulO n b with
      | none =>
        have M := Lib.hid (fun w => numV_no (mul_c n b w hn.out hm.out) hl)
        have HN : Hid (foldO mulO o l = none) := Lib.hid (hd.out.trans (by rw [hl]; rfl))
        clear hl
        go_wp2_with fail
        refine (M.out _).mono ?_
        rintro e w' ⟨rfl, rfl⟩
        go_wp2_with fail
        refine bodyPost_ret (v := .tuple #[Vl.val v0, .int .i64 11]) (by simp [results, Tryz.results76, go_sem]) rfl ⟨by rw [HN.out]; rfl, hB.out⟩
      | some y =>
        have M := Lib.hid (fun w => numV_yes (mul_c n b w hn.out hm.out) hl)
        have HN : Hid (foldO mulO o l = foldO mulO y (l.drop (k + 1))) := Lib.hid (hd.out.trans (by rw [hl]; rfl))
        have HY := Lib.hid (mulO_ok hn.out hl)
        clear hl
        go_wp2_with fail
        refine (M.out _).mono ?_
        rintro e w' ⟨rfl, rfl⟩
        go_wp2_with fail
        go_round
        case rel => exact ⟨k + 1, by omega, by go_num, y, rfl, HY, HN⟩
        case measure => simp [intOf]; omega
    · obtain rfl : k = l.length := by omega
      have HN : Hid (foldO mulO o l = some n) := Lib.hid (hF.out.trans (by rw [List.drop_length]; rfl))
      go_wp2_with fail
      refine (ofInt_c n _).mono ?_
      rintro e w1 ⟨rfl, b1⟩
      obtain ⟨⟨_, _, _⟩, ⟨_, _, _⟩, _⟩ := new3 b1
      have E1 := Lib.hid (bel_new b1); clear b1
      go_wp2_with fail
      exact bodyPost_ret (v := .tuple #[Vl.val (vI n), .int .i64 0]) (by simp [results, Tryz.results76, go_sem, *]) rfl ⟨by rw [HN.out]; rfl, put3 E1.out⟩
set_option maxHeartbeats 1000000 in
theorem foldDiv_c (o : Int) (A : Option Addr) (c : Nat) (l : List Int) (w : World) (ho : okI o) (hr : RowAt w (Value.int .i64) A l) (hk : ∀ n ∈ l, okI n) (hl : l.length ≤ 1000000) :
    Calls Tryz.prog 76 #[.int .i64 o, .slice A l.length c, .func (.func 78) #[] #[]] w fun e w' => e = .returned (outW (foldO divO o l)) ∧ Below w.heap.size w w' := by
  have hlI : (l.length : Int) ≤ 1000000 := by omega
  have HO := Lib.hid ho
  have K := Lib.hid hk
  have R := Lib.hid (fun W (h : Below w.heap.size w W) => hr.below h)
  clear hr hk ho
  go_enter Tryz.func76, Tryz.ntmps76
  go_wp2_with fail
  go_loop [0, 14] (fun x i => ∃ k : Nat, k ≤ l.length ∧ i = .int .i64 k ∧ ∃ n : Int, x = .int .i64 n ∧ Hid (okI n) ∧ Hid (foldO divO o l = foldO divO n (l.drop k))) (fun _ i => l.length - (intOf i).toNat)
  case atStart => exact ⟨0, by omega, rfl, o, rfl, HO, Lib.hid rfl⟩
  case round =>
    obtain ⟨k, hk, rfl, n, rfl, hn, hF⟩ := hrel
    have hB : Hid (Below w.heap.size w (w.alloc (.cells #[.int .i64 0, .int .i64 0, .string ⟨#[]⟩] 26))) := Lib.hid ((Below.refl _ _).alloc (Nat.le_refl _) _)
    by_cases hlt : k < l.length
    · have hltI : (k : Int) < (l.length : Int) := by omega
      obtain ⟨ad, rfl, _, hc⟩ := R.out _ hB.out k hlt
      have hd := Lib.hid (hF.out.trans (foldO_drop hlt))
      have hm := Lib.hid (K.out l[k] (List.getElem_mem hlt))
      generalize l[k] = b at *
      cases hl : divO n b with
      | none =>
        have M := Lib.hid (fun w => numV_no (div_c n b w hn.out hm.out) hl)
        have HN : Hid (foldO divO o l = none) := Lib.hid (hd.out.trans (by rw [hl]; rfl))
        clear hl
        go_wp2_with fail
        refine (M.out _).mono ?_
        rintro e w' ⟨rfl, rfl⟩
        go_wp2_with fail
        refine bodyPost_ret (v := .tuple #[Vl.val v0, .int .i64 11]) (by simp [results, Tryz.results76, go_sem]) rfl ⟨by rw [HN.out]; rfl, hB.out⟩
      | some y =>
        have M := Lib.hid (fun w => numV_yes (div_c n b w hn.out hm.out) hl)
        have HN : Hid (foldO divO o l = foldO divO y (l.drop (k + 1))) := Lib.hid (hd.out.trans (by rw [hl]; rfl))
        have HY := Lib.hid (divO_ok hn.out hl)
        clear hl
        go_wp2_with fail
        refine (M.out _).mono ?_
        rintro e w' ⟨rfl, rfl⟩
        go_wp2_with fail
        go_round
        case rel => exact ⟨k + 1, by omega, by go_num, y, rfl, HY, HN⟩
        case measure => simp [intOf]; omega
    · obtain rfl : k = l.length := by omega
      have HN : Hid (foldO divO o l = some n) := Lib.hid (hF.out.trans (by rw [List.drop_length]; rfl))
      go_wp2_with fail
      refine (ofInt_c n _).mono ?_
      rintro e w1 ⟨rfl, b1⟩
      obtain ⟨⟨_, _, _⟩, ⟨_, _, _⟩, _⟩ := new3 b1
      have E1 := Lib.hid (bel_new b1); clear b1
      go_wp2_with fail
      exact bodyPost_ret (v := .tuple #[Vl.val (vI n), .int .i64 0]) (by simp [results, Tryz.results76, go_sem, *]) rfl ⟨by rw [HN.out]; rfl, put3 E1.out⟩
set_option maxHeartbeats 1000000 in
theorem foldMod_c (o : Int) (A : Option Addr) (c : Nat) (l : List Int) (w : World) (ho : okI o) (hr : RowAt w (Value.int .i64) A l) (hk : ∀ n ∈ l, okI n) (hl : l.length ≤ 1000000) :
    Calls Tryz.prog 76 #[.int .i64 o, .slice A l.length c, .func (.func 79) #[] #[]] w fun e w' => e = .returned (outW (foldO modO o l)) ∧ Below w.heap.size w w' := by
  have hlI : (l.length : Int) ≤ 1000000 := by omega
  have HO := Lib.hid ho
  have K := Lib.hid hk
  have R := Lib.hid (fun W (h : Below w.heap.size w W) => hr.below h)
  clear hr hk ho
  go_enter Tryz.func76, Tryz.ntmps76
  go_wp2_with fail
  go_loop [0, 14] (fun x i => ∃ k : Nat, k ≤ l.length ∧ i = .int .i64 k ∧ ∃ n : Int, x = .int .i64 n ∧ Hid (okI n) ∧ Hid (foldO modO o l = foldO modO n (l.drop k))) (fun _ i => l.length - (intOf i).toNat)
  case atStart => exact ⟨0, by omega, rfl, o, rfl, HO, Lib.hid rfl⟩
  case round =>
    obtain ⟨k, hk, rfl, n, rfl, hn, hF⟩ := hrel
    have hB : Hid (Below w.heap.size w (w.alloc (.cells #[.int .i64 0, .int .i64 0, .string ⟨#[]⟩] 26))) := Lib.hid ((Below.refl _ _).alloc (Nat.le_refl _) _)
    by_cases hlt : k < l.length
    · have hltI : (k : Int) < (l.length : Int) := by omega
      obtain ⟨ad, rfl, _, hc⟩ := R.out _ hB.out k hlt
      have hd := Lib.hid (hF.out.trans (foldO_drop hlt))
      have hm := Lib.hid (K.out l[k] (List.getElem_mem hlt))
      generalize l[k] = b at *
      cases hl : modO n b with
      | none =>
        have M := Lib.hid (fun w => numV_no (mod_c n b w hn.out hm.out) hl)
        have HN : Hid (foldO modO o l = none) := Lib.hid (hd.out.trans (by rw [hl]; rfl))
        clear hl
        go_wp2_with fail
        refine (M.out _).mono ?_
        rintro e w' ⟨rfl, rfl⟩
        go_wp2_with fail
        refine bodyPost_ret (v := .tuple #[Vl.val v0, .int .i64 11]) (by simp [results, Tryz.results76, go_sem]) rfl ⟨by rw [HN.out]; rfl, hB.out⟩
      | some y =>
        have M := Lib.hid (fun w => numV_yes (mod_c n b w hn.out hm.out) hl)
        have HN : Hid (foldO modO o l = foldO modO y (l.drop (k + 1))) := Lib.hid (hd.out.trans (by rw [hl]; rfl))
        have HY := Lib.hid (modO_ok hn.out hl)
        clear hl
        go_wp2_with fail
        refine (M.out _).mono ?_
        rintro e w' ⟨rfl, rfl⟩
        go_wp2_with fail
        go_round
        case rel => exact ⟨k + 1, by omega, by go_num, y, rfl, HY, HN⟩
        case measure => simp [intOf]; omega
    · obtain rfl : k = l.length := by omega
      have HN : Hid (foldO modO o l = some n) := Lib.hid (hF.out.trans (by rw [List.drop_length]; rfl))
      go_wp2_with fail
      refine (ofInt_c n _).mono ?_
      rintro e w1 ⟨rfl, b1⟩
      obtain ⟨⟨_, _, _⟩, ⟨_, _, _⟩, _⟩ := new3 b1
      have E1 := Lib.hid (bel_new b1); clear b1
      go_wp2_with fail
      exact bodyPost_ret (v := .tuple #[Vl.val (vI n), .int .i64 0]) (by simp [results, Tryz.results76, go_sem, *]) rfl ⟨by rw [HN.out]; rfl, put3 E1.out⟩
end Go.Proofs.YtmadnehipagakaaGreatDoor
