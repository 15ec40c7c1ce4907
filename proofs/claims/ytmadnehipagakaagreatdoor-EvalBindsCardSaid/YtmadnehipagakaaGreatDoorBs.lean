/- built.Apply: names of numbers. -/
import Derived.Test.YtmadnehipagakaaGreatDoorBq
import Derived.Deep.QuietTactic
import Derived.BigQuiet
namespace Go.Proofs.YtmadnehipagakaaGreatDoor
open Go.RowKit Go.Lib Go.Sort KP
theorem int_no {l : List Vl} (h : allInt l = false) : ∃ k, ∃ h : k < l.length, l[k].1 ≠ 1 := by
  unfold allInt at h
  rw [List.all_eq_false] at h
  obtain ⟨v, hv, hn⟩ := h
  obtain ⟨k, hk, rfl⟩ := List.getElem_of_mem hv
  exact ⟨k, hk, by simpa using hn⟩
theorem int_yes {l : List Vl} (h : allInt l = true) : ∀ k (h : k < l.length), l[k].1 = 1  := fun _ hk => of_decide_eq_true (List.all_eq_true.1 h _ (List.getElem_mem hk))
theorem nums_ok {l : List Vl} (h : ∀ v ∈ l, okV v) : ∀ n ∈ nums l, okI n := by
  intro n hn
  obtain ⟨v, hv, rfl⟩ := List.mem_map.1 hn
  exact (h v hv).n
theorem nums_len (l : List Vl) : (nums l).length = l.length := by unfold nums; simp
theorem reckon_0 (A : Option Addr) (c : Nat) (ns : List Int) (w : World) (hr : RowAt w (Value.int .i64) A ns) (hk : ∀ n ∈ ns, okI n) (hl : ns.length ≤ 1000000) (_hc : ns.length ≤ c) :
    Calls Tryz.prog 52 #[.string ⟨#[42]⟩, .slice A ns.length c] w fun e w' => e = .returned (pairV (numN 0 ns)) ∧ Below w.heap.size w w' := by
  exact reck_mul A c ns w hr hk hl
theorem reckon_1 (A : Option Addr) (c : Nat) (ns : List Int) (w : World) (hr : RowAt w (Value.int .i64) A ns) (hk : ∀ n ∈ ns, okI n) (hl : ns.length ≤ 1000000) (_hc : ns.length ≤ c) :
    Calls Tryz.prog 52 #[.string ⟨#[43]⟩, .slice A ns.length c] w fun e w' => e = .returned (pairV (numN 1 ns)) ∧ Below w.heap.size w w' := by
  exact reck_add A c ns w hr hk hl
theorem reckon_2 (A : Option Addr) (c : Nat) (ns : List Int) (w : World) (hr : RowAt w (Value.int .i64) A ns) (hk : ∀ n ∈ ns, okI n) (hl : ns.length ≤ 1000000) (hc : ns.length ≤ c) (h1 : 1 ≤ ns.length) :
    Calls Tryz.prog 52 #[.string ⟨#[45]⟩, .slice A ns.length c] w fun e w' => e = .returned (pairV (numN 2 ns)) ∧ Below w.heap.size w w' := by
  cases ns with
  | nil => simp at h1
  | cons x t =>
    cases t with
    | nil => exact reck_sub1 A c [x] w hr hk hl (by simp)
    | cons y t => exact reck_sub2 A c x (y :: t) w hr hk (by simp at hl ⊢; omega) hc (by simp)
theorem reckon_9 (A : Option Addr) (c : Nat) (ns : List Int) (w : World) (hr : RowAt w (Value.int .i64) A ns) (hk : ∀ n ∈ ns, okI n) (hl : ns.length ≤ 1000000) (hc : ns.length ≤ c) (h1 : ns.length = 1) :
    Calls Tryz.prog 52 #[.string ⟨#[97, 98, 115]⟩, .slice A ns.length c] w fun e w' => e = .returned (pairV (numN 9 ns)) ∧ Below w.heap.size w w' := by
  cases ns with
  | nil => simp at h1
  | cons x t =>
    obtain rfl : t = [] := by
      cases t with
      | nil => rfl
      | cons _ _ => simp at h1
    by_cases h0 : 0 ≤ x
    · have e : numN 9 [x] = (vI x, 0) := if_pos h0
      rw [e]
      exact reck_abs1 A c x w hr h0
    · have e : numN 9 [x] = outP (foldO subO 0 [x]) := if_neg h0
      rw [e]
      exact reck_abs2 A c x w hr (hk x (by simp)) (by omega)
theorem reckon_10 (A : Option Addr) (c : Nat) (ns : List Int) (w : World) (hr : RowAt w (Value.int .i64) A ns) (hk : ∀ n ∈ ns, okI n) (hl : ns.length ≤ 1000000) (hc : ns.length ≤ c) (h1 : 1 ≤ ns.length) :
    Calls Tryz.prog 52 #[.string ⟨#[100, 105, 118]⟩, .slice A ns.length c] w fun e w' => e = .returned (pairV (numN 10 ns)) ∧ Below w.heap.size w w' := by
  cases ns with
  | nil => simp at h1
  | cons x t =>
    exact reck_div A c x t w hr hk (by simp at hl; omega) hc
theorem reckon_13 (A : Option Addr) (c : Nat) (ns : List Int) (w : World) (hr : RowAt w (Value.int .i64) A ns) (hk : ∀ n ∈ ns, okI n) (hl : ns.length ≤ 1000000) (hc : ns.length ≤ c) (h1 : 1 ≤ ns.length) :
    Calls Tryz.prog 52 #[.string ⟨#[109, 97, 120]⟩, .slice A ns.length c] w fun e w' => e = .returned (pairV (numN 13 ns)) ∧ Below w.heap.size w w' := by
  cases ns with
  | nil => simp at h1
  | cons x t =>
    exact reck_max A c x t w hr (by simp at hl; omega)
theorem reckon_14 (A : Option Addr) (c : Nat) (ns : List Int) (w : World) (hr : RowAt w (Value.int .i64) A ns) (hk : ∀ n ∈ ns, okI n) (hl : ns.length ≤ 1000000) (hc : ns.length ≤ c) (h1 : 1 ≤ ns.length) :
    Calls Tryz.prog 52 #[.string ⟨#[109, 105, 110]⟩, .slice A ns.length c] w fun e w' => e = .returned (pairV (numN 14 ns)) ∧ Below w.heap.size w w' := by
  cases ns with
  | nil => simp at h1
  | cons x t =>
    exact reck_min A c x t w hr (by simp at hl; omega)
theorem reckon_15 (A : Option Addr) (c : Nat) (ns : List Int) (w : World) (hr : RowAt w (Value.int .i64) A ns) (hk : ∀ n ∈ ns, okI n) (hl : ns.length ≤ 1000000) (hc : ns.length ≤ c) (h1 : 1 ≤ ns.length) :
    Calls Tryz.prog 52 #[.string ⟨#[109, 111, 100]⟩, .slice A ns.length c] w fun e w' => e = .returned (pairV (numN 15 ns)) ∧ Below w.heap.size w w' := by
  cases ns with
  | nil => simp at h1
  | cons x t =>
    exact reck_mod A c x t w hr hk (by simp at hl; omega) hc
set_option maxHeartbeats 1000000 in
theorem apply_0n (A : Option Addr) (c : Nat) (l : List Vl) (w : World) (hv : ValsAt w A l) (hl : l.length ≤ 1000000) (ha : allInt l = false) :
    Calls Tryz.prog 13 #[.string ⟨#[42]⟩, .slice A l.length c] w fun e w' => e = .returned (pairV (v0, 8)) ∧ Below w.heap.size w w' := by
  have J := Lib.hid (fun W (h : Below w.heap.size w W) => numbers_no A c l W (hv.below h) hl (int_no ha))
  obtain ⟨n, hn⟩ : ∃ n, n = l.length := ⟨_, rfl⟩
  rw [← hn] at J hl ⊢
  have hnI : (n : Int) ≤ 1000000 := by omega
  have h1I : (0 : Int) ≤ (n : Int) := by omega
  clear hv hn ha hl
  have h0 : Hid (Below w.heap.size w (w.alloc (.cells #[.int .i64 0, .int .i64 0, .string ⟨#[]⟩] 26))) := Lib.hid ((Below.refl _ _).alloc (Nat.le_refl _) _)
  have KN := Lib.hid (known_w ⟨#[42]⟩ true (by decide +kernel))
  go_enter Tryz.func13, Tryz.ntmps13
  go_wp2_with fail
  refine (arity_0 _).mono ?_
  rintro e w' ⟨rfl, rfl⟩
  go_wp2_with fail
  refine (KN.out _).mono ?_
  rintro e w1 ⟨rfl, b1⟩
  have E1 := Lib.hid (h0.out.trans (b1.mono h0.out.size))
  have BLK := Lib.hid ((b1.block w.heap.size (by simp)).trans (heap_alloc_new w (.cells #[.int .i64 0, .int .i64 0, .string ⟨#[]⟩] 26)))
  clear b1
  go_wp2_with fail
  refine (J.out _ E1.out).mono ?_
  rintro e w2 ⟨rfl, b2⟩
  have E2 := Lib.hid (E1.out.trans (b2.mono E1.out.size))
  obtain ⟨⟨_, _, _⟩, ⟨_, _, _⟩⟩ := new3g BLK.out b2
  clear b2
  go_wp2_with fail
  exact bodyPost_ret (v := pairV (v0, 8)) (by simp [results, Tryz.results13, go_sem, *]) rfl ⟨rfl, put3 E2.out⟩
set_option maxHeartbeats 1000000 in
theorem apply_0y (A : Option Addr) (c : Nat) (l : List Vl) (w : World) (hv : ValsAt w A l) (hk : ∀ v ∈ l, okV v) (hl : l.length ≤ 1000000) (ha : allInt l = true) :
    Calls Tryz.prog 13 #[.string ⟨#[42]⟩, .slice A l.length c] w fun e w' => e = .returned (pairV (numN 0 (nums l))) ∧ Below w.heap.size w w' := by
  have J := Lib.hid (fun W (h : Below w.heap.size w W) => numbers_yes A c l W (hv.below h) hl (int_yes ha))
  have C := Lib.hid (fun W A' c' (hr : RowAt W (Value.int .i64) A' (nums l)) (hc : l.length ≤ c') => reckon_0 A' c' (nums l) W hr (nums_ok hk) (by rw [nums_len]; omega) (by rw [nums_len]; exact hc))
  rw [nums_len] at C
  generalize numN 0 (nums l) = o at *
  obtain ⟨⟨p, q, s⟩, oe⟩ := o
  dsimp only [pairV] at C ⊢
  obtain ⟨n, hn⟩ : ∃ n, n = l.length := ⟨_, rfl⟩
  rw [← hn] at J C hl ⊢
  have hnI : (n : Int) ≤ 1000000 := by omega
  have h1I : (0 : Int) ≤ (n : Int) := by omega
  clear hv hk hn ha hl
  have h0 : Hid (Below w.heap.size w (w.alloc (.cells #[.int .i64 0, .int .i64 0, .string ⟨#[]⟩] 26))) := Lib.hid ((Below.refl _ _).alloc (Nat.le_refl _) _)
  have KN := Lib.hid (known_w ⟨#[42]⟩ true (by decide +kernel))
  go_enter Tryz.func13, Tryz.ntmps13
  go_wp2_with fail
  refine (arity_0 _).mono ?_
  rintro e w' ⟨rfl, rfl⟩
  go_wp2_with fail
  refine (KN.out _).mono ?_
  rintro e w1 ⟨rfl, b1⟩
  have E1 := Lib.hid (h0.out.trans (b1.mono h0.out.size))
  have BLK := Lib.hid ((b1.block w.heap.size (by simp)).trans (heap_alloc_new w (.cells #[.int .i64 0, .int .i64 0, .string ⟨#[]⟩] 26)))
  clear b1
  go_wp2_with fail
  refine (J.out _ E1.out).mono ?_
  rintro e w2 ⟨A', c', rfl, hr, hc, b2⟩
  have E2 := Lib.hid (E1.out.trans (b2.mono E1.out.size))
  have BLK2 := Lib.hid ((b2.block w.heap.size (Array.getElem?_eq_some_iff.1 BLK.out).1).trans BLK.out)
  have CC := Lib.hid (C.out _ _ _ hr hc)
  clear b2 hr hc
  go_wp2_with fail
  refine CC.out.mono ?_
  rintro e w3 ⟨rfl, b3⟩
  have E3 := Lib.hid (E2.out.trans (b3.mono E2.out.size))
  obtain ⟨⟨_, _, _⟩, ⟨_, _, _⟩⟩ := new3g BLK2.out b3
  clear b3
  go_wp2_with fail
  exact bodyPost_ret (v := .tuple #[Vl.val (p, q, s), .int .i64 oe]) (by simp [results, Tryz.results13, go_sem, *]) rfl ⟨rfl, put3 E3.out⟩
set_option maxHeartbeats 1000000 in
theorem apply_1n (A : Option Addr) (c : Nat) (l : List Vl) (w : World) (hv : ValsAt w A l) (hl : l.length ≤ 1000000) (ha : allInt l = false) :
    Calls Tryz.prog 13 #[.string ⟨#[43]⟩, .slice A l.length c] w fun e w' => e = .returned (pairV (v0, 8)) ∧ Below w.heap.size w w' := by
  have J := Lib.hid (fun W (h : Below w.heap.size w W) => numbers_no A c l W (hv.below h) hl (int_no ha))
  obtain ⟨n, hn⟩ : ∃ n, n = l.length := ⟨_, rfl⟩
  rw [← hn] at J hl ⊢
  have hnI : (n : Int) ≤ 1000000 := by omega
  have h1I : (0 : Int) ≤ (n : Int) := by omega
  clear hv hn ha hl
  have h0 : Hid (Below w.heap.size w (w.alloc (.cells #[.int .i64 0, .int .i64 0, .string ⟨#[]⟩] 26))) := Lib.hid ((Below.refl _ _).alloc (Nat.le_refl _) _)
  have KN := Lib.hid (known_w ⟨#[43]⟩ true (by decide +kernel))
  go_enter Tryz.func13, Tryz.ntmps13
  go_wp2_with fail
  refine (arity_1 _).mono ?_
  rintro e w' ⟨rfl, rfl⟩
  go_wp2_with fail
  refine (KN.out _).mono ?_
  rintro e w1 ⟨rfl, b1⟩
  have E1 := Lib.hid (h0.out.trans (b1.mono h0.out.size))
  have BLK := Lib.hid ((b1.block w.heap.size (by simp)).trans (heap_alloc_new w (.cells #[.int .i64 0, .int .i64 0, .string ⟨#[]⟩] 26)))
  clear b1
  go_wp2_with fail
  refine (J.out _ E1.out).mono ?_
  rintro e w2 ⟨rfl, b2⟩
  have E2 := Lib.hid (E1.out.trans (b2.mono E1.out.size))
  obtain ⟨⟨_, _, _⟩, ⟨_, _, _⟩⟩ := new3g BLK.out b2
  clear b2
  go_wp2_with fail
  exact bodyPost_ret (v := pairV (v0, 8)) (by simp [results, Tryz.results13, go_sem, *]) rfl ⟨rfl, put3 E2.out⟩
set_option maxHeartbeats 1000000 in
theorem apply_1y (A : Option Addr) (c : Nat) (l : List Vl) (w : World) (hv : ValsAt w A l) (hk : ∀ v ∈ l, okV v) (hl : l.length ≤ 1000000) (ha : allInt l = true) :
    Calls Tryz.prog 13 #[.string ⟨#[43]⟩, .slice A l.length c] w fun e w' => e = .returned (pairV (numN 1 (nums l))) ∧ Below w.heap.size w w' := by
  have J := Lib.hid (fun W (h : Below w.heap.size w W) => numbers_yes A c l W (hv.below h) hl (int_yes ha))
  have C := Lib.hid (fun W A' c' (hr : RowAt W (Value.int .i64) A' (nums l)) (hc : l.length ≤ c') => reckon_1 A' c' (nums l) W hr (nums_ok hk) (by rw [nums_len]; omega) (by rw [nums_len]; exact hc))
  rw [nums_len] at C
  generalize numN 1 (nums l) = o at *
  obtain ⟨⟨p, q, s⟩, oe⟩ := o
  dsimp only [pairV] at C ⊢
  obtain ⟨n, hn⟩ : ∃ n, n = l.length := ⟨_, rfl⟩
  rw [← hn] at J C hl ⊢
  have hnI : (n : Int) ≤ 1000000 := by omega
  have h1I : (0 : Int) ≤ (n : Int) := by omega
  clear hv hk hn ha hl
  have h0 : Hid (Below w.heap.size w (w.alloc (.cells #[.int .i64 0, .int .i64 0, .string ⟨#[]⟩] 26))) := Lib.hid ((Below.refl _ _).alloc (Nat.le_refl _) _)
  have KN := Lib.hid (known_w ⟨#[43]⟩ true (by decide +kernel))
  go_enter Tryz.func13, Tryz.ntmps13
  go_wp2_with fail
  refine (arity_1 _).mono ?_
  rintro e w' ⟨rfl, rfl⟩
  go_wp2_with fail
  refine (KN.out _).mono ?_
  rintro e w1 ⟨rfl, b1⟩
  have E1 := Lib.hid (h0.out.trans (b1.mono h0.out.size))
  have BLK := Lib.hid ((b1.block w.heap.size (by simp)).trans (heap_alloc_new w (.cells #[.int .i64 0, .int .i64 0, .string ⟨#[]⟩] 26)))
  clear b1
  go_wp2_with fail
  refine (J.out _ E1.out).mono ?_
  rintro e w2 ⟨A', c', rfl, hr, hc, b2⟩
  have E2 := Lib.hid (E1.out.trans (b2.mono E1.out.size))
  have BLK2 := Lib.hid ((b2.block w.heap.size (Array.getElem?_eq_some_iff.1 BLK.out).1).trans BLK.out)
  have CC := Lib.hid (C.out _ _ _ hr hc)
  clear b2 hr hc
  go_wp2_with fail
  refine CC.out.mono ?_
  rintro e w3 ⟨rfl, b3⟩
  have E3 := Lib.hid (E2.out.trans (b3.mono E2.out.size))
  obtain ⟨⟨_, _, _⟩, ⟨_, _, _⟩⟩ := new3g BLK2.out b3
  clear b3
  go_wp2_with fail
  exact bodyPost_ret (v := .tuple #[Vl.val (p, q, s), .int .i64 oe]) (by simp [results, Tryz.results13, go_sem, *]) rfl ⟨rfl, put3 E3.out⟩
set_option maxHeartbeats 1000000 in
theorem apply_2n (A : Option Addr) (c : Nat) (l : List Vl) (w : World) (hv : ValsAt w A l) (h1 : 1 ≤ l.length) (hl : l.length ≤ 1000000) (ha : allInt l = false) :
    Calls Tryz.prog 13 #[.string ⟨#[45]⟩, .slice A l.length c] w fun e w' => e = .returned (pairV (v0, 8)) ∧ Below w.heap.size w w' := by
  have J := Lib.hid (fun W (h : Below w.heap.size w W) => numbers_no A c l W (hv.below h) hl (int_no ha))
  obtain ⟨n, hn⟩ : ∃ n, n = l.length := ⟨_, rfl⟩
  rw [← hn] at J h1 hl ⊢
  have hnI : (n : Int) ≤ 1000000 := by omega
  have h1I : (1 : Int) ≤ (n : Int) := by omega
  clear hv hn ha h1 hl
  have h0 : Hid (Below w.heap.size w (w.alloc (.cells #[.int .i64 0, .int .i64 0, .string ⟨#[]⟩] 26))) := Lib.hid ((Below.refl _ _).alloc (Nat.le_refl _) _)
  have KN := Lib.hid (known_w ⟨#[45]⟩ true (by decide +kernel))
  go_enter Tryz.func13, Tryz.ntmps13
  go_wp2_with fail
  refine (arity_2 _).mono ?_
  rintro e w' ⟨rfl, rfl⟩
  go_wp2_with fail
  refine (KN.out _).mono ?_
  rintro e w1 ⟨rfl, b1⟩
  have E1 := Lib.hid (h0.out.trans (b1.mono h0.out.size))
  have BLK := Lib.hid ((b1.block w.heap.size (by simp)).trans (heap_alloc_new w (.cells #[.int .i64 0, .int .i64 0, .string ⟨#[]⟩] 26)))
  clear b1
  go_wp2_with fail
  refine (J.out _ E1.out).mono ?_
  rintro e w2 ⟨rfl, b2⟩
  have E2 := Lib.hid (E1.out.trans (b2.mono E1.out.size))
  obtain ⟨⟨_, _, _⟩, ⟨_, _, _⟩⟩ := new3g BLK.out b2
  clear b2
  go_wp2_with fail
  exact bodyPost_ret (v := pairV (v0, 8)) (by simp [results, Tryz.results13, go_sem, *]) rfl ⟨rfl, put3 E2.out⟩
set_option maxHeartbeats 1000000 in
theorem apply_2y (A : Option Addr) (c : Nat) (l : List Vl) (w : World) (hv : ValsAt w A l) (hk : ∀ v ∈ l, okV v) (h1 : 1 ≤ l.length) (hl : l.length ≤ 1000000) (ha : allInt l = true) :
    Calls Tryz.prog 13 #[.string ⟨#[45]⟩, .slice A l.length c] w fun e w' => e = .returned (pairV (numN 2 (nums l))) ∧ Below w.heap.size w w' := by
  have J := Lib.hid (fun W (h : Below w.heap.size w W) => numbers_yes A c l W (hv.below h) hl (int_yes ha))
  have C := Lib.hid (fun W A' c' (hr : RowAt W (Value.int .i64) A' (nums l)) (hc : l.length ≤ c') => reckon_2 A' c' (nums l) W hr (nums_ok hk) (by rw [nums_len]; omega) (by rw [nums_len]; exact hc) (by rw [nums_len]; omega))
  rw [nums_len] at C
  generalize numN 2 (nums l) = o at *
  obtain ⟨⟨p, q, s⟩, oe⟩ := o
  dsimp only [pairV] at C ⊢
  obtain ⟨n, hn⟩ : ∃ n, n = l.length := ⟨_, rfl⟩
  rw [← hn] at J C h1 hl ⊢
  have hnI : (n : Int) ≤ 1000000 := by omega
  have h1I : (1 : Int) ≤ (n : Int) := by omega
  clear hv hk hn ha h1 hl
  have h0 : Hid (Below w.heap.size w (w.alloc (.cells #[.int .i64 0, .int .i64 0, .string ⟨#[]⟩] 26))) := Lib.hid ((Below.refl _ _).alloc (Nat.le_refl _) _)
  have KN := Lib.hid (known_w ⟨#[45]⟩ true (by decide +kernel))
  go_enter Tryz.func13, Tryz.ntmps13
  go_wp2_with fail
  refine (arity_2 _).mono ?_
  rintro e w' ⟨rfl, rfl⟩
  go_wp2_with fail
  refine (KN.out _).mono ?_
  rintro e w1 ⟨rfl, b1⟩
  have E1 := Lib.hid (h0.out.trans (b1.mono h0.out.size))
  have BLK := Lib.hid ((b1.block w.heap.size (by simp)).trans (heap_alloc_new w (.cells #[.int .i64 0, .int .i64 0, .string ⟨#[]⟩] 26)))
  clear b1
  go_wp2_with fail
  refine (J.out _ E1.out).mono ?_
  rintro e w2 ⟨A', c', rfl, hr, hc, b2⟩
  have E2 := Lib.hid (E1.out.trans (b2.mono E1.out.size))
  have BLK2 := Lib.hid ((b2.block w.heap.size (Array.getElem?_eq_some_iff.1 BLK.out).1).trans BLK.out)
  have CC := Lib.hid (C.out _ _ _ hr hc)
  clear b2 hr hc
  go_wp2_with fail
  refine CC.out.mono ?_
  rintro e w3 ⟨rfl, b3⟩
  have E3 := Lib.hid (E2.out.trans (b3.mono E2.out.size))
  obtain ⟨⟨_, _, _⟩, ⟨_, _, _⟩⟩ := new3g BLK2.out b3
  clear b3
  go_wp2_with fail
  exact bodyPost_ret (v := .tuple #[Vl.val (p, q, s), .int .i64 oe]) (by simp [results, Tryz.results13, go_sem, *]) rfl ⟨rfl, put3 E3.out⟩
set_option maxHeartbeats 1000000 in
theorem apply_9n (A : Option Addr) (c : Nat) (l : List Vl) (w : World) (hv : ValsAt w A l) (hn : l.length = 1) (ha : allInt l = false) :
    Calls Tryz.prog 13 #[.string ⟨#[97, 98, 115]⟩, .slice A 1 c] w fun e w' => e = .returned (pairV (v0, 8)) ∧ Below w.heap.size w w' := by
  have J := Lib.hid (fun W (h : Below w.heap.size w W) => numbers_no A c l W (hv.below h) (by omega) (int_no ha))
  rw [hn] at J
  clear hv hn ha
  have h0 : Hid (Below w.heap.size w (w.alloc (.cells #[.int .i64 0, .int .i64 0, .string ⟨#[]⟩] 26))) := Lib.hid ((Below.refl _ _).alloc (Nat.le_refl _) _)
  have KN := Lib.hid (known_w ⟨#[97, 98, 115]⟩ true (by decide +kernel))
  go_enter Tryz.func13, Tryz.ntmps13
  go_wp2_with fail
  refine (arity_9 _).mono ?_
  rintro e w' ⟨rfl, rfl⟩
  go_wp2_with fail
  refine (KN.out _).mono ?_
  rintro e w1 ⟨rfl, b1⟩
  have E1 := Lib.hid (h0.out.trans (b1.mono h0.out.size))
  have BLK := Lib.hid ((b1.block w.heap.size (by simp)).trans (heap_alloc_new w (.cells #[.int .i64 0, .int .i64 0, .string ⟨#[]⟩] 26)))
  clear b1
  go_wp2_with fail
  refine (J.out _ E1.out).mono ?_
  rintro e w2 ⟨rfl, b2⟩
  have E2 := Lib.hid (E1.out.trans (b2.mono E1.out.size))
  obtain ⟨⟨_, _, _⟩, ⟨_, _, _⟩⟩ := new3g BLK.out b2
  clear b2
  go_wp2_with fail
  exact bodyPost_ret (v := pairV (v0, 8)) (by simp [results, Tryz.results13, go_sem, *]) rfl ⟨rfl, put3 E2.out⟩
set_option maxHeartbeats 1000000 in
theorem apply_9y (A : Option Addr) (c : Nat) (l : List Vl) (w : World) (hv : ValsAt w A l) (hk : ∀ v ∈ l, okV v) (hn : l.length = 1) (ha : allInt l = true) :
    Calls Tryz.prog 13 #[.string ⟨#[97, 98, 115]⟩, .slice A 1 c] w fun e w' => e = .returned (pairV (numN 9 (nums l))) ∧ Below w.heap.size w w' := by
  have J := Lib.hid (fun W (h : Below w.heap.size w W) => numbers_yes A c l W (hv.below h) (by omega) (int_yes ha))
  have C := Lib.hid (fun W A' c' (hr : RowAt W (Value.int .i64) A' (nums l)) (hc : l.length ≤ c') => reckon_9 A' c' (nums l) W hr (nums_ok hk) (by rw [nums_len]; omega) (by rw [nums_len]; exact hc) (by rw [nums_len]; exact hn))
  rw [nums_len] at C
  generalize numN 9 (nums l) = o at *
  obtain ⟨⟨p, q, s⟩, oe⟩ := o
  dsimp only [pairV] at C ⊢
  rw [hn] at J C
  clear hv hk hn ha
  have h0 : Hid (Below w.heap.size w (w.alloc (.cells #[.int .i64 0, .int .i64 0, .string ⟨#[]⟩] 26))) := Lib.hid ((Below.refl _ _).alloc (Nat.le_refl _) _)
  have KN := Lib.hid (known_w ⟨#[97, 98, 115]⟩ true (by decide +kernel))
  go_enter Tryz.func13, Tryz.ntmps13
  go_wp2_with fail
  refine (arity_9 _).mono ?_
  rintro e w' ⟨rfl, rfl⟩
  go_wp2_with fail
  refine (KN.out _).mono ?_
  rintro e w1 ⟨rfl, b1⟩
  have E1 := Lib.hid (h0.out.trans (b1.mono h0.out.size))
  have BLK := Lib.hid ((b1.block w.heap.size (by simp)).trans (heap_alloc_new w (.cells #[.int .i64 0, .int .i64 0, .string ⟨#[]⟩] 26)))
  clear b1
  go_wp2_with fail
  refine (J.out _ E1.out).mono ?_
  rintro e w2 ⟨A', c', rfl, hr, hc, b2⟩
  have E2 := Lib.hid (E1.out.trans (b2.mono E1.out.size))
  have BLK2 := Lib.hid ((b2.block w.heap.size (Array.getElem?_eq_some_iff.1 BLK.out).1).trans BLK.out)
  have CC := Lib.hid (C.out _ _ _ hr hc)
  clear b2 hr hc
  go_wp2_with fail
  refine CC.out.mono ?_
  rintro e w3 ⟨rfl, b3⟩
  have E3 := Lib.hid (E2.out.trans (b3.mono E2.out.size))
  obtain ⟨⟨_, _, _⟩, ⟨_, _, _⟩⟩ := new3g BLK2.out b3
  clear b3
  go_wp2_with fail
  exact bodyPost_ret (v := .tuple #[Vl.val (p, q, s), .int .i64 oe]) (by simp [results, Tryz.results13, go_sem, *]) rfl ⟨rfl, put3 E3.out⟩
set_option maxHeartbeats 1000000 in
theorem apply_10n (A : Option Addr) (c : Nat) (l : List Vl) (w : World) (hv : ValsAt w A l) (hn : l.length = 2) (ha : allInt l = false) :
    Calls Tryz.prog 13 #[.string ⟨#[100, 105, 118]⟩, .slice A 2 c] w fun e w' => e = .returned (pairV (v0, 8)) ∧ Below w.heap.size w w' := by
  have J := Lib.hid (fun W (h : Below w.heap.size w W) => numbers_no A c l W (hv.below h) (by omega) (int_no ha))
  rw [hn] at J
  clear hv hn ha
  have h0 : Hid (Below w.heap.size w (w.alloc (.cells #[.int .i64 0, .int .i64 0, .string ⟨#[]⟩] 26))) := Lib.hid ((Below.refl _ _).alloc (Nat.le_refl _) _)
  have KN := Lib.hid (known_w ⟨#[100, 105, 118]⟩ true (by decide +kernel))
  go_enter Tryz.func13, Tryz.ntmps13
  go_wp2_with fail
  refine (arity_10 _).mono ?_
  rintro e w' ⟨rfl, rfl⟩
  go_wp2_with fail
  refine (KN.out _).mono ?_
  rintro e w1 ⟨rfl, b1⟩
  have E1 := Lib.hid (h0.out.trans (b1.mono h0.out.size))
  have BLK := Lib.hid ((b1.block w.heap.size (by simp)).trans (heap_alloc_new w (.cells #[.int .i64 0, .int .i64 0, .string ⟨#[]⟩] 26)))
  clear b1
  go_wp2_with fail
  refine (J.out _ E1.out).mono ?_
  rintro e w2 ⟨rfl, b2⟩
  have E2 := Lib.hid (E1.out.trans (b2.mono E1.out.size))
  obtain ⟨⟨_, _, _⟩, ⟨_, _, _⟩⟩ := new3g BLK.out b2
  clear b2
  go_wp2_with fail
  exact bodyPost_ret (v := pairV (v0, 8)) (by simp [results, Tryz.results13, go_sem, *]) rfl ⟨rfl, put3 E2.out⟩
set_option maxHeartbeats 1000000 in
theorem apply_10y (A : Option Addr) (c : Nat) (l : List Vl) (w : World) (hv : ValsAt w A l) (hk : ∀ v ∈ l, okV v) (hn : l.length = 2) (ha : allInt l = true) :
    Calls Tryz.prog 13 #[.string ⟨#[100, 105, 118]⟩, .slice A 2 c] w fun e w' => e = .returned (pairV (numN 10 (nums l))) ∧ Below w.heap.size w w' := by
  have J := Lib.hid (fun W (h : Below w.heap.size w W) => numbers_yes A c l W (hv.below h) (by omega) (int_yes ha))
  have C := Lib.hid (fun W A' c' (hr : RowAt W (Value.int .i64) A' (nums l)) (hc : l.length ≤ c') => reckon_10 A' c' (nums l) W hr (nums_ok hk) (by rw [nums_len]; omega) (by rw [nums_len]; exact hc) (by rw [nums_len]; omega))
  rw [nums_len] at C
  generalize numN 10 (nums l) = o at *
  obtain ⟨⟨p, q, s⟩, oe⟩ := o
  dsimp only [pairV] at C ⊢
  rw [hn] at J C
  clear hv hk hn ha
  have h0 : Hid (Below w.heap.size w (w.alloc (.cells #[.int .i64 0, .int .i64 0, .string ⟨#[]⟩] 26))) := Lib.hid ((Below.refl _ _).alloc (Nat.le_refl _) _)
  have KN := Lib.hid (known_w ⟨#[100, 105, 118]⟩ true (by decide +kernel))
  go_enter Tryz.func13, Tryz.ntmps13
  go_wp2_with fail
  refine (arity_10 _).mono ?_
  rintro e w' ⟨rfl, rfl⟩
  go_wp2_with fail
  refine (KN.out _).mono ?_
  rintro e w1 ⟨rfl, b1⟩
  have E1 := Lib.hid (h0.out.trans (b1.mono h0.out.size))
  have BLK := Lib.hid ((b1.block w.heap.size (by simp)).trans (heap_alloc_new w (.cells #[.int .i64 0, .int .i64 0, .string ⟨#[]⟩] 26)))
  clear b1
  go_wp2_with fail
  refine (J.out _ E1.out).mono ?_
  rintro e w2 ⟨A', c', rfl, hr, hc, b2⟩
  have E2 := Lib.hid (E1.out.trans (b2.mono E1.out.size))
  have BLK2 := Lib.hid ((b2.block w.heap.size (Array.getElem?_eq_some_iff.1 BLK.out).1).trans BLK.out)
  have CC := Lib.hid (C.out _ _ _ hr hc)
  clear b2 hr hc
  go_wp2_with fail
  refine CC.out.mono ?_
  rintro e w3 ⟨rfl, b3⟩
  have E3 := Lib.hid (E2.out.trans (b3.mono E2.out.size))
  obtain ⟨⟨_, _, _⟩, ⟨_, _, _⟩⟩ := new3g BLK2.out b3
  clear b3
  go_wp2_with fail
  exact bodyPost_ret (v := .tuple #[Vl.val (p, q, s), .int .i64 oe]) (by simp [results, Tryz.results13, go_sem, *]) rfl ⟨rfl, put3 E3.out⟩
set_option maxHeartbeats 1000000 in
theorem apply_13n (A : Option Addr) (c : Nat) (l : List Vl) (w : World) (hv : ValsAt w A l) (h1 : 1 ≤ l.length) (hl : l.length ≤ 1000000) (ha : allInt l = false) :
    Calls Tryz.prog 13 #[.string ⟨#[109, 97, 120]⟩, .slice A l.length c] w fun e w' => e = .returned (pairV (v0, 8)) ∧ Below w.heap.size w w' := by
  have J := Lib.hid (fun W (h : Below w.heap.size w W) => numbers_no A c l W (hv.below h) hl (int_no ha))
  obtain ⟨n, hn⟩ : ∃ n, n = l.length := ⟨_, rfl⟩
  rw [← hn] at J h1 hl ⊢
  have hnI : (n : Int) ≤ 1000000 := by omega
  have h1I : (1 : Int) ≤ (n : Int) := by omega
  clear hv hn ha h1 hl
  have h0 : Hid (Below w.heap.size w (w.alloc (.cells #[.int .i64 0, .int .i64 0, .string ⟨#[]⟩] 26))) := Lib.hid ((Below.refl _ _).alloc (Nat.le_refl _) _)
  have KN := Lib.hid (known_w ⟨#[109, 97, 120]⟩ true (by decide +kernel))
  go_enter Tryz.func13, Tryz.ntmps13
  go_wp2_with fail
  refine (arity_13 _).mono ?_
  rintro e w' ⟨rfl, rfl⟩
  go_wp2_with fail
  refine (KN.out _).mono ?_
  rintro e w1 ⟨rfl, b1⟩
  have E1 := Lib.hid (h0.out.trans (b1.mono h0.out.size))
  have BLK := Lib.hid ((b1.block w.heap.size (by simp)).trans (heap_alloc_new w (.cells #[.int .i64 0, .int .i64 0, .string ⟨#[]⟩] 26)))
  clear b1
  go_wp2_with fail
  refine (J.out _ E1.out).mono ?_
  rintro e w2 ⟨rfl, b2⟩
  have E2 := Lib.hid (E1.out.trans (b2.mono E1.out.size))
  obtain ⟨⟨_, _, _⟩, ⟨_, _, _⟩⟩ := new3g BLK.out b2
  clear b2
  go_wp2_with fail
  exact bodyPost_ret (v := pairV (v0, 8)) (by simp [results, Tryz.results13, go_sem, *]) rfl ⟨rfl, put3 E2.out⟩
set_option maxHeartbeats 1000000 in
theorem apply_13y (A : Option Addr) (c : Nat) (l : List Vl) (w : World) (hv : ValsAt w A l) (hk : ∀ v ∈ l, okV v) (h1 : 1 ≤ l.length) (hl : l.length ≤ 1000000) (ha : allInt l = true) :
    Calls Tryz.prog 13 #[.string ⟨#[109, 97, 120]⟩, .slice A l.length c] w fun e w' => e = .returned (pairV (numN 13 (nums l))) ∧ Below w.heap.size w w' := by
  have J := Lib.hid (fun W (h : Below w.heap.size w W) => numbers_yes A c l W (hv.below h) hl (int_yes ha))
  have C := Lib.hid (fun W A' c' (hr : RowAt W (Value.int .i64) A' (nums l)) (hc : l.length ≤ c') => reckon_13 A' c' (nums l) W hr (nums_ok hk) (by rw [nums_len]; omega) (by rw [nums_len]; exact hc) (by rw [nums_len]; omega))
  rw [nums_len] at C
  generalize numN 13 (nums l) = o at *
  obtain ⟨⟨p, q, s⟩, oe⟩ := o
  dsimp only [pairV] at C ⊢
  obtain ⟨n, hn⟩ : ∃ n, n = l.length := ⟨_, rfl⟩
  rw [← hn] at J C h1 hl ⊢
  have hnI : (n : Int) ≤ 1000000 := by omega
  have h1I : (1 : Int) ≤ (n : Int) := by omega
  clear hv hk hn ha h1 hl
  have h0 : Hid (Below w.heap.size w (w.alloc (.cells #[.int .i64 0, .int .i64 0, .string ⟨#[]⟩] 26))) := Lib.hid ((Below.refl _ _).alloc (Nat.le_refl _) _)
  have KN := Lib.hid (known_w ⟨#[109, 97, 120]⟩ true (by decide +kernel))
  go_enter Tryz.func13, Tryz.ntmps13
  go_wp2_with fail
  refine (arity_13 _).mono ?_
  rintro e w' ⟨rfl, rfl⟩
  go_wp2_with fail
  refine (KN.out _).mono ?_
  rintro e w1 ⟨rfl, b1⟩
  have E1 := Lib.hid (h0.out.trans (b1.mono h0.out.size))
  have BLK := Lib.hid ((b1.block w.heap.size (by simp)).trans (heap_alloc_new w (.cells #[.int .i64 0, .int .i64 0, .string ⟨#[]⟩] 26)))
  clear b1
  go_wp2_with fail
  refine (J.out _ E1.out).mono ?_
  rintro e w2 ⟨A', c', rfl, hr, hc, b2⟩
  have E2 := Lib.hid (E1.out.trans (b2.mono E1.out.size))
  have BLK2 := Lib.hid ((b2.block w.heap.size (Array.getElem?_eq_some_iff.1 BLK.out).1).trans BLK.out)
  have CC := Lib.hid (C.out _ _ _ hr hc)
  clear b2 hr hc
  go_wp2_with fail
  refine CC.out.mono ?_
  rintro e w3 ⟨rfl, b3⟩
  have E3 := Lib.hid (E2.out.trans (b3.mono E2.out.size))
  obtain ⟨⟨_, _, _⟩, ⟨_, _, _⟩⟩ := new3g BLK2.out b3
  clear b3
  go_wp2_with fail
  exact bodyPost_ret (v := .tuple #[Vl.val (p, q, s), .int .i64 oe]) (by simp [results, Tryz.results13, go_sem, *]) rfl ⟨rfl, put3 E3.out⟩
set_option maxHeartbeats 1000000 in
theorem apply_14n (A : Option Addr) (c : Nat) (l : List Vl) (w : World) (hv : ValsAt w A l) (h1 : 1 ≤ l.length) (hl : l.length ≤ 1000000) (ha : allInt l = false) :
    Calls Tryz.prog 13 #[.string ⟨#[109, 105, 110]⟩, .slice A l.length c] w fun e w' => e = .returned (pairV (v0, 8)) ∧ Below w.heap.size w w' := by
  have J := Lib.hid (fun W (h : Below w.heap.size w W) => numbers_no A c l W (hv.below h) hl (int_no ha))
  obtain ⟨n, hn⟩ : ∃ n, n = l.length := ⟨_, rfl⟩
  rw [← hn] at J h1 hl ⊢
  have hnI : (n : Int) ≤ 1000000 := by omega
  have h1I : (1 : Int) ≤ (n : Int) := by omega
  clear hv hn ha h1 hl
  have h0 : Hid (Below w.heap.size w (w.alloc (.cells #[.int .i64 0, .int .i64 0, .string ⟨#[]⟩] 26))) := Lib.hid ((Below.refl _ _).alloc (Nat.le_refl _) _)
  have KN := Lib.hid (known_w ⟨#[109, 105, 110]⟩ true (by decide +kernel))
  go_enter Tryz.func13, Tryz.ntmps13
  go_wp2_with fail
  refine (arity_14 _).mono ?_
  rintro e w' ⟨rfl, rfl⟩
  go_wp2_with fail
  refine (KN.out _).mono ?_
  rintro e w1 ⟨rfl, b1⟩
  have E1 := Lib.hid (h0.out.trans (b1.mono h0.out.size))
  have BLK := Lib.hid ((b1.block w.heap.size (by simp)).trans (heap_alloc_new w (.cells #[.int .i64 0, .int .i64 0, .string ⟨#[]⟩] 26)))
  clear b1
  go_wp2_with fail
  refine (J.out _ E1.out).mono ?_
  rintro e w2 ⟨rfl, b2⟩
  have E2 := Lib.hid (E1.out.trans (b2.mono E1.out.size))
  obtain ⟨⟨_, _, _⟩, ⟨_, _, _⟩⟩ := new3g BLK.out b2
  clear b2
  go_wp2_with fail
  exact bodyPost_ret (v := pairV (v0, 8)) (by simp [results, Tryz.results13, go_sem, *]) rfl ⟨rfl, put3 E2.out⟩
set_option maxHeartbeats 1000000 in
theorem apply_14y (A : Option Addr) (c : Nat) (l : List Vl) (w : World) (hv : ValsAt w A l) (hk : ∀ v ∈ l, okV v) (h1 : 1 ≤ l.length) (hl : l.length ≤ 1000000) (ha : allInt l = true) :
    Calls Tryz.prog 13 #[.string ⟨#[109, 105, 110]⟩, .slice A l.length c] w fun e w' => e = .returned (pairV (numN 14 (nums l))) ∧ Below w.heap.size w w' := by
  have J := Lib.hid (fun W (h : Below w.heap.size w W) => numbers_yes A c l W (hv.below h) hl (int_yes ha))
  have C := Lib.hid (fun W A' c' (hr : RowAt W (Value.int .i64) A' (nums l)) (hc : l.length ≤ c') => reckon_14 A' c' (nums l) W hr (nums_ok hk) (by rw [nums_len]; omega) (by rw [nums_len]; exact hc) (by rw [nums_len]; omega))
  rw [nums_len] at C
  generalize numN 14 (nums l) = o at *
  obtain ⟨⟨p, q, s⟩, oe⟩ := o
  dsimp only [pairV] at C ⊢
  obtain ⟨n, hn⟩ : ∃ n, n = l.length := ⟨_, rfl⟩
  rw [← hn] at J C h1 hl ⊢
  have hnI : (n : Int) ≤ 1000000 := by omega
  have h1I : (1 : Int) ≤ (n : Int) := by omega
  clear hv hk hn ha h1 hl
  have h0 : Hid (Below w.heap.size w (w.alloc (.cells #[.int .i64 0, .int .i64 0, .string ⟨#[]⟩] 26))) := Lib.hid ((Below.refl _ _).alloc (Nat.le_refl _) _)
  have KN := Lib.hid (known_w ⟨#[109, 105, 110]⟩ true (by decide +kernel))
  go_enter Tryz.func13, Tryz.ntmps13
  go_wp2_with fail
  refine (arity_14 _).mono ?_
  rintro e w' ⟨rfl, rfl⟩
  go_wp2_with fail
  refine (KN.out _).mono ?_
  rintro e w1 ⟨rfl, b1⟩
  have E1 := Lib.hid (h0.out.trans (b1.mono h0.out.size))
  have BLK := Lib.hid ((b1.block w.heap.size (by simp)).trans (heap_alloc_new w (.cells #[.int .i64 0, .int .i64 0, .string ⟨#[]⟩] 26)))
  clear b1
  go_wp2_with fail
  refine (J.out _ E1.out).mono ?_
  rintro e w2 ⟨A', c', rfl, hr, hc, b2⟩
  have E2 := Lib.hid (E1.out.trans (b2.mono E1.out.size))
  have BLK2 := Lib.hid ((b2.block w.heap.size (Array.getElem?_eq_some_iff.1 BLK.out).1).trans BLK.out)
  have CC := Lib.hid (C.out _ _ _ hr hc)
  clear b2 hr hc
  go_wp2_with fail
  refine CC.out.mono ?_
  rintro e w3 ⟨rfl, b3⟩
  have E3 := Lib.hid (E2.out.trans (b3.mono E2.out.size))
  obtain ⟨⟨_, _, _⟩, ⟨_, _, _⟩⟩ := new3g BLK2.out b3
  clear b3
  go_wp2_with fail
  exact bodyPost_ret (v := .tuple #[Vl.val (p, q, s), .int .i64 oe]) (by simp [results, Tryz.results13, go_sem, *]) rfl ⟨rfl, put3 E3.out⟩
set_option maxHeartbeats 1000000 in
theorem apply_15n (A : Option Addr) (c : Nat) (l : List Vl) (w : World) (hv : ValsAt w A l) (hn : l.length = 2) (ha : allInt l = false) :
    Calls Tryz.prog 13 #[.string ⟨#[109, 111, 100]⟩, .slice A 2 c] w fun e w' => e = .returned (pairV (v0, 8)) ∧ Below w.heap.size w w' := by
  have J := Lib.hid (fun W (h : Below w.heap.size w W) => numbers_no A c l W (hv.below h) (by omega) (int_no ha))
  rw [hn] at J
  clear hv hn ha
  have h0 : Hid (Below w.heap.size w (w.alloc (.cells #[.int .i64 0, .int .i64 0, .string ⟨#[]⟩] 26))) := Lib.hid ((Below.refl _ _).alloc (Nat.le_refl _) _)
  have KN := Lib.hid (known_w ⟨#[109, 111, 100]⟩ true (by decide +kernel))
  go_enter Tryz.func13, Tryz.ntmps13
  go_wp2_with fail
  refine (arity_15 _).mono ?_
  rintro e w' ⟨rfl, rfl⟩
  go_wp2_with fail
  refine (KN.out _).mono ?_
  rintro e w1 ⟨rfl, b1⟩
  have E1 := Lib.hid (h0.out.trans (b1.mono h0.out.size))
  have BLK := Lib.hid ((b1.block w.heap.size (by simp)).trans (heap_alloc_new w (.cells #[.int .i64 0, .int .i64 0, .string ⟨#[]⟩] 26)))
  clear b1
  go_wp2_with fail
  refine (J.out _ E1.out).mono ?_
  rintro e w2 ⟨rfl, b2⟩
  have E2 := Lib.hid (E1.out.trans (b2.mono E1.out.size))
  obtain ⟨⟨_, _, _⟩, ⟨_, _, _⟩⟩ := new3g BLK.out b2
  clear b2
  go_wp2_with fail
  exact bodyPost_ret (v := pairV (v0, 8)) (by simp [results, Tryz.results13, go_sem, *]) rfl ⟨rfl, put3 E2.out⟩
set_option maxHeartbeats 1000000 in
theorem apply_15y (A : Option Addr) (c : Nat) (l : List Vl) (w : World) (hv : ValsAt w A l) (hk : ∀ v ∈ l, okV v) (hn : l.length = 2) (ha : allInt l = true) :
    Calls Tryz.prog 13 #[.string ⟨#[109, 111, 100]⟩, .slice A 2 c] w fun e w' => e = .returned (pairV (numN 15 (nums l))) ∧ Below w.heap.size w w' := by
  have J := Lib.hid (fun W (h : Below w.heap.size w W) => numbers_yes A c l W (hv.below h) (by omega) (int_yes ha))
  have C := Lib.hid (fun W A' c' (hr : RowAt W (Value.int .i64) A' (nums l)) (hc : l.length ≤ c') => reckon_15 A' c' (nums l) W hr (nums_ok hk) (by rw [nums_len]; omega) (by rw [nums_len]; exact hc) (by rw [nums_len]; omega))
  rw [nums_len] at C
  generalize numN 15 (nums l) = o at *
  obtain ⟨⟨p, q, s⟩, oe⟩ := o
  dsimp only [pairV] at C ⊢
  rw [hn] at J C
  clear hv hk hn ha
  have h0 : Hid (Below w.heap.size w (w.alloc (.cells #[.int .i64 0, .int .i64 0, .string ⟨#[]⟩] 26))) := Lib.hid ((Below.refl _ _).alloc (Nat.le_refl _) _)
  have KN := Lib.hid (known_w ⟨#[109, 111, 100]⟩ true (by decide +kernel))
  go_enter Tryz.func13, Tryz.ntmps13
  go_wp2_with fail
  refine (arity_15 _).mono ?_
  rintro e w' ⟨rfl, rfl⟩
  go_wp2_with fail
  refine (KN.out _).mono ?_
  rintro e w1 ⟨rfl, b1⟩
  have E1 := Lib.hid (h0.out.trans (b1.mono h0.out.size))
  have BLK := Lib.hid ((b1.block w.heap.size (by simp)).trans (heap_alloc_new w (.cells #[.int .i64 0, .int .i64 0, .string ⟨#[]⟩] 26)))
  clear b1
  go_wp2_with fail
  refine (J.out _ E1.out).mono ?_
  rintro e w2 ⟨A', c', rfl, hr, hc, b2⟩
  have E2 := Lib.hid (E1.out.trans (b2.mono E1.out.size))
  have BLK2 := Lib.hid ((b2.block w.heap.size (Array.getElem?_eq_some_iff.1 BLK.out).1).trans BLK.out)
  have CC := Lib.hid (C.out _ _ _ hr hc)
  clear b2 hr hc
  go_wp2_with fail
  refine CC.out.mono ?_
  rintro e w3 ⟨rfl, b3⟩
  have E3 := Lib.hid (E2.out.trans (b3.mono E2.out.size))
  obtain ⟨⟨_, _, _⟩, ⟨_, _, _⟩⟩ := new3g BLK2.out b3
  clear b3
  go_wp2_with fail
  exact bodyPost_ret (v := .tuple #[Vl.val (p, q, s), .int .i64 oe]) (by simp [results, Tryz.results13, go_sem, *]) rfl ⟨rfl, put3 E3.out⟩
end Go.Proofs.YtmadnehipagakaaGreatDoor
