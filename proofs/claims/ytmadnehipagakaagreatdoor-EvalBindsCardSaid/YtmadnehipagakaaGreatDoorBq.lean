/- built.Apply: texts behind one another. -/
import Derived.Test.YtmadnehipagakaaGreatDoorBp
namespace Go.Proofs.YtmadnehipagakaaGreatDoor
open Go.RowKit Go.Lib Go.Sort KP
theorem join_a {A : Option Addr} {c : Nat} {l : List Vl} {most : Nat} (hm : most ≤ 1000000) {w : World} (ht : Tab w) (hv : ValsAt w A l) (hk : ∀ v ∈ l, okV v) (hl : l.length ≤ 1000000) (h : (cat l).size ≤ most) (W : World) (hW : Below w.heap.size w W) :
    Calls Tryz.prog 45 #[.slice A l.length c, .int .i64 most] W fun e w' => e = .returned (.tuple #[.string (cat l), .int .i64 0]) ∧ Below W.heap.size W w' := by
  have := join_c A c l most hm W (ht.b hW) (hv.below hW) hk hl
  have e : joinO l most = (cat l, 0) := if_pos h
  rw [e] at this; exact this
theorem join_b {A : Option Addr} {c : Nat} {l : List Vl} {most : Nat} (hm : most ≤ 1000000) {w : World} (ht : Tab w) (hv : ValsAt w A l) (hk : ∀ v ∈ l, okV v) (hl : l.length ≤ 1000000) (h : ¬ (cat l).size ≤ most) (W : World) (hW : Below w.heap.size w W) :
    Calls Tryz.prog 45 #[.slice A l.length c, .int .i64 most] W fun e w' => e = .returned (.tuple #[.string ⟨#[]⟩, .int .i64 4]) ∧ Below W.heap.size W w' := by
  have := join_c A c l most hm W (ht.b hW) (hv.below hW) hk hl
  have e : joinO l most = (⟨#[]⟩, 4) := if_neg h
  rw [e] at this; exact this
set_option maxHeartbeats 1000000 in
theorem apply_str_no (A : Option Addr) (c : Nat) (l : List Vl) (w : World) (ht : Tab w) (hv : ValsAt w A l) (hk : ∀ v ∈ l, okV v) (hl : l.length ≤ 1000000) (hs : ¬ (cat l).size ≤ 1000) :
    Calls Tryz.prog 13 #[.string ⟨#[115, 116, 114, 45, 99, 97, 116]⟩, .slice A l.length c] w fun e w' => e = .returned (pairV (v0, 4)) ∧ Below w.heap.size w w' := by
  have J := Lib.hid (join_b (c := c) (by omega : 1000 ≤ 1000000) ht hv hk hl hs)
  obtain ⟨n, hn⟩ : ∃ n, n = l.length := ⟨_, rfl⟩
  rw [← hn] at J hl ⊢
  have hnI : (n : Int) ≤ 1000000 := by omega
  have h1I : (0 : Int) ≤ (n : Int) := by omega
  clear ht hv hk hl hn hs
  have h0 : Hid (Below w.heap.size w (w.alloc (.cells #[.int .i64 0, .int .i64 0, .string ⟨#[]⟩] 26))) := Lib.hid ((Below.refl _ _).alloc (Nat.le_refl _) _)
  have KN := Lib.hid (known_w ⟨#[115, 116, 114, 45, 99, 97, 116]⟩ true (by decide +kernel))
  go_enter Tryz.func13, Tryz.ntmps13
  go_wp2_with fail
  refine (arity_18 _).mono ?_
  rintro e w' ⟨rfl, rfl⟩
  go_wp2_with fail
  refine (KN.out _).mono ?_
  rintro e w1 ⟨rfl, b1⟩
  have E1 := Lib.hid (h0.out.trans (b1.mono h0.out.size))
  have BLK := Lib.hid ((b1.block w.heap.size (by simp)).trans (heap_alloc_new w (.cells #[.int .i64 0, .int .i64 0, .string ⟨#[]⟩] 26)))
  clear b1
  go_wp2_with fail
  refine (J.out _ E1.out).mono ?_
  rintro e w2 ⟨rfl, b2⟩
  have E2 := Lib.hid (E1.out.trans (b2.mono E1.out.size))
  obtain ⟨⟨_, _, _⟩, ⟨_, _, _⟩⟩ := new3g BLK.out b2
  clear b2
  go_wp2_with fail
  exact bodyPost_ret (v := pairV (v0, 4)) (by simp [results, Tryz.results13, go_sem, *]) rfl ⟨rfl, put3 E2.out⟩
set_option maxHeartbeats 1000000 in
theorem apply_str_yes (A : Option Addr) (c : Nat) (l : List Vl) (w : World) (ht : Tab w) (hv : ValsAt w A l) (hk : ∀ v ∈ l, okV v) (hl : l.length ≤ 1000000) (hs : (cat l).size ≤ 1000) :
    Calls Tryz.prog 13 #[.string ⟨#[115, 116, 114, 45, 99, 97, 116]⟩, .slice A l.length c] w fun e w' => e = .returned (pairV (vT (cat l), 0)) ∧ Below w.heap.size w w' := by
  have J := Lib.hid (join_a (c := c) (by omega : 1000 ≤ 1000000) ht hv hk hl hs)
  generalize cat l = t at *
  obtain ⟨n, hn⟩ : ∃ n, n = l.length := ⟨_, rfl⟩
  rw [← hn] at J hl ⊢
  have hnI : (n : Int) ≤ 1000000 := by omega
  have h1I : (0 : Int) ≤ (n : Int) := by omega
  clear ht hv hk hl hn hs
  have h0 : Hid (Below w.heap.size w (w.alloc (.cells #[.int .i64 0, .int .i64 0, .string ⟨#[]⟩] 26))) := Lib.hid ((Below.refl _ _).alloc (Nat.le_refl _) _)
  have KN := Lib.hid (known_w ⟨#[115, 116, 114, 45, 99, 97, 116]⟩ true (by decide +kernel))
  go_enter Tryz.func13, Tryz.ntmps13
  go_wp2_with fail
  refine (arity_18 _).mono ?_
  rintro e w' ⟨rfl, rfl⟩
  go_wp2_with fail
  refine (KN.out _).mono ?_
  rintro e w1 ⟨rfl, b1⟩
  have E1 := Lib.hid (h0.out.trans (b1.mono h0.out.size))
  have BLK := Lib.hid ((b1.block w.heap.size (by simp)).trans (heap_alloc_new w (.cells #[.int .i64 0, .int .i64 0, .string ⟨#[]⟩] 26)))
  clear b1
  go_wp2_with fail
  refine (J.out _ E1.out).mono ?_
  rintro e w2 ⟨rfl, b2⟩
  have E2 := Lib.hid (E1.out.trans (b2.mono E1.out.size))
  have BLK2 := Lib.hid ((b2.block w.heap.size (Array.getElem?_eq_some_iff.1 BLK.out).1).trans BLK.out)
  clear b2
  go_wp2_with fail
  refine (ofStr_c t _).mono ?_
  rintro e w3 ⟨rfl, b3⟩
  have E3 := Lib.hid (E2.out.trans (b3.mono E2.out.size))
  obtain ⟨⟨_, _, _⟩, ⟨_, _, _⟩⟩ := new3g BLK2.out b3
  clear b3
  go_wp2_with fail
  exact bodyPost_ret (v := pairV (vT t, 0)) (by simp [results, Tryz.results13, go_sem, *]) rfl ⟨rfl, put3 E3.out⟩
set_option maxHeartbeats 1000000 in
theorem apply_sym_no (A : Option Addr) (c : Nat) (l : List Vl) (w : World) (ht : Tab w) (hv : ValsAt w A l) (hk : ∀ v ∈ l, okV v) (hl : l.length ≤ 1000000) (h1 : 1 ≤ l.length) (hs : ¬ (cat l).size ≤ 40) :
    Calls Tryz.prog 13 #[.string ⟨#[115, 121, 109, 45, 99, 97, 116]⟩, .slice A l.length c] w fun e w' => e = .returned (pairV (v0, 4)) ∧ Below w.heap.size w w' := by
  have J := Lib.hid (join_b (c := c) (by omega : 40 ≤ 1000000) ht hv hk hl hs)
  obtain ⟨n, hn⟩ : ∃ n, n = l.length := ⟨_, rfl⟩
  rw [← hn] at J hl ⊢
  have hnI : (n : Int) ≤ 1000000 := by omega
  have h1I : (1 : Int) ≤ (n : Int) := by omega
  clear h1
  clear ht hv hk hl hn hs
  have h0 : Hid (Below w.heap.size w (w.alloc (.cells #[.int .i64 0, .int .i64 0, .string ⟨#[]⟩] 26))) := Lib.hid ((Below.refl _ _).alloc (Nat.le_refl _) _)
  have KN := Lib.hid (known_w ⟨#[115, 121, 109, 45, 99, 97, 116]⟩ true (by decide +kernel))
  go_enter Tryz.func13, Tryz.ntmps13
  go_wp2_with fail
  refine (arity_19 _).mono ?_
  rintro e w' ⟨rfl, rfl⟩
  go_wp2_with fail
  refine (KN.out _).mono ?_
  rintro e w1 ⟨rfl, b1⟩
  have E1 := Lib.hid (h0.out.trans (b1.mono h0.out.size))
  have BLK := Lib.hid ((b1.block w.heap.size (by simp)).trans (heap_alloc_new w (.cells #[.int .i64 0, .int .i64 0, .string ⟨#[]⟩] 26)))
  clear b1
  go_wp2_with fail
  refine (J.out _ E1.out).mono ?_
  rintro e w2 ⟨rfl, b2⟩
  have E2 := Lib.hid (E1.out.trans (b2.mono E1.out.size))
  obtain ⟨⟨_, _, _⟩, ⟨_, _, _⟩⟩ := new3g BLK.out b2
  clear b2
  go_wp2_with fail
  exact bodyPost_ret (v := pairV (v0, 4)) (by simp [results, Tryz.results13, go_sem, *]) rfl ⟨rfl, put3 E2.out⟩
set_option maxHeartbeats 1000000 in
theorem apply_sym_true (A : Option Addr) (c : Nat) (l : List Vl) (w : World) (ht : Tab w) (hv : ValsAt w A l) (hk : ∀ v ∈ l, okV v) (hl : l.length ≤ 1000000) (h1 : 1 ≤ l.length) (hs : (cat l).size ≤ 40) (hr : rightB (vS (cat l)) = true) :
    Calls Tryz.prog 13 #[.string ⟨#[115, 121, 109, 45, 99, 97, 116]⟩, .slice A l.length c] w fun e w' => e = .returned (pairV (vS (cat l), 0)) ∧ Below w.heap.size w w' := by
  have J := Lib.hid (join_a (c := c) (by omega : 40 ≤ 1000000) ht hv hk hl hs)
  generalize cat l = t at *
  have RC : Hid (∀ W, Calls Tryz.prog 47 #[.agg #[.int .i64 2, .int .i64 0, .string t]] W fun e w' => e = .returned (.bool true) ∧ Below W.heap.size W w') := Lib.hid (fun W => by rw [← hr]; exact right_c (vS t) W)
  clear hr
  obtain ⟨n, hn⟩ : ∃ n, n = l.length := ⟨_, rfl⟩
  rw [← hn] at J hl ⊢
  have hnI : (n : Int) ≤ 1000000 := by omega
  have h1I : (1 : Int) ≤ (n : Int) := by omega
  clear h1
  clear ht hv hk hl hn hs
  have h0 : Hid (Below w.heap.size w (w.alloc (.cells #[.int .i64 0, .int .i64 0, .string ⟨#[]⟩] 26))) := Lib.hid ((Below.refl _ _).alloc (Nat.le_refl _) _)
  have KN := Lib.hid (known_w ⟨#[115, 121, 109, 45, 99, 97, 116]⟩ true (by decide +kernel))
  go_enter Tryz.func13, Tryz.ntmps13
  go_wp2_with fail
  refine (arity_19 _).mono ?_
  rintro e w' ⟨rfl, rfl⟩
  go_wp2_with fail
  refine (KN.out _).mono ?_
  rintro e w1 ⟨rfl, b1⟩
  have E1 := Lib.hid (h0.out.trans (b1.mono h0.out.size))
  have BLK := Lib.hid ((b1.block w.heap.size (by simp)).trans (heap_alloc_new w (.cells #[.int .i64 0, .int .i64 0, .string ⟨#[]⟩] 26)))
  clear b1
  go_wp2_with fail
  refine (J.out _ E1.out).mono ?_
  rintro e w2 ⟨rfl, b2⟩
  have E2 := Lib.hid (E1.out.trans (b2.mono E1.out.size))
  have BLK2 := Lib.hid ((b2.block w.heap.size (Array.getElem?_eq_some_iff.1 BLK.out).1).trans BLK.out)
  clear b2
  go_wp2_with fail
  refine (ofSym_c t _).mono ?_
  rintro e w3 ⟨rfl, b3⟩
  have E3 := Lib.hid (E2.out.trans (b3.mono E2.out.size))
  have BLK3 := Lib.hid ((b3.block w.heap.size (Array.getElem?_eq_some_iff.1 BLK2.out).1).trans BLK2.out)
  clear b3
  go_wp2_with fail
  refine (RC.out _).mono ?_
  rintro e w4 ⟨rfl, b4⟩
  have h4 : Hid (Below w.heap.size w (w3.alloc (.cells #[.int .i64 2, .int .i64 0, .string t] 26))) := Lib.hid (E3.out.alloc E3.out.size _)
  have E4 := Lib.hid (h4.out.trans (b4.mono h4.out.size))
  have hlt := (Array.getElem?_eq_some_iff.1 BLK3.out).1
  obtain ⟨⟨_, _, _⟩, ⟨_, _, _⟩⟩ := new3g ((Below.heap_alloc w3 (.cells #[.int .i64 2, .int .i64 0, .string t] 26) w.heap.size hlt).trans BLK3.out) b4
  obtain ⟨⟨_, _, _⟩, ⟨_, _, _⟩⟩ := new3g (heap_alloc_new w3 (.cells #[.int .i64 2, .int .i64 0, .string t] 26)) b4
  clear b4
  go_wp2_with fail
  exact bodyPost_ret (v := pairV (vS (t), 0)) (by simp [results, Tryz.results13, go_sem, *]) rfl ⟨rfl, put3 E4.out⟩
set_option maxHeartbeats 1000000 in
theorem apply_sym_false (A : Option Addr) (c : Nat) (l : List Vl) (w : World) (ht : Tab w) (hv : ValsAt w A l) (hk : ∀ v ∈ l, okV v) (hl : l.length ≤ 1000000) (h1 : 1 ≤ l.length) (hs : (cat l).size ≤ 40) (hr : rightB (vS (cat l)) = false) :
    Calls Tryz.prog 13 #[.string ⟨#[115, 121, 109, 45, 99, 97, 116]⟩, .slice A l.length c] w fun e w' => e = .returned (pairV (v0, 2)) ∧ Below w.heap.size w w' := by
  have J := Lib.hid (join_a (c := c) (by omega : 40 ≤ 1000000) ht hv hk hl hs)
  generalize cat l = t at *
  have RC : Hid (∀ W, Calls Tryz.prog 47 #[.agg #[.int .i64 2, .int .i64 0, .string t]] W fun e w' => e = .returned (.bool false) ∧ Below W.heap.size W w') := Lib.hid (fun W => by rw [← hr]; exact right_c (vS t) W)
  clear hr
  obtain ⟨n, hn⟩ : ∃ n, n = l.length := ⟨_, rfl⟩
  rw [← hn] at J hl ⊢
  have hnI : (n : Int) ≤ 1000000 := by omega
  have h1I : (1 : Int) ≤ (n : Int) := by omega
  clear h1
  clear ht hv hk hl hn hs
  have h0 : Hid (Below w.heap.size w (w.alloc (.cells #[.int .i64 0, .int .i64 0, .string ⟨#[]⟩] 26))) := Lib.hid ((Below.refl _ _).alloc (Nat.le_refl _) _)
  have KN := Lib.hid (known_w ⟨#[115, 121, 109, 45, 99, 97, 116]⟩ true (by decide +kernel))
  go_enter Tryz.func13, Tryz.ntmps13
  go_wp2_with fail
  refine (arity_19 _).mono ?_
  rintro e w' ⟨rfl, rfl⟩
  go_wp2_with fail
  refine (KN.out _).mono ?_
  rintro e w1 ⟨rfl, b1⟩
  have E1 := Lib.hid (h0.out.trans (b1.mono h0.out.size))
  have BLK := Lib.hid ((b1.block w.heap.size (by simp)).trans (heap_alloc_new w (.cells #[.int .i64 0, .int .i64 0, .string ⟨#[]⟩] 26)))
  clear b1
  go_wp2_with fail
  refine (J.out _ E1.out).mono ?_
  rintro e w2 ⟨rfl, b2⟩
  have E2 := Lib.hid (E1.out.trans (b2.mono E1.out.size))
  have BLK2 := Lib.hid ((b2.block w.heap.size (Array.getElem?_eq_some_iff.1 BLK.out).1).trans BLK.out)
  clear b2
  go_wp2_with fail
  refine (ofSym_c t _).mono ?_
  rintro e w3 ⟨rfl, b3⟩
  have E3 := Lib.hid (E2.out.trans (b3.mono E2.out.size))
  have BLK3 := Lib.hid ((b3.block w.heap.size (Array.getElem?_eq_some_iff.1 BLK2.out).1).trans BLK2.out)
  clear b3
  go_wp2_with fail
  refine (RC.out _).mono ?_
  rintro e w4 ⟨rfl, b4⟩
  have h4 : Hid (Below w.heap.size w (w3.alloc (.cells #[.int .i64 2, .int .i64 0, .string t] 26))) := Lib.hid (E3.out.alloc E3.out.size _)
  have E4 := Lib.hid (h4.out.trans (b4.mono h4.out.size))
  have hlt := (Array.getElem?_eq_some_iff.1 BLK3.out).1
  obtain ⟨⟨_, _, _⟩, ⟨_, _, _⟩⟩ := new3g ((Below.heap_alloc w3 (.cells #[.int .i64 2, .int .i64 0, .string t] 26) w.heap.size hlt).trans BLK3.out) b4
  obtain ⟨⟨_, _, _⟩, ⟨_, _, _⟩⟩ := new3g (heap_alloc_new w3 (.cells #[.int .i64 2, .int .i64 0, .string t] 26)) b4
  clear b4
  go_wp2_with fail
  exact bodyPost_ret (v := pairV (v0, 2)) (by simp [results, Tryz.results13, go_sem, *]) rfl ⟨rfl, put3 E4.out⟩
end Go.Proofs.YtmadnehipagakaaGreatDoor
