/- built.Apply: comparisons. -/
import Derived.Test.YtmadnehipagakaaGreatDoorBs
namespace Go.Proofs.YtmadnehipagakaaGreatDoor
open Go.RowKit Go.Lib Go.Sort KP
theorem belN {B : Nat} {W W1 : World} (h : Below B W W1) (n : Nat) : Below B W (W1.drewN n) := ⟨h.os, h.tape, h.output, h.size, h.block⟩
theorem chain_yes {p : Int → Int → Bool} : ∀ {l : List Int}, (∀ j (h : j + 1 < l.length), p l[j] l[j + 1] = true) → chainB p l = true
  | [], _ => rfl
  | [_], _ => rfl
  | a :: b :: l, h => by
    have h0 : p a b = true := h 0 (by simp)
    have ih := chain_yes (p := p) (l := b :: l) (fun j hj => h (j + 1) (by simpa using hj))
    show (p a b && chainB p (b :: l)) = true
    rw [h0, ih]; rfl
theorem chain_no {p : Int → Int → Bool} : ∀ {l : List Int} {j : Nat} (h : j + 1 < l.length), p l[j] l[j + 1] = false → chainB p l = false
  | [], _, h, _ => by simp at h
  | [_], _, h, _ => by simp at h
  | a :: b :: l, 0, _, e => by
    have e0 : p a b = false := e
    show (p a b && chainB p (b :: l)) = false
    rw [e0]; rfl
  | a :: b :: l, j + 1, h, e => by
    have ih := chain_no (p := p) (l := b :: l) (j := j) (by simpa using h) e
    show (p a b && chainB p (b :: l)) = false
    rw [ih, Bool.and_false]
theorem row_pair {w : World} {A : Option Addr} {l : List Int} (h : RowAt w (Value.int .i64) A l) {k : Nat} (hk : k + 1 < l.length) : ∃ ad, A = some ad ∧ w.cell? (ad.add k) = some (.int .i64 l[k]) ∧ w.cell? ⟨ad.block, ad.off + (k + 1), none⟩ = some (.int .i64 l[k + 1]) := by
  obtain ⟨ad, e, _, c0⟩ := h k (by omega)
  obtain ⟨ad', e', _, c1⟩ := h (k + 1) hk
  rw [e] at e'
  injection e' with e'
  subst e'
  rw [show ad.add (k + 1) = ⟨ad.block, ad.off + (k + 1), none⟩ by simp [Addr.add]] at c1
  exact ⟨ad, e, c0, c1⟩
set_option maxHeartbeats 1000000 in
theorem apply_6n (A : Option Addr) (c : Nat) (l : List Vl) (w : World) (hv : ValsAt w A l) (h1 : 2 ≤ l.length) (h2 : l.length ≤ 2) (ha : allInt l = false) :
    Calls Tryz.prog 13 #[.string ⟨#[61]⟩, .slice A l.length c] w fun e w' => e = .returned (pairV (v0, 8)) ∧ Below w.heap.size w w' := by
  have J := Lib.hid (fun W (h : Below w.heap.size w W) => numbers_no A c l W (hv.below h) (by omega) (int_no ha))
  obtain ⟨n, hn⟩ : ∃ n, n = l.length := ⟨_, rfl⟩
  rw [← hn] at J h1 h2 ⊢
  have hnI : (n : Int) ≤ 2 := by omega
  have h1I : (2 : Int) ≤ (n : Int) := by omega
  clear hv hn ha h1 h2
  have h0 : Hid (Below w.heap.size w (w.alloc (.cells #[.int .i64 0, .int .i64 0, .string ⟨#[]⟩] 26))) := Lib.hid ((Below.refl _ _).alloc (Nat.le_refl _) _)
  have KN := Lib.hid (known_w ⟨#[61]⟩ true (by decide +kernel))
  go_enter Tryz.func13, Tryz.ntmps13
  go_wp2_with fail
  refine (arity_6 _).mono ?_
  rintro e w' ⟨rfl, rfl⟩
  go_wp2_with fail
  refine (KN.out _).mono ?_
  rintro e w1 ⟨rfl, b1⟩
  have E1 := Lib.hid (h0.out.trans (b1.mono h0.out.size))
  have BLK := Lib.hid ((b1.block w.heap.size (by simp)).trans (heap_alloc_new w (.cells #[.int .i64 0, .int .i64 0, .string ⟨#[]⟩] 26)))
  clear b1
  go_wp2_with fail
  refine (J.out _ E1.out).mono ?_
  rintro e w2 ⟨rfl, b2⟩
  have E2 := Lib.hid (E1.out.trans (b2.mono E1.out.size))
  obtain ⟨⟨_, _, _⟩, ⟨_, _, _⟩⟩ := new3g BLK.out b2
  clear b2
  go_wp2_with fail
  exact bodyPost_ret (v := pairV (v0, 8)) (by simp [results, Tryz.results13, go_sem, *]) rfl ⟨rfl, put3 E2.out⟩
set_option maxHeartbeats 1000000 in
theorem apply_6y (A : Option Addr) (c : Nat) (l : List Vl) (w : World) (hv : ValsAt w A l) (h1 : 2 ≤ l.length) (h2 : l.length ≤ 2) (ha : allInt l = true) :
    Calls Tryz.prog 13 #[.string ⟨#[61]⟩, .slice A l.length c] w fun e w' => e = .returned (pairV (vB (chainB (fun a b => decide (a = b)) (nums l)), 0)) ∧ Below w.heap.size w w' := by
  have J := Lib.hid (fun W (h : Below w.heap.size w W) => numbers_yes A c l W (hv.below h) (by omega) (int_yes ha))
  have HNL := nums_len l
  generalize nums l = ns at *
  obtain ⟨n, hn⟩ : ∃ n, n = l.length := ⟨_, rfl⟩
  rw [← hn] at J h1 h2 HNL ⊢
  have NL := Lib.hid HNL
  have hnI : (n : Int) ≤ 2 := by omega
  have h1I : (2 : Int) ≤ (n : Int) := by omega
  clear hv hn ha HNL h2
  have h0 : Hid (Below w.heap.size w (w.alloc (.cells #[.int .i64 0, .int .i64 0, .string ⟨#[]⟩] 26))) := Lib.hid ((Below.refl _ _).alloc (Nat.le_refl _) _)
  have KN := Lib.hid (known_w ⟨#[61]⟩ true (by decide +kernel))
  go_enter Tryz.func13, Tryz.ntmps13
  go_wp2_with fail
  refine (arity_6 _).mono ?_
  rintro e w' ⟨rfl, rfl⟩
  go_wp2_with fail
  refine (KN.out _).mono ?_
  rintro e w1 ⟨rfl, b1⟩
  have E1 := Lib.hid (h0.out.trans (b1.mono h0.out.size))
  have BLK := Lib.hid ((b1.block w.heap.size (by simp)).trans (heap_alloc_new w (.cells #[.int .i64 0, .int .i64 0, .string ⟨#[]⟩] 26)))
  clear b1
  go_wp2_with fail
  refine (J.out _ E1.out).mono ?_
  rintro e w2 ⟨A', c', rfl, hr, hc, b2⟩
  have E2 := Lib.hid (E1.out.trans (b2.mono E1.out.size))
  have BLK2 := Lib.hid ((b2.block w.heap.size (Array.getElem?_eq_some_iff.1 BLK.out).1).trans BLK.out)
  have hcI : (n : Int) ≤ (c' : Int) := by omega
  have R := Lib.hid (fun W (h : Below w2.heap.size w2 W) => hr.below h)
  clear b2 hr hc
  go_wp2_with fail
  go_loopw [15] (fun i wr => ∃ k : Nat, k + 1 ≤ n ∧ i = .int .i64 ((k : Int) + 1) ∧ Hid (∀ j (h : j + 1 < ns.length), j < k → (fun a b => decide (a = b)) ns[j] ns[j + 1] = true) ∧ Hid (Below w2.heap.size w2 wr)) (fun i _ => n - (intOf i).toNat)
  case atStart => exact ⟨0, by omega, rfl, Lib.hid (fun j _ h => by omega), Lib.hid (Below.refl _ _)⟩
  case round =>
    obtain ⟨k, hk, rfl, hJ, hB⟩ := hrel
    have EB := Lib.hid (E2.out.trans (hB.out.mono E2.out.size))
    have BB := Lib.hid ((hB.out.block w.heap.size (Array.getElem?_eq_some_iff.1 BLK2.out).1).trans BLK2.out)
    by_cases hlt : k + 1 < n
    · have hltI : (k : Int) + 1 < (n : Int) := by omega
      have hlt2 : k + 1 < ns.length := by have := NL.out; omega
      obtain ⟨ad, rfl, d0, d1⟩ := row_pair (R.out _ hB.out) hlt2
      have HNo := Lib.hid (fun (e : (fun a b => decide (a = b)) ns[k] ns[k + 1] = false) => chain_no (p := (fun a b => decide (a = b))) (l := ns) hlt2 e)
      have HYe : Hid ((fun a b => decide (a = b)) ns[k] ns[k + 1] = true → ∀ j (h : j + 1 < ns.length), j < k + 1 → (fun a b => decide (a = b)) ns[j] ns[j + 1] = true) := Lib.hid (fun e j h h2 => by
        by_cases e2 : j = k
        · subst e2; exact e
        · exact hJ.out j h (by omega))
      have HO : Hid (∀ W, Calls Tryz.prog 50 #[.string ⟨#[61]⟩, .int .i64 ns[k], .int .i64 ns[k + 1]] W fun e w' => e = .returned (.bool (decide (ns[k] = ns[k + 1]))) ∧ w' = W) := Lib.hid (fun W => (holds_0 ns[k] ns[k + 1] W).mono fun _ _ h => ⟨h.1, h.2.symm⟩)
      generalize ns[k] = a at *
      generalize ns[k + 1] = b at *
      dsimp only at HNo HYe
      generalize decide (a = b) = q at *
      cases q with
      | true =>
        have HY := Lib.hid (HYe.out rfl)
        clear HNo HYe
        go_wp2_with fail
        go_quiet ((go_at_call 50; exact Calls.quiet_of_same (HO.out _)))
        go_wp2_with fail
        exact ⟨⟨k + 1, by omega, by go_num, HY, Lib.hid (belN hB.out _)⟩, by simp [intOf]; omega⟩
      | false =>
        have HR := Lib.hid (HNo.out rfl)
        clear HNo HYe
        go_wp2_with fail
        go_quiet ((go_at_call 50; exact Calls.quiet_of_same (HO.out _)))
        go_wp2_with fail
        refine (ofBool_c false _).mono ?_
        rintro e w3 ⟨rfl, b3⟩
        have E3 := Lib.hid ((belN EB.out _).trans (b3.mono (Below.size (belN EB.out _))))
        obtain ⟨⟨_, _, _⟩, ⟨_, _, _⟩⟩ := new3g (by exact BB.out) b3
        clear b3
        go_wp2_with fail
        exact bodyPost_ret (v := pairV (vB false, 0)) (by simp [results, Tryz.results13, go_sem, *]) rfl ⟨by rw [HR.out], put3 E3.out⟩
    · obtain hke : k + 1 = n := by omega
      have hkI : (n : Int) ≤ (k : Int) + 1 := by omega
      have HR := Lib.hid (chain_yes (p := (fun a b => decide (a = b))) (l := ns) (fun j h => hJ.out j h (by have := NL.out; omega)))
      clear hke
      go_wp2_with fail
      refine (ofBool_c true _).mono ?_
      rintro e w3 ⟨rfl, b3⟩
      have E3 := Lib.hid ((EB.out).trans (b3.mono (Below.size (EB.out))))
      obtain ⟨⟨_, _, _⟩, ⟨_, _, _⟩⟩ := new3g (BB.out) b3
      clear b3
      go_wp2_with fail
      exact bodyPost_ret (v := pairV (vB true, 0)) (by simp [results, Tryz.results13, go_sem, *]) rfl ⟨by rw [HR.out], put3 E3.out⟩
set_option maxHeartbeats 1000000 in
theorem apply_5n (A : Option Addr) (c : Nat) (l : List Vl) (w : World) (hv : ValsAt w A l) (h1 : 2 ≤ l.length) (h2 : l.length ≤ 2) (ha : allInt l = false) :
    Calls Tryz.prog 13 #[.string ⟨#[60, 62]⟩, .slice A l.length c] w fun e w' => e = .returned (pairV (v0, 8)) ∧ Below w.heap.size w w' := by
  have J := Lib.hid (fun W (h : Below w.heap.size w W) => numbers_no A c l W (hv.below h) (by omega) (int_no ha))
  obtain ⟨n, hn⟩ : ∃ n, n = l.length := ⟨_, rfl⟩
  rw [← hn] at J h1 h2 ⊢
  have hnI : (n : Int) ≤ 2 := by omega
  have h1I : (2 : Int) ≤ (n : Int) := by omega
  clear hv hn ha h1 h2
  have h0 : Hid (Below w.heap.size w (w.alloc (.cells #[.int .i64 0, .int .i64 0, .string ⟨#[]⟩] 26))) := Lib.hid ((Below.refl _ _).alloc (Nat.le_refl _) _)
  have KN := Lib.hid (known_w ⟨#[60, 62]⟩ true (by decide +kernel))
  go_enter Tryz.func13, Tryz.ntmps13
  go_wp2_with fail
  refine (arity_5 _).mono ?_
  rintro e w' ⟨rfl, rfl⟩
  go_wp2_with fail
  refine (KN.out _).mono ?_
  rintro e w1 ⟨rfl, b1⟩
  have E1 := Lib.hid (h0.out.trans (b1.mono h0.out.size))
  have BLK := Lib.hid ((b1.block w.heap.size (by simp)).trans (heap_alloc_new w (.cells #[.int .i64 0, .int .i64 0, .string ⟨#[]⟩] 26)))
  clear b1
  go_wp2_with fail
  refine (J.out _ E1.out).mono ?_
  rintro e w2 ⟨rfl, b2⟩
  have E2 := Lib.hid (E1.out.trans (b2.mono E1.out.size))
  obtain ⟨⟨_, _, _⟩, ⟨_, _, _⟩⟩ := new3g BLK.out b2
  clear b2
  go_wp2_with fail
  exact bodyPost_ret (v := pairV (v0, 8)) (by simp [results, Tryz.results13, go_sem, *]) rfl ⟨rfl, put3 E2.out⟩
set_option maxHeartbeats 1000000 in
theorem apply_5y (A : Option Addr) (c : Nat) (l : List Vl) (w : World) (hv : ValsAt w A l) (h1 : 2 ≤ l.length) (h2 : l.length ≤ 2) (ha : allInt l = true) :
    Calls Tryz.prog 13 #[.string ⟨#[60, 62]⟩, .slice A l.length c] w fun e w' => e = .returned (pairV (vB (chainB (fun a b => decide (a ≠ b)) (nums l)), 0)) ∧ Below w.heap.size w w' := by
  have J := Lib.hid (fun W (h : Below w.heap.size w W) => numbers_yes A c l W (hv.below h) (by omega) (int_yes ha))
  have HNL := nums_len l
  generalize nums l = ns at *
  obtain ⟨n, hn⟩ : ∃ n, n = l.length := ⟨_, rfl⟩
  rw [← hn] at J h1 h2 HNL ⊢
  have NL := Lib.hid HNL
  have hnI : (n : Int) ≤ 2 := by omega
  have h1I : (2 : Int) ≤ (n : Int) := by omega
  clear hv hn ha HNL h2
  have h0 : Hid (Below w.heap.size w (w.alloc (.cells #[.int .i64 0, .int .i64 0, .string ⟨#[]⟩] 26))) := Lib.hid ((Below.refl _ _).alloc (Nat.le_refl _) _)
  have KN := Lib.hid (known_w ⟨#[60, 62]⟩ true (by decide +kernel))
  go_enter Tryz.func13, Tryz.ntmps13
  go_wp2_with fail
  refine (arity_5 _).mono ?_
  rintro e w' ⟨rfl, rfl⟩
  go_wp2_with fail
  refine (KN.out _).mono ?_
  rintro e w1 ⟨rfl, b1⟩
  have E1 := Lib.hid (h0.out.trans (b1.mono h0.out.size))
  have BLK := Lib.hid ((b1.block w.heap.size (by simp)).trans (heap_alloc_new w (.cells #[.int .i64 0, .int .i64 0, .string ⟨#[]⟩] 26)))
  clear b1
  go_wp2_with fail
  refine (J.out _ E1.out).mono ?_
  rintro e w2 ⟨A', c', rfl, hr, hc, b2⟩
  have E2 := Lib.hid (E1.out.trans (b2.mono E1.out.size))
  have BLK2 := Lib.hid ((b2.block w.heap.size (Array.getElem?_eq_some_iff.1 BLK.out).1).trans BLK.out)
  have hcI : (n : Int) ≤ (c' : Int) := by omega
  have R := Lib.hid (fun W (h : Below w2.heap.size w2 W) => hr.below h)
  clear b2 hr hc
  go_wp2_with fail
  go_loopw [15] (fun i wr => ∃ k : Nat, k + 1 ≤ n ∧ i = .int .i64 ((k : Int) + 1) ∧ Hid (∀ j (h : j + 1 < ns.length), j < k → (fun a b => decide (a ≠ b)) ns[j] ns[j + 1] = true) ∧ Hid (Below w2.heap.size w2 wr)) (fun i _ => n - (intOf i).toNat)
  case atStart => exact ⟨0, by omega, rfl, Lib.hid (fun j _ h => by omega), Lib.hid (Below.refl _ _)⟩
  case round =>
    obtain ⟨k, hk, rfl, hJ, hB⟩ := hrel
    have EB := Lib.hid (E2.out.trans (hB.out.mono E2.out.size))
    have BB := Lib.hid ((hB.out.block w.heap.size (Array.getElem?_eq_some_iff.1 BLK2.out).1).trans BLK2.out)
    by_cases hlt : k + 1 < n
    · have hltI : (k : Int) + 1 < (n : Int) := by omega
      have hlt2 : k + 1 < ns.length := by have := NL.out; omega
      obtain ⟨ad, rfl, d0, d1⟩ := row_pair (R.out _ hB.out) hlt2
      have HNo := Lib.hid (fun (e : (fun a b => decide (a ≠ b)) ns[k] ns[k + 1] = false) => chain_no (p := (fun a b => decide (a ≠ b))) (l := ns) hlt2 e)
      have HYe : Hid ((fun a b => decide (a ≠ b)) ns[k] ns[k + 1] = true → ∀ j (h : j + 1 < ns.length), j < k + 1 → (fun a b => decide (a ≠ b)) ns[j] ns[j + 1] = true) := Lib.hid (fun e j h h2 => by
        by_cases e2 : j = k
        · subst e2; exact e
        · exact hJ.out j h (by omega))
      have HO : Hid (∀ W, Calls Tryz.prog 50 #[.string ⟨#[60, 62]⟩, .int .i64 ns[k], .int .i64 ns[k + 1]] W fun e w' => e = .returned (.bool (decide (ns[k] ≠ ns[k + 1]))) ∧ w' = W) := Lib.hid (fun W => (holds_1 ns[k] ns[k + 1] W).mono fun _ _ h => ⟨h.1, h.2.symm⟩)
      generalize ns[k] = a at *
      generalize ns[k + 1] = b at *
      dsimp only at HNo HYe
      generalize decide (a ≠ b) = q at *
      cases q with
      | true =>
        have HY := Lib.hid (HYe.out rfl)
        clear HNo HYe
        go_wp2_with fail
        go_quiet ((go_at_call 50; exact Calls.quiet_of_same (HO.out _)))
        go_wp2_with fail
        exact ⟨⟨k + 1, by omega, by go_num, HY, Lib.hid (belN hB.out _)⟩, by simp [intOf]; omega⟩
      | false =>
        have HR := Lib.hid (HNo.out rfl)
        clear HNo HYe
        go_wp2_with fail
        go_quiet ((go_at_call 50; exact Calls.quiet_of_same (HO.out _)))
        go_wp2_with fail
        refine (ofBool_c false _).mono ?_
        rintro e w3 ⟨rfl, b3⟩
        have E3 := Lib.hid ((belN EB.out _).trans (b3.mono (Below.size (belN EB.out _))))
        obtain ⟨⟨_, _, _⟩, ⟨_, _, _⟩⟩ := new3g (by exact BB.out) b3
        clear b3
        go_wp2_with fail
        exact bodyPost_ret (v := pairV (vB false, 0)) (by simp [results, Tryz.results13, go_sem, *]) rfl ⟨by rw [HR.out], put3 E3.out⟩
    · obtain hke : k + 1 = n := by omega
      have hkI : (n : Int) ≤ (k : Int) + 1 := by omega
      have HR := Lib.hid (chain_yes (p := (fun a b => decide (a ≠ b))) (l := ns) (fun j h => hJ.out j h (by have := NL.out; omega)))
      clear hke
      go_wp2_with fail
      refine (ofBool_c true _).mono ?_
      rintro e w3 ⟨rfl, b3⟩
      have E3 := Lib.hid ((EB.out).trans (b3.mono (Below.size (EB.out))))
      obtain ⟨⟨_, _, _⟩, ⟨_, _, _⟩⟩ := new3g (BB.out) b3
      clear b3
      go_wp2_with fail
      exact bodyPost_ret (v := pairV (vB true, 0)) (by simp [results, Tryz.results13, go_sem, *]) rfl ⟨by rw [HR.out], put3 E3.out⟩
set_option maxHeartbeats 1000000 in
theorem apply_3n (A : Option Addr) (c : Nat) (l : List Vl) (w : World) (hv : ValsAt w A l) (h1 : 2 ≤ l.length) (hl : l.length ≤ 1000000) (ha : allInt l = false) :
    Calls Tryz.prog 13 #[.string ⟨#[60]⟩, .slice A l.length c] w fun e w' => e = .returned (pairV (v0, 8)) ∧ Below w.heap.size w w' := by
  have J := Lib.hid (fun W (h : Below w.heap.size w W) => numbers_no A c l W (hv.below h) (by omega) (int_no ha))
  obtain ⟨n, hn⟩ : ∃ n, n = l.length := ⟨_, rfl⟩
  rw [← hn] at J h1 hl ⊢
  have hnI : (n : Int) ≤ 1000000 := by omega
  have h1I : (2 : Int) ≤ (n : Int) := by omega
  clear hv hn ha h1 hl
  have h0 : Hid (Below w.heap.size w (w.alloc (.cells #[.int .i64 0, .int .i64 0, .string ⟨#[]⟩] 26))) := Lib.hid ((Below.refl _ _).alloc (Nat.le_refl _) _)
  have KN := Lib.hid (known_w ⟨#[60]⟩ true (by decide +kernel))
  go_enter Tryz.func13, Tryz.ntmps13
  go_wp2_with fail
  refine (arity_3 _).mono ?_
  rintro e w' ⟨rfl, rfl⟩
  go_wp2_with fail
  refine (KN.out _).mono ?_
  rintro e w1 ⟨rfl, b1⟩
  have E1 := Lib.hid (h0.out.trans (b1.mono h0.out.size))
  have BLK := Lib.hid ((b1.block w.heap.size (by simp)).trans (heap_alloc_new w (.cells #[.int .i64 0, .int .i64 0, .string ⟨#[]⟩] 26)))
  clear b1
  go_wp2_with fail
  refine (J.out _ E1.out).mono ?_
  rintro e w2 ⟨rfl, b2⟩
  have E2 := Lib.hid (E1.out.trans (b2.mono E1.out.size))
  obtain ⟨⟨_, _, _⟩, ⟨_, _, _⟩⟩ := new3g BLK.out b2
  clear b2
  go_wp2_with fail
  exact bodyPost_ret (v := pairV (v0, 8)) (by simp [results, Tryz.results13, go_sem, *]) rfl ⟨rfl, put3 E2.out⟩
set_option maxHeartbeats 1000000 in
theorem apply_3y (A : Option Addr) (c : Nat) (l : List Vl) (w : World) (hv : ValsAt w A l) (h1 : 2 ≤ l.length) (hl : l.length ≤ 1000000) (ha : allInt l = true) :
    Calls Tryz.prog 13 #[.string ⟨#[60]⟩, .slice A l.length c] w fun e w' => e = .returned (pairV (vB (chainB (fun a b => decide (a < b)) (nums l)), 0)) ∧ Below w.heap.size w w' := by
  have J := Lib.hid (fun W (h : Below w.heap.size w W) => numbers_yes A c l W (hv.below h) (by omega) (int_yes ha))
  have HNL := nums_len l
  generalize nums l = ns at *
  obtain ⟨n, hn⟩ : ∃ n, n = l.length := ⟨_, rfl⟩
  rw [← hn] at J h1 hl HNL ⊢
  have NL := Lib.hid HNL
  have hnI : (n : Int) ≤ 1000000 := by omega
  have h1I : (2 : Int) ≤ (n : Int) := by omega
  clear hv hn ha HNL hl
  have h0 : Hid (Below w.heap.size w (w.alloc (.cells #[.int .i64 0, .int .i64 0, .string ⟨#[]⟩] 26))) := Lib.hid ((Below.refl _ _).alloc (Nat.le_refl _) _)
  have KN := Lib.hid (known_w ⟨#[60]⟩ true (by decide +kernel))
  go_enter Tryz.func13, Tryz.ntmps13
  go_wp2_with fail
  refine (arity_3 _).mono ?_
  rintro e w' ⟨rfl, rfl⟩
  go_wp2_with fail
  refine (KN.out _).mono ?_
  rintro e w1 ⟨rfl, b1⟩
  have E1 := Lib.hid (h0.out.trans (b1.mono h0.out.size))
  have BLK := Lib.hid ((b1.block w.heap.size (by simp)).trans (heap_alloc_new w (.cells #[.int .i64 0, .int .i64 0, .string ⟨#[]⟩] 26)))
  clear b1
  go_wp2_with fail
  refine (J.out _ E1.out).mono ?_
  rintro e w2 ⟨A', c', rfl, hr, hc, b2⟩
  have E2 := Lib.hid (E1.out.trans (b2.mono E1.out.size))
  have BLK2 := Lib.hid ((b2.block w.heap.size (Array.getElem?_eq_some_iff.1 BLK.out).1).trans BLK.out)
  have hcI : (n : Int) ≤ (c' : Int) := by omega
  have R := Lib.hid (fun W (h : Below w2.heap.size w2 W) => hr.below h)
  clear b2 hr hc
  go_wp2_with fail
  go_loopw [15] (fun i wr => ∃ k : Nat, k + 1 ≤ n ∧ i = .int .i64 ((k : Int) + 1) ∧ Hid (∀ j (h : j + 1 < ns.length), j < k → (fun a b => decide (a < b)) ns[j] ns[j + 1] = true) ∧ Hid (Below w2.heap.size w2 wr)) (fun i _ => n - (intOf i).toNat)
  case atStart => exact ⟨0, by omega, rfl, Lib.hid (fun j _ h => by omega), Lib.hid (Below.refl _ _)⟩
  case round =>
    obtain ⟨k, hk, rfl, hJ, hB⟩ := hrel
    have EB := Lib.hid (E2.out.trans (hB.out.mono E2.out.size))
    have BB := Lib.hid ((hB.out.block w.heap.size (Array.getElem?_eq_some_iff.1 BLK2.out).1).trans BLK2.out)
    by_cases hlt : k + 1 < n
    · have hltI : (k : Int) + 1 < (n : Int) := by omega
      have hlt2 : k + 1 < ns.length := by have := NL.out; omega
      obtain ⟨ad, rfl, d0, d1⟩ := row_pair (R.out _ hB.out) hlt2
      have HNo := Lib.hid (fun (e : (fun a b => decide (a < b)) ns[k] ns[k + 1] = false) => chain_no (p := (fun a b => decide (a < b))) (l := ns) hlt2 e)
      have HYe : Hid ((fun a b => decide (a < b)) ns[k] ns[k + 1] = true → ∀ j (h : j + 1 < ns.length), j < k + 1 → (fun a b => decide (a < b)) ns[j] ns[j + 1] = true) := Lib.hid (fun e j h h2 => by
        by_cases e2 : j = k
        · subst e2; exact e
        · exact hJ.out j h (by omega))
      have HO : Hid (∀ W, Calls Tryz.prog 50 #[.string ⟨#[60]⟩, .int .i64 ns[k], .int .i64 ns[k + 1]] W fun e w' => e = .returned (.bool (decide (ns[k] < ns[k + 1]))) ∧ w' = W) := Lib.hid (fun W => (holds_2 ns[k] ns[k + 1] W).mono fun _ _ h => ⟨h.1, h.2.symm⟩)
      generalize ns[k] = a at *
      generalize ns[k + 1] = b at *
      dsimp only at HNo HYe
      generalize decide (a < b) = q at *
      cases q with
      | true =>
        have HY := Lib.hid (HYe.out rfl)
        clear HNo HYe
        go_wp2_with fail
        go_quiet ((go_at_call 50; exact Calls.quiet_of_same (HO.out _)))
        go_wp2_with fail
        exact ⟨⟨k + 1, by omega, by go_num, HY, Lib.hid (belN hB.out _)⟩, by simp [intOf]; omega⟩
      | false =>
        have HR := Lib.hid (HNo.out rfl)
        clear HNo HYe
        go_wp2_with fail
        go_quiet ((go_at_call 50; exact Calls.quiet_of_same (HO.out _)))
        go_wp2_with fail
        refine (ofBool_c false _).mono ?_
        rintro e w3 ⟨rfl, b3⟩
        have E3 := Lib.hid ((belN EB.out _).trans (b3.mono (Below.size (belN EB.out _))))
        obtain ⟨⟨_, _, _⟩, ⟨_, _, _⟩⟩ := new3g (by exact BB.out) b3
        clear b3
        go_wp2_with fail
        exact bodyPost_ret (v := pairV (vB false, 0)) (by simp [results, Tryz.results13, go_sem, *]) rfl ⟨by rw [HR.out], put3 E3.out⟩
    · obtain hke : k + 1 = n := by omega
      have hkI : (n : Int) ≤ (k : Int) + 1 := by omega
      have HR := Lib.hid (chain_yes (p := (fun a b => decide (a < b))) (l := ns) (fun j h => hJ.out j h (by have := NL.out; omega)))
      clear hke
      go_wp2_with fail
      refine (ofBool_c true _).mono ?_
      rintro e w3 ⟨rfl, b3⟩
      have E3 := Lib.hid ((EB.out).trans (b3.mono (Below.size (EB.out))))
      obtain ⟨⟨_, _, _⟩, ⟨_, _, _⟩⟩ := new3g (BB.out) b3
      clear b3
      go_wp2_with fail
      exact bodyPost_ret (v := pairV (vB true, 0)) (by simp [results, Tryz.results13, go_sem, *]) rfl ⟨by rw [HR.out], put3 E3.out⟩
set_option maxHeartbeats 1000000 in
theorem apply_4n (A : Option Addr) (c : Nat) (l : List Vl) (w : World) (hv : ValsAt w A l) (h1 : 2 ≤ l.length) (hl : l.length ≤ 1000000) (ha : allInt l = false) :
    Calls Tryz.prog 13 #[.string ⟨#[60, 61]⟩, .slice A l.length c] w fun e w' => e = .returned (pairV (v0, 8)) ∧ Below w.heap.size w w' := by
  have J := Lib.hid (fun W (h : Below w.heap.size w W) => numbers_no A c l W (hv.below h) (by omega) (int_no ha))
  obtain ⟨n, hn⟩ : ∃ n, n = l.length := ⟨_, rfl⟩
  rw [← hn] at J h1 hl ⊢
  have hnI : (n : Int) ≤ 1000000 := by omega
  have h1I : (2 : Int) ≤ (n : Int) := by omega
  clear hv hn ha h1 hl
  have h0 : Hid (Below w.heap.size w (w.alloc (.cells #[.int .i64 0, .int .i64 0, .string ⟨#[]⟩] 26))) := Lib.hid ((Below.refl _ _).alloc (Nat.le_refl _) _)
  have KN := Lib.hid (known_w ⟨#[60, 61]⟩ true (by decide +kernel))
  go_enter Tryz.func13, Tryz.ntmps13
  go_wp2_with fail
  refine (arity_4 _).mono ?_
  rintro e w' ⟨rfl, rfl⟩
  go_wp2_with fail
  refine (KN.out _).mono ?_
  rintro e w1 ⟨rfl, b1⟩
  have E1 := Lib.hid (h0.out.trans (b1.mono h0.out.size))
  have BLK := Lib.hid ((b1.block w.heap.size (by simp)).trans (heap_alloc_new w (.cells #[.int .i64 0, .int .i64 0, .string ⟨#[]⟩] 26)))
  clear b1
  go_wp2_with fail
  refine (J.out _ E1.out).mono ?_
  rintro e w2 ⟨rfl, b2⟩
  have E2 := Lib.hid (E1.out.trans (b2.mono E1.out.size))
  obtain ⟨⟨_, _, _⟩, ⟨_, _, _⟩⟩ := new3g BLK.out b2
  clear b2
  go_wp2_with fail
  exact bodyPost_ret (v := pairV (v0, 8)) (by simp [results, Tryz.results13, go_sem, *]) rfl ⟨rfl, put3 E2.out⟩
set_option maxHeartbeats 1000000 in
theorem apply_4y (A : Option Addr) (c : Nat) (l : List Vl) (w : World) (hv : ValsAt w A l) (h1 : 2 ≤ l.length) (hl : l.length ≤ 1000000) (ha : allInt l = true) :
    Calls Tryz.prog 13 #[.string ⟨#[60, 61]⟩, .slice A l.length c] w fun e w' => e = .returned (pairV (vB (chainB (fun a b => decide (a ≤ b)) (nums l)), 0)) ∧ Below w.heap.size w w' := by
  have J := Lib.hid (fun W (h : Below w.heap.size w W) => numbers_yes A c l W (hv.below h) (by omega) (int_yes ha))
  have HNL := nums_len l
  generalize nums l = ns at *
  obtain ⟨n, hn⟩ : ∃ n, n = l.length := ⟨_, rfl⟩
  rw [← hn] at J h1 hl HNL ⊢
  have NL := Lib.hid HNL
  have hnI : (n : Int) ≤ 1000000 := by omega
  have h1I : (2 : Int) ≤ (n : Int) := by omega
  clear hv hn ha HNL hl
  have h0 : Hid (Below w.heap.size w (w.alloc (.cells #[.int .i64 0, .int .i64 0, .string ⟨#[]⟩] 26))) := Lib.hid ((Below.refl _ _).alloc (Nat.le_refl _) _)
  have KN := Lib.hid (known_w ⟨#[60, 61]⟩ true (by decide +kernel))
  go_enter Tryz.func13, Tryz.ntmps13
  go_wp2_with fail
  refine (arity_4 _).mono ?_
  rintro e w' ⟨rfl, rfl⟩
  go_wp2_with fail
  refine (KN.out _).mono ?_
  rintro e w1 ⟨rfl, b1⟩
  have E1 := Lib.hid (h0.out.trans (b1.mono h0.out.size))
  have BLK := Lib.hid ((b1.block w.heap.size (by simp)).trans (heap_alloc_new w (.cells #[.int .i64 0, .int .i64 0, .string ⟨#[]⟩] 26)))
  clear b1
  go_wp2_with fail
  refine (J.out _ E1.out).mono ?_
  rintro e w2 ⟨A', c', rfl, hr, hc, b2⟩
  have E2 := Lib.hid (E1.out.trans (b2.mono E1.out.size))
  have BLK2 := Lib.hid ((b2.block w.heap.size (Array.getElem?_eq_some_iff.1 BLK.out).1).trans BLK.out)
  have hcI : (n : Int) ≤ (c' : Int) := by omega
  have R := Lib.hid (fun W (h : Below w2.heap.size w2 W) => hr.below h)
  clear b2 hr hc
  go_wp2_with fail
  go_loopw [15] (fun i wr => ∃ k : Nat, k + 1 ≤ n ∧ i = .int .i64 ((k : Int) + 1) ∧ Hid (∀ j (h : j + 1 < ns.length), j < k → (fun a b => decide (a ≤ b)) ns[j] ns[j + 1] = true) ∧ Hid (Below w2.heap.size w2 wr)) (fun i _ => n - (intOf i).toNat)
  case atStart => exact ⟨0, by omega, rfl, Lib.hid (fun j _ h => by omega), Lib.hid (Below.refl _ _)⟩
  case round =>
    obtain ⟨k, hk, rfl, hJ, hB⟩ := hrel
    have EB := Lib.hid (E2.out.trans (hB.out.mono E2.out.size))
    have BB := Lib.hid ((hB.out.block w.heap.size (Array.getElem?_eq_some_iff.1 BLK2.out).1).trans BLK2.out)
    by_cases hlt : k + 1 < n
    · have hltI : (k : Int) + 1 < (n : Int) := by omega
      have hlt2 : k + 1 < ns.length := by have := NL.out; omega
      obtain ⟨ad, rfl, d0, d1⟩ := row_pair (R.out _ hB.out) hlt2
      have HNo := Lib.hid (fun (e : (fun a b => decide (a ≤ b)) ns[k] ns[k + 1] = false) => chain_no (p := (fun a b => decide (a ≤ b))) (l := ns) hlt2 e)
      have HYe : Hid ((fun a b => decide (a ≤ b)) ns[k] ns[k + 1] = true → ∀ j (h : j + 1 < ns.length), j < k + 1 → (fun a b => decide (a ≤ b)) ns[j] ns[j + 1] = true) := Lib.hid (fun e j h h2 => by
        by_cases e2 : j = k
        · subst e2; exact e
        · exact hJ.out j h (by omega))
      have HO : Hid (∀ W, Calls Tryz.prog 50 #[.string ⟨#[60, 61]⟩, .int .i64 ns[k], .int .i64 ns[k + 1]] W fun e w' => e = .returned (.bool (decide (ns[k] ≤ ns[k + 1]))) ∧ w' = W) := Lib.hid (fun W => (holds_3 ns[k] ns[k + 1] W).mono fun _ _ h => ⟨h.1, h.2.symm⟩)
      generalize ns[k] = a at *
      generalize ns[k + 1] = b at *
      dsimp only at HNo HYe
      generalize decide (a ≤ b) = q at *
      cases q with
      | true =>
        have HY := Lib.hid (HYe.out rfl)
        clear HNo HYe
        go_wp2_with fail
        go_quiet ((go_at_call 50; exact Calls.quiet_of_same (HO.out _)))
        go_wp2_with fail
        exact ⟨⟨k + 1, by omega, by go_num, HY, Lib.hid (belN hB.out _)⟩, by simp [intOf]; omega⟩
      | false =>
        have HR := Lib.hid (HNo.out rfl)
        clear HNo HYe
        go_wp2_with fail
        go_quiet ((go_at_call 50; exact Calls.quiet_of_same (HO.out _)))
        go_wp2_with fail
        refine (ofBool_c false _).mono ?_
        rintro e w3 ⟨rfl, b3⟩
        have E3 := Lib.hid ((belN EB.out _).trans (b3.mono (Below.size (belN EB.out _))))
        obtain ⟨⟨_, _, _⟩, ⟨_, _, _⟩⟩ := new3g (by exact BB.out) b3
        clear b3
        go_wp2_with fail
        exact bodyPost_ret (v := pairV (vB false, 0)) (by simp [results, Tryz.results13, go_sem, *]) rfl ⟨by rw [HR.out], put3 E3.out⟩
    · obtain hke : k + 1 = n := by omega
      have hkI : (n : Int) ≤ (k : Int) + 1 := by omega
      have HR := Lib.hid (chain_yes (p := (fun a b => decide (a ≤ b))) (l := ns) (fun j h => hJ.out j h (by have := NL.out; omega)))
      clear hke
      go_wp2_with fail
      refine (ofBool_c true _).mono ?_
      rintro e w3 ⟨rfl, b3⟩
      have E3 := Lib.hid ((EB.out).trans (b3.mono (Below.size (EB.out))))
      obtain ⟨⟨_, _, _⟩, ⟨_, _, _⟩⟩ := new3g (BB.out) b3
      clear b3
      go_wp2_with fail
      exact bodyPost_ret (v := pairV (vB true, 0)) (by simp [results, Tryz.results13, go_sem, *]) rfl ⟨by rw [HR.out], put3 E3.out⟩
set_option maxHeartbeats 1000000 in
theorem apply_7n (A : Option Addr) (c : Nat) (l : List Vl) (w : World) (hv : ValsAt w A l) (h1 : 2 ≤ l.length) (hl : l.length ≤ 1000000) (ha : allInt l = false) :
    Calls Tryz.prog 13 #[.string ⟨#[62]⟩, .slice A l.length c] w fun e w' => e = .returned (pairV (v0, 8)) ∧ Below w.heap.size w w' := by
  have J := Lib.hid (fun W (h : Below w.heap.size w W) => numbers_no A c l W (hv.below h) (by omega) (int_no ha))
  obtain ⟨n, hn⟩ : ∃ n, n = l.length := ⟨_, rfl⟩
  rw [← hn] at J h1 hl ⊢
  have hnI : (n : Int) ≤ 1000000 := by omega
  have h1I : (2 : Int) ≤ (n : Int) := by omega
  clear hv hn ha h1 hl
  have h0 : Hid (Below w.heap.size w (w.alloc (.cells #[.int .i64 0, .int .i64 0, .string ⟨#[]⟩] 26))) := Lib.hid ((Below.refl _ _).alloc (Nat.le_refl _) _)
  have KN := Lib.hid (known_w ⟨#[62]⟩ true (by decide +kernel))
  go_enter Tryz.func13, Tryz.ntmps13
  go_wp2_with fail
  refine (arity_7 _).mono ?_
  rintro e w' ⟨rfl, rfl⟩
  go_wp2_with fail
  refine (KN.out _).mono ?_
  rintro e w1 ⟨rfl, b1⟩
  have E1 := Lib.hid (h0.out.trans (b1.mono h0.out.size))
  have BLK := Lib.hid ((b1.block w.heap.size (by simp)).trans (heap_alloc_new w (.cells #[.int .i64 0, .int .i64 0, .string ⟨#[]⟩] 26)))
  clear b1
  go_wp2_with fail
  refine (J.out _ E1.out).mono ?_
  rintro e w2 ⟨rfl, b2⟩
  have E2 := Lib.hid (E1.out.trans (b2.mono E1.out.size))
  obtain ⟨⟨_, _, _⟩, ⟨_, _, _⟩⟩ := new3g BLK.out b2
  clear b2
  go_wp2_with fail
  exact bodyPost_ret (v := pairV (v0, 8)) (by simp [results, Tryz.results13, go_sem, *]) rfl ⟨rfl, put3 E2.out⟩
set_option maxHeartbeats 1000000 in
theorem apply_7y (A : Option Addr) (c : Nat) (l : List Vl) (w : World) (hv : ValsAt w A l) (h1 : 2 ≤ l.length) (hl : l.length ≤ 1000000) (ha : allInt l = true) :
    Calls Tryz.prog 13 #[.string ⟨#[62]⟩, .slice A l.length c] w fun e w' => e = .returned (pairV (vB (chainB (fun a b => decide (b < a)) (nums l)), 0)) ∧ Below w.heap.size w w' := by
  have J := Lib.hid (fun W (h : Below w.heap.size w W) => numbers_yes A c l W (hv.below h) (by omega) (int_yes ha))
  have HNL := nums_len l
  generalize nums l = ns at *
  obtain ⟨n, hn⟩ : ∃ n, n = l.length := ⟨_, rfl⟩
  rw [← hn] at J h1 hl HNL ⊢
  have NL := Lib.hid HNL
  have hnI : (n : Int) ≤ 1000000 := by omega
  have h1I : (2 : Int) ≤ (n : Int) := by omega
  clear hv hn ha HNL hl
  have h0 : Hid (Below w.heap.size w (w.alloc (.cells #[.int .i64 0, .int .i64 0, .string ⟨#[]⟩] 26))) := Lib.hid ((Below.refl _ _).alloc (Nat.le_refl _) _)
  have KN := Lib.hid (known_w ⟨#[62]⟩ true (by decide +kernel))
  go_enter Tryz.func13, Tryz.ntmps13
  go_wp2_with fail
  refine (arity_7 _).mono ?_
  rintro e w' ⟨rfl, rfl⟩
  go_wp2_with fail
  refine (KN.out _).mono ?_
  rintro e w1 ⟨rfl, b1⟩
  have E1 := Lib.hid (h0.out.trans (b1.mono h0.out.size))
  have BLK := Lib.hid ((b1.block w.heap.size (by simp)).trans (heap_alloc_new w (.cells #[.int .i64 0, .int .i64 0, .string ⟨#[]⟩] 26)))
  clear b1
  go_wp2_with fail
  refine (J.out _ E1.out).mono ?_
  rintro e w2 ⟨A', c', rfl, hr, hc, b2⟩
  have E2 := Lib.hid (E1.out.trans (b2.mono E1.out.size))
  have BLK2 := Lib.hid ((b2.block w.heap.size (Array.getElem?_eq_some_iff.1 BLK.out).1).trans BLK.out)
  have hcI : (n : Int) ≤ (c' : Int) := by omega
  have R := Lib.hid (fun W (h : Below w2.heap.size w2 W) => hr.below h)
  clear b2 hr hc
  go_wp2_with fail
  go_loopw [15] (fun i wr => ∃ k : Nat, k + 1 ≤ n ∧ i = .int .i64 ((k : Int) + 1) ∧ Hid (∀ j (h : j + 1 < ns.length), j < k → (fun a b => decide (b < a)) ns[j] ns[j + 1] = true) ∧ Hid (Below w2.heap.size w2 wr)) (fun i _ => n - (intOf i).toNat)
  case atStart => exact ⟨0, by omega, rfl, Lib.hid (fun j _ h => by omega), Lib.hid (Below.refl _ _)⟩
  case round =>
    obtain ⟨k, hk, rfl, hJ, hB⟩ := hrel
    have EB := Lib.hid (E2.out.trans (hB.out.mono E2.out.size))
    have BB := Lib.hid ((hB.out.block w.heap.size (Array.getElem?_eq_some_iff.1 BLK2.out).1).trans BLK2.out)
    by_cases hlt : k + 1 < n
    · have hltI : (k : Int) + 1 < (n : Int) := by omega
      have hlt2 : k + 1 < ns.length := by have := NL.out; omega
      obtain ⟨ad, rfl, d0, d1⟩ := row_pair (R.out _ hB.out) hlt2
      have HNo := Lib.hid (fun (e : (fun a b => decide (b < a)) ns[k] ns[k + 1] = false) => chain_no (p := (fun a b => decide (b < a))) (l := ns) hlt2 e)
      have HYe : Hid ((fun a b => decide (b < a)) ns[k] ns[k + 1] = true → ∀ j (h : j + 1 < ns.length), j < k + 1 → (fun a b => decide (b < a)) ns[j] ns[j + 1] = true) := Lib.hid (fun e j h h2 => by
        by_cases e2 : j = k
        · subst e2; exact e
        · exact hJ.out j h (by omega))
      have HO : Hid (∀ W, Calls Tryz.prog 50 #[.string ⟨#[62]⟩, .int .i64 ns[k], .int .i64 ns[k + 1]] W fun e w' => e = .returned (.bool (decide (ns[k + 1] < ns[k]))) ∧ w' = W) := Lib.hid (fun W => (holds_4 ns[k] ns[k + 1] W).mono fun _ _ h => ⟨h.1, h.2.symm⟩)
      generalize ns[k] = a at *
      generalize ns[k + 1] = b at *
      dsimp only at HNo HYe
      generalize decide (b < a) = q at *
      cases q with
      | true =>
        have HY := Lib.hid (HYe.out rfl)
        clear HNo HYe
        go_wp2_with fail
        go_quiet ((go_at_call 50; exact Calls.quiet_of_same (HO.out _)))
        go_wp2_with fail
        exact ⟨⟨k + 1, by omega, by go_num, HY, Lib.hid (belN hB.out _)⟩, by simp [intOf]; omega⟩
      | false =>
        have HR := Lib.hid (HNo.out rfl)
        clear HNo HYe
        go_wp2_with fail
        go_quiet ((go_at_call 50; exact Calls.quiet_of_same (HO.out _)))
        go_wp2_with fail
        refine (ofBool_c false _).mono ?_
        rintro e w3 ⟨rfl, b3⟩
        have E3 := Lib.hid ((belN EB.out _).trans (b3.mono (Below.size (belN EB.out _))))
        obtain ⟨⟨_, _, _⟩, ⟨_, _, _⟩⟩ := new3g (by exact BB.out) b3
        clear b3
        go_wp2_with fail
        exact bodyPost_ret (v := pairV (vB false, 0)) (by simp [results, Tryz.results13, go_sem, *]) rfl ⟨by rw [HR.out], put3 E3.out⟩
    · obtain hke : k + 1 = n := by omega
      have hkI : (n : Int) ≤ (k : Int) + 1 := by omega
      have HR := Lib.hid (chain_yes (p := (fun a b => decide (b < a))) (l := ns) (fun j h => hJ.out j h (by have := NL.out; omega)))
      clear hke
      go_wp2_with fail
      refine (ofBool_c true _).mono ?_
      rintro e w3 ⟨rfl, b3⟩
      have E3 := Lib.hid ((EB.out).trans (b3.mono (Below.size (EB.out))))
      obtain ⟨⟨_, _, _⟩, ⟨_, _, _⟩⟩ := new3g (BB.out) b3
      clear b3
      go_wp2_with fail
      exact bodyPost_ret (v := pairV (vB true, 0)) (by simp [results, Tryz.results13, go_sem, *]) rfl ⟨by rw [HR.out], put3 E3.out⟩
set_option maxHeartbeats 1000000 in
theorem apply_8n (A : Option Addr) (c : Nat) (l : List Vl) (w : World) (hv : ValsAt w A l) (h1 : 2 ≤ l.length) (hl : l.length ≤ 1000000) (ha : allInt l = false) :
    Calls Tryz.prog 13 #[.string ⟨#[62, 61]⟩, .slice A l.length c] w fun e w' => e = .returned (pairV (v0, 8)) ∧ Below w.heap.size w w' := by
  have J := Lib.hid (fun W (h : Below w.heap.size w W) => numbers_no A c l W (hv.below h) (by omega) (int_no ha))
  obtain ⟨n, hn⟩ : ∃ n, n = l.length := ⟨_, rfl⟩
  rw [← hn] at J h1 hl ⊢
  have hnI : (n : Int) ≤ 1000000 := by omega
  have h1I : (2 : Int) ≤ (n : Int) := by omega
  clear hv hn ha h1 hl
  have h0 : Hid (Below w.heap.size w (w.alloc (.cells #[.int .i64 0, .int .i64 0, .string ⟨#[]⟩] 26))) := Lib.hid ((Below.refl _ _).alloc (Nat.le_refl _) _)
  have KN := Lib.hid (known_w ⟨#[62, 61]⟩ true (by decide +kernel))
  go_enter Tryz.func13, Tryz.ntmps13
  go_wp2_with fail
  refine (arity_8 _).mono ?_
  rintro e w' ⟨rfl, rfl⟩
  go_wp2_with fail
  refine (KN.out _).mono ?_
  rintro e w1 ⟨rfl, b1⟩
  have E1 := Lib.hid (h0.out.trans (b1.mono h0.out.size))
  have BLK := Lib.hid ((b1.block w.heap.size (by simp)).trans (heap_alloc_new w (.cells #[.int .i64 0, .int .i64 0, .string ⟨#[]⟩] 26)))
  clear b1
  go_wp2_with fail
  refine (J.out _ E1.out).mono ?_
  rintro e w2 ⟨rfl, b2⟩
  have E2 := Lib.hid (E1.out.trans (b2.mono E1.out.size))
  obtain ⟨⟨_, _, _⟩, ⟨_, _, _⟩⟩ := new3g BLK.out b2
  clear b2
  go_wp2_with fail
  exact bodyPost_ret (v := pairV (v0, 8)) (by simp [results, Tryz.results13, go_sem, *]) rfl ⟨rfl, put3 E2.out⟩
set_option maxHeartbeats 1000000 in
theorem apply_8y (A : Option Addr) (c : Nat) (l : List Vl) (w : World) (hv : ValsAt w A l) (h1 : 2 ≤ l.length) (hl : l.length ≤ 1000000) (ha : allInt l = true) :
    Calls Tryz.prog 13 #[.string ⟨#[62, 61]⟩, .slice A l.length c] w fun e w' => e = .returned (pairV (vB (chainB (fun a b => decide (b ≤ a)) (nums l)), 0)) ∧ Below w.heap.size w w' := by
  have J := Lib.hid (fun W (h : Below w.heap.size w W) => numbers_yes A c l W (hv.below h) (by omega) (int_yes ha))
  have HNL := nums_len l
  generalize nums l = ns at *
  obtain ⟨n, hn⟩ : ∃ n, n = l.length := ⟨_, rfl⟩
  rw [← hn] at J h1 hl HNL ⊢
  have NL := Lib.hid HNL
  have hnI : (n : Int) ≤ 1000000 := by omega
  have h1I : (2 : Int) ≤ (n : Int) := by omega
  clear hv hn ha HNL hl
  have h0 : Hid (Below w.heap.size w (w.alloc (.cells #[.int .i64 0, .int .i64 0, .string ⟨#[]⟩] 26))) := Lib.hid ((Below.refl _ _).alloc (Nat.le_refl _) _)
  have KN := Lib.hid (known_w ⟨#[62, 61]⟩ true (by decide +kernel))
  go_enter Tryz.func13, Tryz.ntmps13
  go_wp2_with fail
  refine (arity_8 _).mono ?_
  rintro e w' ⟨rfl, rfl⟩
  go_wp2_with fail
  refine (KN.out _).mono ?_
  rintro e w1 ⟨rfl, b1⟩
  have E1 := Lib.hid (h0.out.trans (b1.mono h0.out.size))
  have BLK := Lib.hid ((b1.block w.heap.size (by simp)).trans (heap_alloc_new w (.cells #[.int .i64 0, .int .i64 0, .string ⟨#[]⟩] 26)))
  clear b1
  go_wp2_with fail
  refine (J.out _ E1.out).mono ?_
  rintro e w2 ⟨A', c', rfl, hr, hc, b2⟩
  have E2 := Lib.hid (E1.out.trans (b2.mono E1.out.size))
  have BLK2 := Lib.hid ((b2.block w.heap.size (Array.getElem?_eq_some_iff.1 BLK.out).1).trans BLK.out)
  have hcI : (n : Int) ≤ (c' : Int) := by omega
  have R := Lib.hid (fun W (h : Below w2.heap.size w2 W) => hr.below h)
  clear b2 hr hc
  go_wp2_with fail
  go_loopw [15] (fun i wr => ∃ k : Nat, k + 1 ≤ n ∧ i = .int .i64 ((k : Int) + 1) ∧ Hid (∀ j (h : j + 1 < ns.length), j < k → (fun a b => decide (b ≤ a)) ns[j] ns[j + 1] = true) ∧ Hid (Below w2.heap.size w2 wr)) (fun i _ => n - (intOf i).toNat)
  case atStart => exact ⟨0, by omega, rfl, Lib.hid (fun j _ h => by omega), Lib.hid (Below.refl _ _)⟩
  case round =>
    obtain ⟨k, hk, rfl, hJ, hB⟩ := hrel
    have EB := Lib.hid (E2.out.trans (hB.out.mono E2.out.size))
    have BB := Lib.hid ((hB.out.block w.heap.size (Array.getElem?_eq_some_iff.1 BLK2.out).1).trans BLK2.out)
    by_cases hlt : k + 1 < n
    · have hltI : (k : Int) + 1 < (n : Int) := by omega
      have hlt2 : k + 1 < ns.length := by have := NL.out; omega
      obtain ⟨ad, rfl, d0, d1⟩ := row_pair (R.out _ hB.out) hlt2
      have HNo := Lib.hid (fun (e : (fun a b => decide (b ≤ a)) ns[k] ns[k + 1] = false) => chain_no (p := (fun a b => decide (b ≤ a))) (l := ns) hlt2 e)
      have HYe : Hid ((fun a b => decide (b ≤ a)) ns[k] ns[k + 1] = true → ∀ j (h : j + 1 < ns.length), j < k + 1 → (fun a b => decide (b ≤ a)) ns[j] ns[j + 1] = true) := Lib.hid (fun e j h h2 => by
        by_cases e2 : j = k
        · subst e2; exact e
        · exact hJ.out j h (by omega))
      have HO : Hid (∀ W, Calls Tryz.prog 50 #[.string ⟨#[62, 61]⟩, .int .i64 ns[k], .int .i64 ns[k + 1]] W fun e w' => e = .returned (.bool (decide (ns[k + 1] ≤ ns[k]))) ∧ w' = W) := Lib.hid (fun W => (holds_5 ns[k] ns[k + 1] W).mono fun _ _ h => ⟨h.1, h.2.symm⟩)
      generalize ns[k] = a at *
      generalize ns[k + 1] = b at *
      dsimp only at HNo HYe
      generalize decide (b ≤ a) = q at *
      cases q with
      | true =>
        have HY := Lib.hid (HYe.out rfl)
        clear HNo HYe
        go_wp2_with fail
        go_quiet ((go_at_call 50; exact Calls.quiet_of_same (HO.out _)))
        go_wp2_with fail
        exact ⟨⟨k + 1, by omega, by go_num, HY, Lib.hid (belN hB.out _)⟩, by simp [intOf]; omega⟩
      | false =>
        have HR := Lib.hid (HNo.out rfl)
        clear HNo HYe
        go_wp2_with fail
        go_quiet ((go_at_call 50; exact Calls.quiet_of_same (HO.out _)))
        go_wp2_with fail
        refine (ofBool_c false _).mono ?_
        rintro e w3 ⟨rfl, b3⟩
        have E3 := Lib.hid ((belN EB.out _).trans (b3.mono (Below.size (belN EB.out _))))
        obtain ⟨⟨_, _, _⟩, ⟨_, _, _⟩⟩ := new3g (by exact BB.out) b3
        clear b3
        go_wp2_with fail
        exact bodyPost_ret (v := pairV (vB false, 0)) (by simp [results, Tryz.results13, go_sem, *]) rfl ⟨by rw [HR.out], put3 E3.out⟩
    · obtain hke : k + 1 = n := by omega
      have hkI : (n : Int) ≤ (k : Int) + 1 := by omega
      have HR := Lib.hid (chain_yes (p := (fun a b => decide (b ≤ a))) (l := ns) (fun j h => hJ.out j h (by have := NL.out; omega)))
      clear hke
      go_wp2_with fail
      refine (ofBool_c true _).mono ?_
      rintro e w3 ⟨rfl, b3⟩
      have E3 := Lib.hid ((EB.out).trans (b3.mono (Below.size (EB.out))))
      obtain ⟨⟨_, _, _⟩, ⟨_, _, _⟩⟩ := new3g (BB.out) b3
      clear b3
      go_wp2_with fail
      exact bodyPost_ret (v := pairV (vB true, 0)) (by simp [results, Tryz.results13, go_sem, *]) rfl ⟨by rw [HR.out], put3 E3.out⟩
end Go.Proofs.YtmadnehipagakaaGreatDoor
