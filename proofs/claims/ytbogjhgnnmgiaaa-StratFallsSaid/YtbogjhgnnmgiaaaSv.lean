/- StratFalls: the walk. -/
import Derived.Test.YtbogjhgnnmgiaaaSu
namespace Go.Proofs.Ytbogjhgnnmgiaaa
open Go.Shelf Go.RowKit Go.Lib

theorem falls_step {m : List Int} (hs : m.Pairwise (fun x y => y ≤ x)) (i : Nat) (h : i + 1 < m.length) : m[i + 1] ≤ m[i] :=
  List.pairwise_iff_getElem.1 hs i (i + 1) (by omega) h (by omega)

set_option maxHeartbeats 2000000 in
theorem stratFalls_any (A : Option Addr) (c : Nat) (l : List Int) (w : World) (ra : RowAt w (Value.int .i64) A l) (na : A = none → c = 0) (_ : ∀ n ∈ l, (Lit.int .i64 n).wf = true) :
    Calls Try.prog 7 #[.slice A l.length c] w fun e w' => e = .returned (.bool true) ∧ Below w.heap.size w w' := by
  by_cases h60 : 60 < l.length
  · have h60' : (60 : Int) < (l.length : Int) := by omega
    clear ra
    go_enter Try.func7, Try.ntmps7
    go_wp2_with fail
    refine (known_any _).mono ?_
    rintro e w1 ⟨rfl, b1⟩
    have E1 := Lib.hid b1; clear b1
    go_wp2_with fail
    go_ret
    exact ⟨rfl, E1.out⟩
  have h60' : (l.length : Int) ≤ 60 := by omega
  have R := Lib.hid (fun W (h : Below w.heap.size w W) => ra.below h)
  have NA := Lib.hid na
  clear ra na
  go_enter Try.func7, Try.ntmps7
  go_wp2_with fail
  refine (known_any _).mono ?_
  rintro e w1 ⟨rfl, b1⟩
  have E1 := Lib.hid b1; clear b1
  go_wp2_with fail
  refine (falling_any A l c w1 (R.out _ E1.out) NA.out (by omega)).mono ?_
  rintro e w2 ⟨A2, c2, rfl, r2, b2⟩
  have E2 := Lib.hid (E1.out.trans (b2.mono E1.out.size))
  have R2 := Lib.hid r2
  clear b2 r2
  go_wp2_with fail
  refine (rfalling_any A l c w2 (R.out _ E2.out) (by omega)).mono ?_
  rintro e w3 ⟨A3, c3, rfl, r3, b3⟩
  have E3 := Lib.hid (E2.out.trans (b3.mono E2.out.size))
  have F2 := Lib.hid (fun W (h : Below w3.heap.size w3 W) => (R2.out.below b3).below h)
  have F3 := Lib.hid (fun W (h : Below w3.heap.size w3 W) => r3.below h)
  have FL := Lib.hid (falls_len l)
  have FS := Lib.hid (falls_sorted l)
  clear b3 r3
  clear R2
  generalize falls l = m at F2 F3 FL FS
  go_wp2_with fail
  go_loopw [5] (fun i wr => ∃ k : Nat, k ≤ l.length ∧ i = .int .i64 k ∧ Hid (Below w3.heap.size w3 wr)) (fun i _ => l.length - (intOf i).toNat)
  case atStart => exact ⟨0, by omega, rfl, Lib.hid (Below.refl _ _)⟩
  case round =>
    obtain ⟨k, hk, rfl, hB⟩ := hrel
    by_cases hlt : k < l.length
    · have hk' : k < m.length := by have := FL.out; omega
      obtain ⟨a2, rfl, _, hx2⟩ := F2.out _ hB.out k hk'
      obtain ⟨a3, rfl, _, hx3⟩ := F3.out _ hB.out k hk'
      have hkI : (k : Int) < (l.length : Int) := by omega
      by_cases h0 : 0 < k
      · obtain ⟨j, hj⟩ : ∃ j, k = j + 1 := ⟨k - 1, by omega⟩
        obtain ⟨_, e, _, hxj⟩ := F2.out _ hB.out j (by omega)
        injection e with e; subst e
        have hs : m[k] ≤ m[j] := by subst hj; exact falls_step FS.out j hk'
        have hjI : (j : Int) < (l.length : Int) := by omega
        have hj0 : (0 : Int) < (k : Int) := by omega
        have hkj : (k : Int) - 1 = (j : Int) := by omega
        generalize m[k] = x at *
        generalize m[j] = y at *
        have HJ := Lib.hid hj
        clear hj
        go_wp2_with fail
        go_quiet (fail)
        go_wp2_with fail
        go_roundw
        case rel => exact ⟨k + 1, by omega, by go_num, Lib.hid (belD hB.out)⟩
        case measure => first | (simp [intOf]; done) | (simp [intOf]; omega)
      · have hk0 : (k : Int) ≤ 0 := by omega
        have hkd : decide ((0 : Int) < (k : Int)) = false := by simpa using h0
        have hkd2 : decide (0 < k) = false := by simpa using h0
        clear h0
        generalize m[k] = x at *
        go_wp2_with fail
        go_quiet (fail)
        go_wp2_with fail
        go_roundw
        case rel => exact ⟨k + 1, by omega, by go_num, Lib.hid (belD hB.out)⟩
        case measure => first | (simp [intOf]; done) | (simp [intOf]; omega)
    · obtain rfl : k = l.length := by omega
      go_wp2_with fail
      go_ret
      exact ⟨rfl, E3.out.trans (hB.out.mono E3.out.size)⟩
end Go.Proofs.Ytbogjhgnnmgiaaa
