/- StratBorn. -/
import Derived.Test.YtbogjhgnnmgiaaaSk
namespace Go.Proofs.Ytbogjhgnnmgiaaa
open Go.Shelf Go.RowKit Go.Lib

def bornV (A : Option Addr) (l : List Int) (c : Nat) (a : Int) : AV := ⟨0, 0, A, l, c, 0, 0, a, 0⟩
theorem cI_self (x : Int) : cI x x = 0 := cI_eq.2 rfl
theorem cmpList_self : ∀ l : List Int, cmpList l l = 0
  | [] => rfl
  | x :: l => by
    unfold cmpList
    rw [if_neg (by have := cI_self x; unfold cI at this; simp [this])]
    exact cmpList_self l
theorem born_law (A : Option Addr) (l : List Int) (c : Nat) (a b : Int) (k : Int) : before k (bornV A l c a) (bornV A l c b) = if k = 2 then decide (a < b) else decide (b < a) := by
  have h0 := cI_self 0
  have h1 := cI_self (firstI l)
  have h2 := cmpList_self (falls l)
  by_cases e2 : k = 2
  · rw [if_pos e2]
    have h : rk k (bornV A l c a) (bornV A l c b) = cI a b := by simp [rk, rankF, bornV, h0, e2]
    unfold before; rw [h]; exact decide_eq_decide.2 cI_lt
  · rw [if_neg e2]
    have h : rk k (bornV A l c a) (bornV A l c b) = cI b a := by
      unfold rk rankF rank5 bornV
      dsimp only
      simp only [h0, h1, h2, e2, orI]
      simp
    unfold before; rw [h]; exact decide_eq_decide.2 cI_lt

set_option maxHeartbeats 2000000 in
theorem stratBorn_any (a b : Int) (A : Option Addr) (c : Nat) (l : List Int) (w : World) (_ : (Lit.int .i64 a).wf = true) (_ : (Lit.int .i64 b).wf = true) (ra : RowAt w (Value.int .i64) A l) (na : A = none → c = 0) (_ : ∀ n ∈ l, (Lit.int .i64 n).wf = true) :
    Calls Try.prog 8 #[.int .i64 a, .int .i64 b, .slice A l.length c] w fun e w' => e = .returned (.bool true) ∧ Below w.heap.size w w' := by
  by_cases h30 : 30 < l.length
  · have h30' : (30 : Int) < (l.length : Int) := by omega
    clear ra
    go_enter Try.func8, Try.ntmps8
    go_wp2_with fail
    refine (known_any _).mono ?_
    rintro e w1 ⟨rfl, b1⟩
    have E1 := Lib.hid b1; clear b1
    go_wp2_with fail
    go_ret
    exact ⟨rfl, E1.out⟩
  have h30' : (l.length : Int) ≤ 30 := by omega
  by_cases hab : a = b
  · have hq : (a == b) = true := by simpa using hab
    clear ra hab h30
    go_enter Try.func8, Try.ntmps8
    go_wp2_with fail
    refine (known_any _).mono ?_
    rintro e w1 ⟨rfl, b1⟩
    have E1 := Lib.hid b1; clear b1
    go_wp2_with fail
    go_ret
    exact ⟨rfl, E1.out⟩
  have hq : (a == b) = false := beq_eq_false_iff_ne.2 hab
  have R := Lib.hid (fun W (h : Below w.heap.size w W) => ra.below h)
  have N := Lib.hid na
  clear ra na
  go_enter Try.func8, Try.ntmps8
  go_wp2_with fail
  refine (known_any _).mono ?_
  rintro e w1 ⟨rfl, b1⟩
  have E1 := Lib.hid b1; clear b1
  go_wp2_with fail
  obtain ⟨W0, hW0⟩ : ∃ W0, W0 = (w1.alloc (.cells (bornV A l c a).cs 24)).alloc (.cells (bornV A l c b).cs 24) := ⟨_, rfl⟩
  have hC := boxed2 w1 (bornV A l c a) (bornV A l c b)
  have hB := bel2 w1 (.cells (bornV A l c a).cs 24) (.cells (bornV A l c b).cs 24)
  rw [← hW0] at hC hB
  have C := Lib.hid hC; clear hC
  have B0 := Lib.hid (E1.out.trans (hB.mono E1.out.size)); clear hB
  have OA : Hid ((bornV A l c a).ok W0) := Lib.hid ⟨R.out _ B0.out, N.out, by show l.length ≤ 1000; omega⟩
  have OB : Hid ((bornV A l c b).ok W0) := Lib.hid ⟨R.out _ B0.out, N.out, by show l.length ≤ 1000; omega⟩
  go_loopw [9, 10] (fun i _ wr => ∃ k : Nat, k ≤ 7 ∧ i = .int .i64 ((k : Int) + 1) ∧ Hid (Below W0.heap.size W0 wr)) (fun i _ _ => 8 - (intOf i).toNat)
  case atStart => exact ⟨0, by omega, rfl, Lib.hid (by rw [hW0]; exact Below.refl _ _)⟩
  case round =>
    obtain ⟨k, hk, rfl, hB⟩ := hrel
    by_cases hlt : k < 7
    · have hL := Lib.hid (born_law A l c a b ((k : Int) + 1))
      obtain ⟨⟨_, _, _, _, _, _, _⟩, ⟨_, _, _, _, _, _, _⟩⟩ := C.out _ hB.out
      by_cases h2 : k = 1
      · subst h2
        go_wp2_with fail
        refine (before_w 2 (bornV A l c a) (bornV A l c b) OA.out OB.out hB.out).mono ?_
        rw [show before 2 (bornV A l c a) (bornV A l c b) = decide (a < b) from (hL.out.trans (if_pos rfl))]
        rintro e w3 ⟨rfl, b3⟩
        have E3 := Lib.hid b3; clear b3
        go_wp2_with fail
        exact ⟨⟨1 + 1, by omega, by go_num, E3⟩, by simp [intOf]⟩
      · have h2' : ((k : Int) + 1 == 2) = false := beq_eq_false_iff_ne.2 (by omega)
        go_wp2_with fail
        refine (before_w ((k : Int) + 1) (bornV A l c a) (bornV A l c b) OA.out OB.out hB.out).mono ?_
        rw [hL.out.trans (if_neg (by omega))]
        rintro e w3 ⟨rfl, b3⟩
        have E3 := Lib.hid b3; clear b3
        go_wp2_with fail
        exact ⟨⟨k + 1, by omega, by go_num, E3⟩, by simp [intOf]; omega⟩
    · obtain rfl : k = 7 := by omega
      go_wp2_with fail
      go_ret
      exact ⟨rfl, B0.out.trans (hB.out.mono B0.out.size)⟩
end Go.Proofs.Ytbogjhgnnmgiaaa
