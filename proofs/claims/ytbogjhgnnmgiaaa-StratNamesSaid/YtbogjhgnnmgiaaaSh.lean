/- StratNames. -/
import Derived.Test.YtbogjhgnnmgiaaaSg
namespace Go.Proofs.Ytbogjhgnnmgiaaa
open Go.Shelf Go.RowKit Go.Lib

/-- The last strategy of a name up to j; nought: none. -/
def wantN (s : ByteArray) : Nat → Nat
  | 0 => 0
  | j + 1 => if nameN (j + 1) = s then j + 1 else wantN s j
theorem want_is (s : ByteArray) : wantN s 7 = parseN s := by
  by_cases h1 : nameN 1 = s
  · subst h1; decide +kernel
  by_cases h2 : nameN 2 = s
  · subst h2; decide +kernel
  by_cases h3 : nameN 3 = s
  · subst h3; decide +kernel
  by_cases h4 : nameN 4 = s
  · subst h4; decide +kernel
  by_cases h5 : nameN 5 = s
  · subst h5; decide +kernel
  by_cases h6 : nameN 6 = s
  · subst h6; decide +kernel
  by_cases h7 : nameN 7 = s
  · subst h7; decide +kernel
  simp [wantN, parseN, parseFrom, h1, h2, h3, h4, h5, h6, h7]

set_option maxHeartbeats 1000000 in
theorem stratNames_any (name : ByteArray) (s : Int) (w : World) (_ : (Lit.int .i64 s).wf = true) : Calls Try.prog 6 #[.string name, .int .i64 s] w fun e w' => e = .returned (.bool true) ∧ Below w.heap.size w w' := by
  by_cases h100 : 100 < name.size
  · go_enter Try.func6, Try.ntmps6
    go_wp2_with fail
    refine (known_any _).mono ?_
    rintro e w1 ⟨rfl, b1⟩
    have E1 := Lib.hid b1; clear b1
    go_wp2
    go_ret
    exact ⟨rfl, E1.out⟩
  · go_enter Try.func6, Try.ntmps6
    go_wp2_with fail
    refine (known_any _).mono ?_
    rintro e w1 ⟨rfl, b1⟩
    have E1 := Lib.hid b1; clear b1
    go_wp2_with fail
    refine (parse_any _ _).mono ?_
    rintro e w2 ⟨rfl, b2⟩
    have E2 := Lib.hid (E1.out.trans (b2.mono E1.out.size)); clear b2
    go_wp2
    go_loopw [7, 8] (fun a i wr => ∃ k : Nat, k ≤ 7 ∧ a = .int .i64 (wantN name k) ∧ i = .int .i64 ((k : Int) + 1) ∧ Hid (Below w.heap.size w wr)) (fun _ i _ => 8 - (intOf i).toNat)
    case atStart => exact ⟨0, by omega, rfl, rfl, E2⟩
    case round =>
      obtain ⟨k, hk, rfl, rfl, hB⟩ := hrel
      by_cases hlt : k < 7
      · have hn : nameS ((k : Int) + 1) = nameN (k + 1) := by unfold nameS; congr 1
        by_cases he : nameN (k + 1) = name
        · have hq := str_eq he
          go_wp2_with fail
          refine (name16 _ _).mono ?_
          rw [hn]
          rintro e w3 ⟨rfl, b3⟩
          have E3 := Lib.hid (hB.out.trans (b3.mono hB.out.size)); clear b3
          clear hn
          go_wp2_with fail
          exact ⟨⟨k + 1, by omega, by simp [wantN, he], by go_num, E3⟩, by simp [intOf]; omega⟩
        · have hq := str_ne he
          go_wp2_with fail
          refine (name16 _ _).mono ?_
          rw [hn]
          rintro e w3 ⟨rfl, b3⟩
          have E3 := Lib.hid (hB.out.trans (b3.mono hB.out.size)); clear b3
          clear hn
          go_wp2_with fail
          exact ⟨⟨k + 1, by omega, by simp [wantN, he], by go_num, E3⟩, by simp [intOf]; omega⟩
      · obtain rfl : k = 7 := by omega
        rw [want_is]
        go_wp2_with fail
        refine (name17 _ _).mono ?_
        rintro e w3 ⟨rfl, b3⟩
        have E3 := Lib.hid (hB.out.trans (b3.mono hB.out.size)); clear b3
        go_wp2_with fail
        refine (name16 _ _).mono ?_
        rintro e w4 ⟨rfl, b4⟩
        have E4 := Lib.hid (E3.out.trans (b4.mono E3.out.size)); clear b4
        go_wp2_with fail
        go_ret
        exact ⟨rfl, E4.out⟩
end Go.Proofs.Ytbogjhgnnmgiaaa
