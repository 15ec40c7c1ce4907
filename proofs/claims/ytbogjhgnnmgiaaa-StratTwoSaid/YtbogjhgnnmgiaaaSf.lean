/- strat.Name, Parse. -/
import Derived.Test.YtbogjhgnnmgiaaaSe
namespace Go.Proofs.Ytbogjhgnnmgiaaa
open Go.Shelf Go.RowKit Go.Lib

theorem str_eq {a b : ByteArray} (h : a = b) : (a.toList == b.toList) = true := by subst h; simp
theorem str_ne {a b : ByteArray} (h : a ≠ b) : (a.toList == b.toList) = false := beq_eq_false_iff_ne.2 (fun e => h (by rw [ByteArray.toList_eq, ByteArray.toList_eq] at e; exact ByteArray.ext (Array.ext' e)))

/-- A strategy's name. -/
def nameN : Nat → ByteArray
  | 1 => ⟨#[100, 101, 112, 116, 104]⟩
  | 2 => ⟨#[98, 114, 101, 97, 100, 116, 104]⟩
  | 3 => ⟨#[115, 105, 109, 112, 108, 105, 99, 105, 116, 121]⟩
  | 4 => ⟨#[99, 111, 109, 112, 108, 101, 120, 105, 116, 121]⟩
  | 5 => ⟨#[108, 101, 120]⟩
  | 6 => ⟨#[109, 101, 97]⟩
  | 7 => ⟨#[114, 97, 110, 100, 111, 109]⟩
  | _ => ⟨#[]⟩
def nameS (s : Int) : ByteArray := nameN s.toNat

theorem bel1 (w : World) (o : Obj) : Below w.heap.size w (w.alloc o) := (Below.refl _ w).alloc (Nat.le_refl _) o

theorem name_big {n : Nat} (h : 7 < n) : nameN n = ⟨#[]⟩ := by
  match n, h with
  | n + 8, _ => rfl

set_option maxHeartbeats 1000000 in
theorem name17 (s : Int) (w : World) : Calls Try.prog 17 #[.int .i64 s] w fun e w' => e = .returned (.string (nameS s)) ∧ Below w.heap.size w w' := by
  by_cases h1 : s < 1
  · have hn : nameS s = ⟨#[]⟩ := by unfold nameS; rw [show s.toNat = 0 by omega]; rfl
    rw [hn]
    go_enter Try.func17, Try.ntmps17
    go_wp2
    go_ret
    exact ⟨rfl, Below.refl _ _⟩
  by_cases h7 : 7 < s
  · have hn : nameS s = ⟨#[]⟩ := by unfold nameS; exact name_big (by omega)
    rw [hn]
    go_enter Try.func17, Try.ntmps17
    go_wp2
    go_ret
    exact ⟨rfl, Below.refl _ _⟩
  rcases (by omega : s = 1 ∨ s = 2 ∨ s = 3 ∨ s = 4 ∨ s = 5 ∨ s = 6 ∨ s = 7) with rfl | rfl | rfl | rfl | rfl | rfl | rfl
  all_goals
    clear h1 h7
    go_enter Try.func17, Try.ntmps17
    go_wp2
    go_ret
    exact ⟨rfl, bel1 _ _⟩

set_option maxHeartbeats 1000000 in
theorem name16 (s : Int) (w : World) : Calls Try.prog 16 #[.int .i64 s] w fun e w' => e = .returned (.string (nameS s)) ∧ Below w.heap.size w w' := by
  by_cases h1 : s < 1
  · have hn : nameS s = ⟨#[]⟩ := by unfold nameS; rw [show s.toNat = 0 by omega]; rfl
    rw [hn]
    go_enter Try.func16, Try.ntmps16
    go_wp2
    go_ret
    exact ⟨rfl, Below.refl _ _⟩
  by_cases h7 : 7 < s
  · have hn : nameS s = ⟨#[]⟩ := by unfold nameS; exact name_big (by omega)
    rw [hn]
    go_enter Try.func16, Try.ntmps16
    go_wp2
    go_ret
    exact ⟨rfl, Below.refl _ _⟩
  rcases (by omega : s = 1 ∨ s = 2 ∨ s = 3 ∨ s = 4 ∨ s = 5 ∨ s = 6 ∨ s = 7) with rfl | rfl | rfl | rfl | rfl | rfl | rfl
  all_goals
    clear h1 h7
    go_enter Try.func16, Try.ntmps16
    go_wp2
    go_ret
    exact ⟨rfl, bel1 _ _⟩

/-- The strategy of a name, from k on; nought: none. -/
def parseFrom (s : ByteArray) : Nat → Nat → Nat
  | 0, _ => 0
  | f + 1, k => if nameN k = s then k else parseFrom s f (k + 1)
def parseN (s : ByteArray) : Nat := parseFrom s 7 1

set_option maxHeartbeats 1000000 in
theorem parse_any (s : ByteArray) (w : World) : Calls Try.prog 15 #[.string s] w fun e w' => e = .returned (.tuple #[.int .i64 (parseN s), .bool (decide (0 < parseN s))]) ∧ Below w.heap.size w w' := by
  go_enter Try.func15, Try.ntmps15
  go_wp2
  go_loopw [4] (fun i wr => ∃ k : Nat, 1 ≤ k ∧ k ≤ 8 ∧ i = .int .i64 k ∧ Hid (Below w.heap.size w wr) ∧ Hid (parseN s = parseFrom s (8 - k) k)) (fun i _ => 8 - (intOf i).toNat)
  case atStart => exact ⟨1, by omega, by omega, rfl, Lib.hid (Below.refl _ _), Lib.hid rfl⟩
  case round =>
    obtain ⟨k, hk1, hk2, rfl, hB, hP⟩ := hrel
    by_cases hlt : k < 8
    · have hf : 8 - k = (7 - k) + 1 := by omega
      have hP2 := hP.out
      rw [hf, parseFrom] at hP2
      by_cases he : nameN k = s
      · rw [if_pos he] at hP2
        have hP3 := Lib.hid hP2; clear hP2
        have hq := str_eq he
        go_wp2_with fail
        refine (name17 _ _).mono ?_
        rintro e w1 ⟨rfl, b1⟩
        have B1 := Lib.hid (hB.out.trans (b1.mono hB.out.size)); clear b1
        rw [show nameS (k : Int) = nameN k by simp [nameS]]
        go_wp2_with fail
        go_ret2
        exact ⟨by rw [hP3.out]; simp; omega, B1.out⟩
      · rw [if_neg he] at hP2
        have hP3 := Lib.hid hP2; clear hP2
        have hq := str_ne he
        go_wp2_with fail
        refine (name17 _ _).mono ?_
        rintro e w1 ⟨rfl, b1⟩
        have B1 := Lib.hid (hB.out.trans (b1.mono hB.out.size)); clear b1
        rw [show nameS (k : Int) = nameN k by simp [nameS]]
        go_wp2_with fail
        exact ⟨⟨k + 1, by omega, by omega, by go_num, B1, Lib.hid (by rw [hP3.out, show 8 - (k + 1) = 7 - k by omega])⟩, by simp [intOf]; omega⟩
    · have h8 : k = 8 := by omega
      subst h8
      have hz : parseN s = 0 := hP.out
      have HZ := Lib.hid hz; clear hz
      go_wp2_with fail
      go_ret2
      exact ⟨by rw [HZ.out]; simp, hB.out⟩
end Go.Proofs.Ytbogjhgnnmgiaaa
