/- Numbers, plainly. -/
import GoSem.Core.Stop
import Derived.IntWalk
namespace Go.Proofs.YtmadnehipagakaaGreatDoor
def okI (n : Int) : Prop := -9223372036854775808 ≤ n ∧ n ≤ 9223372036854775807
def lim (x : Int) : Option Int := if -9223372036854775808 ≤ x ∧ x ≤ 9223372036854775807 then some x else none
def rN (o : Option Int) : Int := o.getD 0
def rE (o : Option Int) : Int := if o.isSome then 0 else 11
theorem lim_yes {x : Int} (h : okI x) : lim x = some x := if_pos h
theorem lim_no {x : Int} (h : ¬ okI x) : lim x = none := if_neg h
theorem lim_ok {x y : Int} (h : lim x = some y) : okI y := by
  unfold lim at h
  split at h
  · injection h with h; subst h; assumption
  · cases h
/-- A quotient, a remainder. -/
def divO (a b : Int) : Option Int := if b = 0 ∨ (a = -9223372036854775808 ∧ b = -1) then none else some (a.tdiv b)
def modO (a b : Int) : Option Int := if b = 0 then none else if b = -1 then some 0 else some (a.tmod b)
theorem tdiv_ok {a b : Int} (ha : okI a) (hb : ¬ (a = -9223372036854775808 ∧ b = -1)) (h0 : b ≠ 0) : okI (a.tdiv b) := by
  unfold okI at *
  have h1 : (a.tdiv b).natAbs = a.natAbs / b.natAbs := Int.natAbs_tdiv a b
  by_cases hu : b.natAbs = 1
  · have : b = 1 ∨ b = -1 := by omega
    rcases this with rfl | rfl
    · simpa using ha
    · have : a.tdiv (-1) = -a := by rw [Int.tdiv_neg, Int.tdiv_one]
      rw [this]; omega
  · have h2 : a.natAbs / b.natAbs ≤ a.natAbs / 2 := Nat.div_le_div_left (by omega) (by omega)
    omega
theorem tmod_ok {a b : Int} (ha : okI a) : okI (a.tmod b) := by
  unfold okI at *
  have h1 : (a.tmod b).natAbs = a.natAbs % b.natAbs := Int.natAbs_tmod a b
  have h2 : a.natAbs % b.natAbs ≤ a.natAbs := Nat.mod_le _ _
  by_cases h : 0 ≤ a
  · have := Int.tmod_nonneg b h; omega
  · have h3 : (a.tmod b) ≤ 0 := by
      have := Int.tmod_nonneg b (show 0 ≤ -a by omega)
      rw [Int.neg_tmod] at this; omega
    omega
theorem divO_ok {a b y : Int} (ha : okI a) (h : divO a b = some y) : okI y := by
  unfold divO at h
  split at h
  · cases h
  · rename_i hn
    injection h with h; subst h
    exact tdiv_ok ha (fun h => hn (.inr h)) (fun h => hn (.inl h))
theorem modO_ok {a b y : Int} (ha : okI a) (h : modO a b = some y) : okI y := by
  unfold modO at h
  split at h
  · cases h
  · split at h
    · injection h with h; subst h; unfold okI; omega
    · injection h with h; subst h; exact tmod_ok ha
/-- A product out of the sizes of both. -/
theorem mul_sizes (a b : Int) : a * b = if (!decide (a < 0) == decide (b < 0)) = true then -((a.natAbs * b.natAbs : Nat) : Int) else ((a.natAbs * b.natAbs : Nat) : Int) := by
  rcases Int.natAbs_eq a with ha | ha <;> rcases Int.natAbs_eq b with hb | hb
  · have h1 : ¬ a < 0 := by omega
    have h2 : ¬ b < 0 := by omega
    simp [h1, h2]
    conv => lhs; rw [ha, hb]
  · have h1 : ¬ a < 0 := by omega
    by_cases h2 : b < 0
    · simp [h1, h2]
      conv => lhs; rw [ha, hb]
      rw [Int.mul_neg]
    · have : b = 0 := by omega
      subst this; simp
  · have h2 : ¬ b < 0 := by omega
    by_cases h1 : a < 0
    · simp [h1, h2]
      conv => lhs; rw [ha, hb]
      rw [Int.neg_mul]
    · have : a = 0 := by omega
      subst this; simp
  · by_cases h1 : a < 0
    · by_cases h2 : b < 0
      · simp [h1, h2]
        conv => lhs; rw [ha, hb]
        rw [Int.neg_mul_neg]
      · have : b = 0 := by omega
        subst this; simp
    · have : a = 0 := by omega
      subst this; simp
open Go in
theorem u64_neg {a : Int} (h : a < 0) (h1 : -9223372036854775808 ≤ a) : IntKind.u64.wrap (-IntKind.u64.wrap a) = (a.natAbs : Nat) := by
  simp [IntKind.wrap, IntKind.bits, IntKind.signed]; omega
open Go in
theorem u64_minus {n : Nat} (h : n ≤ 9223372036854775808) : IntKind.i64.wrap (IntKind.u64.wrap (-(n : Int))) = -(n : Int) := by
  simp [IntKind.wrap, IntKind.bits, IntKind.signed]; split <;> omega
/-- A product in its two halves. -/
theorem mul_none {a b : Int} {hi lo : Nat} (h : a.natAbs * b.natAbs = hi * 18446744073709551616 + lo) (h2 : 0 < hi ∨ 9223372036854775808 < lo ∨ (lo = 9223372036854775808 ∧ (!decide (a < 0) == decide (b < 0)) = false)) : lim (a * b) = none := by
  apply lim_no
  rw [mul_sizes, h]
  unfold okI
  split
  · rename_i hm
    rcases h2 with h2 | h2 | h2
    · omega
    · omega
    · rw [hm] at h2; exact absurd h2.2 (by decide)
  · omega
theorem mul_some {a b : Int} {hi lo : Nat} (h : a.natAbs * b.natAbs = hi * 18446744073709551616 + lo) (h0 : hi = 0) (h1 : lo ≤ 9223372036854775808) (h2 : lo = 9223372036854775808 → (!decide (a < 0) == decide (b < 0)) = true) :
    lim (a * b) = some (if (!decide (a < 0) == decide (b < 0)) = true then -(lo : Int) else lo) := by
  have e : a * b = if (!decide (a < 0) == decide (b < 0)) = true then -(lo : Int) else lo := by
    rw [mul_sizes, h, h0]; simp
  rw [e]
  apply lim_yes
  unfold okI
  split
  · omega
  · rename_i hm
    have : lo ≠ 9223372036854775808 := fun e => hm (h2 e)
    omega
end Go.Proofs.YtmadnehipagakaaGreatDoor
