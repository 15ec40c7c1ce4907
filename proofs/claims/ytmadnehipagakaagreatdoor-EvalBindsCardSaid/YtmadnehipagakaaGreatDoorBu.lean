/- built.Apply: any name, any values. -/
import Derived.Test.YtmadnehipagakaaGreatDoorBt
namespace Go.Proofs.YtmadnehipagakaaGreatDoor
open Go.RowKit Go.Lib Go.Sort KP
theorem fits_yes {p : Int × Int} {n : Nat} (h : fits p n = true) : p.1 ≤ n ∧ (p.2 = -1 ∨ (n : Int) ≤ p.2) := by
  unfold fits at h
  simp at h
  exact ⟨by omega, h.2⟩
theorem apply_of {s : ByteArray} {l : List Vl} {k : Nat} (hs : knownB s = true) (hf : fits (arity s) l.length = true) (hc : code s = k) : applyO s l = applyN k l := by
  unfold applyO
  rw [hs, hf, hc]
  rfl
theorem num_y {k : Nat} {l : List Vl} (h : allInt l = true) : (if allInt l then numN k (nums l) else (v0, 8)) = numN k (nums l) := by rw [h]; rfl
theorem num_n {k : Nat} {l : List Vl} (h : allInt l = false) : (if allInt l then numN k (nums l) else (v0, 8)) = (v0, 8) := by rw [h]; rfl
theorem len_one {l : List Vl} (h : l.length = 1) : ∃ a, l = [a] := by
  match l, h with
  | [a], _ => exact ⟨a, rfl⟩
theorem len_two {l : List Vl} (h : l.length = 2) : ∃ a b, l = [a, b] := by
  match l, h with
  | [a, b], _ => exact ⟨a, b, rfl⟩
theorem applyC_0 (A : Option Addr) (c : Nat) (l : List Vl) (w : World) (_ht : Tab w) (hv : ValsAt w A l) (hk : ∀ v ∈ l, okV v) (hl : l.length ≤ 1000000) (hf : fits (arity ⟨#[42]⟩) l.length = true) :
    Calls Tryz.prog 13 #[.string ⟨#[42]⟩, .slice A l.length c] w fun e w' => e = .returned (pairV (applyO ⟨#[42]⟩ l)) ∧ Below w.heap.size w w' := by
  have ef : applyO ⟨#[42]⟩ l = applyN 0 l := apply_of (by decide +kernel) hf (by decide +kernel)
  rw [show arity ⟨#[42]⟩ = (0, -1) by decide +kernel] at hf
  have hf2 := fits_yes hf
  clear hf
  dsimp only at hf2
  rw [ef]
  clear ef
  cases ha : allInt l with
  | true =>
    have e : applyN 0 l = numN 0 (nums l) := num_y ha
    rw [e]
    exact apply_0y A c l w hv hk hl ha
  | false =>
    have e : applyN 0 l = (v0, 8) := num_n (k := 0) ha
    rw [e]
    exact apply_0n A c l w hv hl ha
theorem applyC_1 (A : Option Addr) (c : Nat) (l : List Vl) (w : World) (_ht : Tab w) (hv : ValsAt w A l) (hk : ∀ v ∈ l, okV v) (hl : l.length ≤ 1000000) (hf : fits (arity ⟨#[43]⟩) l.length = true) :
    Calls Tryz.prog 13 #[.string ⟨#[43]⟩, .slice A l.length c] w fun e w' => e = .returned (pairV (applyO ⟨#[43]⟩ l)) ∧ Below w.heap.size w w' := by
  have ef : applyO ⟨#[43]⟩ l = applyN 1 l := apply_of (by decide +kernel) hf (by decide +kernel)
  rw [show arity ⟨#[43]⟩ = (0, -1) by decide +kernel] at hf
  have hf2 := fits_yes hf
  clear hf
  dsimp only at hf2
  rw [ef]
  clear ef
  cases ha : allInt l with
  | true =>
    have e : applyN 1 l = numN 1 (nums l) := num_y ha
    rw [e]
    exact apply_1y A c l w hv hk hl ha
  | false =>
    have e : applyN 1 l = (v0, 8) := num_n (k := 1) ha
    rw [e]
    exact apply_1n A c l w hv hl ha
theorem applyC_2 (A : Option Addr) (c : Nat) (l : List Vl) (w : World) (_ht : Tab w) (hv : ValsAt w A l) (hk : ∀ v ∈ l, okV v) (hl : l.length ≤ 1000000) (hf : fits (arity ⟨#[45]⟩) l.length = true) :
    Calls Tryz.prog 13 #[.string ⟨#[45]⟩, .slice A l.length c] w fun e w' => e = .returned (pairV (applyO ⟨#[45]⟩ l)) ∧ Below w.heap.size w w' := by
  have ef : applyO ⟨#[45]⟩ l = applyN 2 l := apply_of (by decide +kernel) hf (by decide +kernel)
  rw [show arity ⟨#[45]⟩ = (1, -1) by decide +kernel] at hf
  have hf2 := fits_yes hf
  clear hf
  dsimp only at hf2
  rw [ef]
  clear ef
  cases ha : allInt l with
  | true =>
    have e : applyN 2 l = numN 2 (nums l) := num_y ha
    rw [e]
    exact apply_2y A c l w hv hk (by omega) hl ha
  | false =>
    have e : applyN 2 l = (v0, 8) := num_n (k := 2) ha
    rw [e]
    exact apply_2n A c l w hv (by omega) hl ha
theorem applyC_3 (A : Option Addr) (c : Nat) (l : List Vl) (w : World) (_ht : Tab w) (hv : ValsAt w A l) (_hk : ∀ v ∈ l, okV v) (hl : l.length ≤ 1000000) (hf : fits (arity ⟨#[60]⟩) l.length = true) :
    Calls Tryz.prog 13 #[.string ⟨#[60]⟩, .slice A l.length c] w fun e w' => e = .returned (pairV (applyO ⟨#[60]⟩ l)) ∧ Below w.heap.size w w' := by
  have ef : applyO ⟨#[60]⟩ l = applyN 3 l := apply_of (by decide +kernel) hf (by decide +kernel)
  rw [show arity ⟨#[60]⟩ = (2, -1) by decide +kernel] at hf
  have hf2 := fits_yes hf
  clear hf
  dsimp only at hf2
  rw [ef]
  clear ef
  cases ha : allInt l with
  | true =>
    have e : applyN 3 l = numN 3 (nums l) := num_y ha
    rw [e]
    exact apply_3y A c l w hv (by omega) hl ha
  | false =>
    have e : applyN 3 l = (v0, 8) := num_n (k := 3) ha
    rw [e]
    exact apply_3n A c l w hv (by omega) hl ha
theorem applyC_4 (A : Option Addr) (c : Nat) (l : List Vl) (w : World) (_ht : Tab w) (hv : ValsAt w A l) (_hk : ∀ v ∈ l, okV v) (hl : l.length ≤ 1000000) (hf : fits (arity ⟨#[60, 61]⟩) l.length = true) :
    Calls Tryz.prog 13 #[.string ⟨#[60, 61]⟩, .slice A l.length c] w fun e w' => e = .returned (pairV (applyO ⟨#[60, 61]⟩ l)) ∧ Below w.heap.size w w' := by
  have ef : applyO ⟨#[60, 61]⟩ l = applyN 4 l := apply_of (by decide +kernel) hf (by decide +kernel)
  rw [show arity ⟨#[60, 61]⟩ = (2, -1) by decide +kernel] at hf
  have hf2 := fits_yes hf
  clear hf
  dsimp only at hf2
  rw [ef]
  clear ef
  cases ha : allInt l with
  | true =>
    have e : applyN 4 l = numN 4 (nums l) := num_y ha
    rw [e]
    exact apply_4y A c l w hv (by omega) hl ha
  | false =>
    have e : applyN 4 l = (v0, 8) := num_n (k := 4) ha
    rw [e]
    exact apply_4n A c l w hv (by omega) hl ha
theorem applyC_5 (A : Option Addr) (c : Nat) (l : List Vl) (w : World) (_ht : Tab w) (hv : ValsAt w A l) (_hk : ∀ v ∈ l, okV v) (_hl : l.length ≤ 1000000) (hf : fits (arity ⟨#[60, 62]⟩) l.length = true) :
    Calls Tryz.prog 13 #[.string ⟨#[60, 62]⟩, .slice A l.length c] w fun e w' => e = .returned (pairV (applyO ⟨#[60, 62]⟩ l)) ∧ Below w.heap.size w w' := by
  have ef : applyO ⟨#[60, 62]⟩ l = applyN 5 l := apply_of (by decide +kernel) hf (by decide +kernel)
  rw [show arity ⟨#[60, 62]⟩ = (2, 2) by decide +kernel] at hf
  have hf2 := fits_yes hf
  clear hf
  dsimp only at hf2
  rw [ef]
  clear ef
  cases ha : allInt l with
  | true =>
    have e : applyN 5 l = numN 5 (nums l) := num_y ha
    rw [e]
    exact apply_5y A c l w hv (by omega) (by omega) ha
  | false =>
    have e : applyN 5 l = (v0, 8) := num_n (k := 5) ha
    rw [e]
    exact apply_5n A c l w hv (by omega) (by omega) ha
theorem applyC_6 (A : Option Addr) (c : Nat) (l : List Vl) (w : World) (_ht : Tab w) (hv : ValsAt w A l) (_hk : ∀ v ∈ l, okV v) (_hl : l.length ≤ 1000000) (hf : fits (arity ⟨#[61]⟩) l.length = true) :
    Calls Tryz.prog 13 #[.string ⟨#[61]⟩, .slice A l.length c] w fun e w' => e = .returned (pairV (applyO ⟨#[61]⟩ l)) ∧ Below w.heap.size w w' := by
  have ef : applyO ⟨#[61]⟩ l = applyN 6 l := apply_of (by decide +kernel) hf (by decide +kernel)
  rw [show arity ⟨#[61]⟩ = (2, 2) by decide +kernel] at hf
  have hf2 := fits_yes hf
  clear hf
  dsimp only at hf2
  rw [ef]
  clear ef
  cases ha : allInt l with
  | true =>
    have e : applyN 6 l = numN 6 (nums l) := num_y ha
    rw [e]
    exact apply_6y A c l w hv (by omega) (by omega) ha
  | false =>
    have e : applyN 6 l = (v0, 8) := num_n (k := 6) ha
    rw [e]
    exact apply_6n A c l w hv (by omega) (by omega) ha
theorem applyC_7 (A : Option Addr) (c : Nat) (l : List Vl) (w : World) (_ht : Tab w) (hv : ValsAt w A l) (_hk : ∀ v ∈ l, okV v) (hl : l.length ≤ 1000000) (hf : fits (arity ⟨#[62]⟩) l.length = true) :
    Calls Tryz.prog 13 #[.string ⟨#[62]⟩, .slice A l.length c] w fun e w' => e = .returned (pairV (applyO ⟨#[62]⟩ l)) ∧ Below w.heap.size w w' := by
  have ef : applyO ⟨#[62]⟩ l = applyN 7 l := apply_of (by decide +kernel) hf (by decide +kernel)
  rw [show arity ⟨#[62]⟩ = (2, -1) by decide +kernel] at hf
  have hf2 := fits_yes hf
  clear hf
  dsimp only at hf2
  rw [ef]
  clear ef
  cases ha : allInt l with
  | true =>
    have e : applyN 7 l = numN 7 (nums l) := num_y ha
    rw [e]
    exact apply_7y A c l w hv (by omega) hl ha
  | false =>
    have e : applyN 7 l = (v0, 8) := num_n (k := 7) ha
    rw [e]
    exact apply_7n A c l w hv (by omega) hl ha
theorem applyC_8 (A : Option Addr) (c : Nat) (l : List Vl) (w : World) (_ht : Tab w) (hv : ValsAt w A l) (_hk : ∀ v ∈ l, okV v) (hl : l.length ≤ 1000000) (hf : fits (arity ⟨#[62, 61]⟩) l.length = true) :
    Calls Tryz.prog 13 #[.string ⟨#[62, 61]⟩, .slice A l.length c] w fun e w' => e = .returned (pairV (applyO ⟨#[62, 61]⟩ l)) ∧ Below w.heap.size w w' := by
  have ef : applyO ⟨#[62, 61]⟩ l = applyN 8 l := apply_of (by decide +kernel) hf (by decide +kernel)
  rw [show arity ⟨#[62, 61]⟩ = (2, -1) by decide +kernel] at hf
  have hf2 := fits_yes hf
  clear hf
  dsimp only at hf2
  rw [ef]
  clear ef
  cases ha : allInt l with
  | true =>
    have e : applyN 8 l = numN 8 (nums l) := num_y ha
    rw [e]
    exact apply_8y A c l w hv (by omega) hl ha
  | false =>
    have e : applyN 8 l = (v0, 8) := num_n (k := 8) ha
    rw [e]
    exact apply_8n A c l w hv (by omega) hl ha
theorem applyC_9 (A : Option Addr) (c : Nat) (l : List Vl) (w : World) (_ht : Tab w) (hv : ValsAt w A l) (hk : ∀ v ∈ l, okV v) (_hl : l.length ≤ 1000000) (hf : fits (arity ⟨#[97, 98, 115]⟩) l.length = true) :
    Calls Tryz.prog 13 #[.string ⟨#[97, 98, 115]⟩, .slice A l.length c] w fun e w' => e = .returned (pairV (applyO ⟨#[97, 98, 115]⟩ l)) ∧ Below w.heap.size w w' := by
  have ef : applyO ⟨#[97, 98, 115]⟩ l = applyN 9 l := apply_of (by decide +kernel) hf (by decide +kernel)
  rw [show arity ⟨#[97, 98, 115]⟩ = (1, 1) by decide +kernel] at hf
  have hf2 := fits_yes hf
  clear hf
  dsimp only at hf2
  rw [ef]
  clear ef
  cases ha : allInt l with
  | true =>
    have e : applyN 9 l = numN 9 (nums l) := num_y ha
    rw [e]
    have hn : l.length = 1 := by omega
    rw [hn]
    exact apply_9y A c l w hv hk hn ha
  | false =>
    have e : applyN 9 l = (v0, 8) := num_n (k := 9) ha
    rw [e]
    have hn : l.length = 1 := by omega
    rw [hn]
    exact apply_9n A c l w hv hn ha
theorem applyC_10 (A : Option Addr) (c : Nat) (l : List Vl) (w : World) (_ht : Tab w) (hv : ValsAt w A l) (hk : ∀ v ∈ l, okV v) (_hl : l.length ≤ 1000000) (hf : fits (arity ⟨#[100, 105, 118]⟩) l.length = true) :
    Calls Tryz.prog 13 #[.string ⟨#[100, 105, 118]⟩, .slice A l.length c] w fun e w' => e = .returned (pairV (applyO ⟨#[100, 105, 118]⟩ l)) ∧ Below w.heap.size w w' := by
  have ef : applyO ⟨#[100, 105, 118]⟩ l = applyN 10 l := apply_of (by decide +kernel) hf (by decide +kernel)
  rw [show arity ⟨#[100, 105, 118]⟩ = (2, 2) by decide +kernel] at hf
  have hf2 := fits_yes hf
  clear hf
  dsimp only at hf2
  rw [ef]
  clear ef
  cases ha : allInt l with
  | true =>
    have e : applyN 10 l = numN 10 (nums l) := num_y ha
    rw [e]
    have hn : l.length = 2 := by omega
    rw [hn]
    exact apply_10y A c l w hv hk hn ha
  | false =>
    have e : applyN 10 l = (v0, 8) := num_n (k := 10) ha
    rw [e]
    have hn : l.length = 2 := by omega
    rw [hn]
    exact apply_10n A c l w hv hn ha
theorem applyC_11 (A : Option Addr) (c : Nat) (l : List Vl) (w : World) (_ht : Tab w) (hv : ValsAt w A l) (_hk : ∀ v ∈ l, okV v) (_hl : l.length ≤ 1000000) (hf : fits (arity ⟨#[101, 113]⟩) l.length = true) :
    Calls Tryz.prog 13 #[.string ⟨#[101, 113]⟩, .slice A l.length c] w fun e w' => e = .returned (pairV (applyO ⟨#[101, 113]⟩ l)) ∧ Below w.heap.size w w' := by
  have ef : applyO ⟨#[101, 113]⟩ l = applyN 11 l := apply_of (by decide +kernel) hf (by decide +kernel)
  rw [show arity ⟨#[101, 113]⟩ = (2, 2) by decide +kernel] at hf
  have hf2 := fits_yes hf
  clear hf
  dsimp only at hf2
  rw [ef]
  clear ef
  obtain ⟨a, b, rfl⟩ := len_two (l := l) (by omega)
  exact apply_eq A c a b w hv
theorem applyC_12 (A : Option Addr) (c : Nat) (l : List Vl) (w : World) (_ht : Tab w) (hv : ValsAt w A l) (_hk : ∀ v ∈ l, okV v) (_hl : l.length ≤ 1000000) (hf : fits (arity ⟨#[108, 101, 110, 103, 116, 104]⟩) l.length = true) :
    Calls Tryz.prog 13 #[.string ⟨#[108, 101, 110, 103, 116, 104]⟩, .slice A l.length c] w fun e w' => e = .returned (pairV (applyO ⟨#[108, 101, 110, 103, 116, 104]⟩ l)) ∧ Below w.heap.size w w' := by
  have ef : applyO ⟨#[108, 101, 110, 103, 116, 104]⟩ l = applyN 12 l := apply_of (by decide +kernel) hf (by decide +kernel)
  rw [show arity ⟨#[108, 101, 110, 103, 116, 104]⟩ = (1, 1) by decide +kernel] at hf
  have hf2 := fits_yes hf
  clear hf
  dsimp only at hf2
  rw [ef]
  clear ef
  obtain ⟨a, rfl⟩ := len_one (l := l) (by omega)
  by_cases h3 : a.1 = 3
  · have e : applyN 12 [a] = (vI a.2.2.size, 0) := if_neg (fun h => h h3)
    rw [e]
    exact apply_len2 A c a w hv h3
  · have e : applyN 12 [a] = (v0, 8) := if_pos h3
    rw [e]
    exact apply_len1 A c a w hv h3
theorem applyC_13 (A : Option Addr) (c : Nat) (l : List Vl) (w : World) (_ht : Tab w) (hv : ValsAt w A l) (hk : ∀ v ∈ l, okV v) (hl : l.length ≤ 1000000) (hf : fits (arity ⟨#[109, 97, 120]⟩) l.length = true) :
    Calls Tryz.prog 13 #[.string ⟨#[109, 97, 120]⟩, .slice A l.length c] w fun e w' => e = .returned (pairV (applyO ⟨#[109, 97, 120]⟩ l)) ∧ Below w.heap.size w w' := by
  have ef : applyO ⟨#[109, 97, 120]⟩ l = applyN 13 l := apply_of (by decide +kernel) hf (by decide +kernel)
  rw [show arity ⟨#[109, 97, 120]⟩ = (1, -1) by decide +kernel] at hf
  have hf2 := fits_yes hf
  clear hf
  dsimp only at hf2
  rw [ef]
  clear ef
  cases ha : allInt l with
  | true =>
    have e : applyN 13 l = numN 13 (nums l) := num_y ha
    rw [e]
    exact apply_13y A c l w hv hk (by omega) hl ha
  | false =>
    have e : applyN 13 l = (v0, 8) := num_n (k := 13) ha
    rw [e]
    exact apply_13n A c l w hv (by omega) hl ha
theorem applyC_14 (A : Option Addr) (c : Nat) (l : List Vl) (w : World) (_ht : Tab w) (hv : ValsAt w A l) (hk : ∀ v ∈ l, okV v) (hl : l.length ≤ 1000000) (hf : fits (arity ⟨#[109, 105, 110]⟩) l.length = true) :
    Calls Tryz.prog 13 #[.string ⟨#[109, 105, 110]⟩, .slice A l.length c] w fun e w' => e = .returned (pairV (applyO ⟨#[109, 105, 110]⟩ l)) ∧ Below w.heap.size w w' := by
  have ef : applyO ⟨#[109, 105, 110]⟩ l = applyN 14 l := apply_of (by decide +kernel) hf (by decide +kernel)
  rw [show arity ⟨#[109, 105, 110]⟩ = (1, -1) by decide +kernel] at hf
  have hf2 := fits_yes hf
  clear hf
  dsimp only at hf2
  rw [ef]
  clear ef
  cases ha : allInt l with
  | true =>
    have e : applyN 14 l = numN 14 (nums l) := num_y ha
    rw [e]
    exact apply_14y A c l w hv hk (by omega) hl ha
  | false =>
    have e : applyN 14 l = (v0, 8) := num_n (k := 14) ha
    rw [e]
    exact apply_14n A c l w hv (by omega) hl ha
theorem applyC_15 (A : Option Addr) (c : Nat) (l : List Vl) (w : World) (_ht : Tab w) (hv : ValsAt w A l) (hk : ∀ v ∈ l, okV v) (_hl : l.length ≤ 1000000) (hf : fits (arity ⟨#[109, 111, 100]⟩) l.length = true) :
    Calls Tryz.prog 13 #[.string ⟨#[109, 111, 100]⟩, .slice A l.length c] w fun e w' => e = .returned (pairV (applyO ⟨#[109, 111, 100]⟩ l)) ∧ Below w.heap.size w w' := by
  have ef : applyO ⟨#[109, 111, 100]⟩ l = applyN 15 l := apply_of (by decide +kernel) hf (by decide +kernel)
  rw [show arity ⟨#[109, 111, 100]⟩ = (2, 2) by decide +kernel] at hf
  have hf2 := fits_yes hf
  clear hf
  dsimp only at hf2
  rw [ef]
  clear ef
  cases ha : allInt l with
  | true =>
    have e : applyN 15 l = numN 15 (nums l) := num_y ha
    rw [e]
    have hn : l.length = 2 := by omega
    rw [hn]
    exact apply_15y A c l w hv hk hn ha
  | false =>
    have e : applyN 15 l = (v0, 8) := num_n (k := 15) ha
    rw [e]
    have hn : l.length = 2 := by omega
    rw [hn]
    exact apply_15n A c l w hv hn ha
theorem applyC_16 (A : Option Addr) (c : Nat) (l : List Vl) (w : World) (_ht : Tab w) (hv : ValsAt w A l) (_hk : ∀ v ∈ l, okV v) (_hl : l.length ≤ 1000000) (hf : fits (arity ⟨#[110, 101, 113]⟩) l.length = true) :
    Calls Tryz.prog 13 #[.string ⟨#[110, 101, 113]⟩, .slice A l.length c] w fun e w' => e = .returned (pairV (applyO ⟨#[110, 101, 113]⟩ l)) ∧ Below w.heap.size w w' := by
  have ef : applyO ⟨#[110, 101, 113]⟩ l = applyN 16 l := apply_of (by decide +kernel) hf (by decide +kernel)
  rw [show arity ⟨#[110, 101, 113]⟩ = (2, 2) by decide +kernel] at hf
  have hf2 := fits_yes hf
  clear hf
  dsimp only at hf2
  rw [ef]
  clear ef
  obtain ⟨a, b, rfl⟩ := len_two (l := l) (by omega)
  exact apply_neq A c a b w hv
theorem applyC_17 (A : Option Addr) (c : Nat) (l : List Vl) (w : World) (_ht : Tab w) (hv : ValsAt w A l) (_hk : ∀ v ∈ l, okV v) (_hl : l.length ≤ 1000000) (hf : fits (arity ⟨#[110, 111, 116]⟩) l.length = true) :
    Calls Tryz.prog 13 #[.string ⟨#[110, 111, 116]⟩, .slice A l.length c] w fun e w' => e = .returned (pairV (applyO ⟨#[110, 111, 116]⟩ l)) ∧ Below w.heap.size w w' := by
  have ef : applyO ⟨#[110, 111, 116]⟩ l = applyN 17 l := apply_of (by decide +kernel) hf (by decide +kernel)
  rw [show arity ⟨#[110, 111, 116]⟩ = (1, 1) by decide +kernel] at hf
  have hf2 := fits_yes hf
  clear hf
  dsimp only at hf2
  rw [ef]
  clear ef
  obtain ⟨a, rfl⟩ := len_one (l := l) (by omega)
  exact apply_not A c a w hv
theorem applyC_18 (A : Option Addr) (c : Nat) (l : List Vl) (w : World) (ht : Tab w) (hv : ValsAt w A l) (hk : ∀ v ∈ l, okV v) (hl : l.length ≤ 1000000) (hf : fits (arity ⟨#[115, 116, 114, 45, 99, 97, 116]⟩) l.length = true) :
    Calls Tryz.prog 13 #[.string ⟨#[115, 116, 114, 45, 99, 97, 116]⟩, .slice A l.length c] w fun e w' => e = .returned (pairV (applyO ⟨#[115, 116, 114, 45, 99, 97, 116]⟩ l)) ∧ Below w.heap.size w w' := by
  have ef : applyO ⟨#[115, 116, 114, 45, 99, 97, 116]⟩ l = applyN 18 l := apply_of (by decide +kernel) hf (by decide +kernel)
  rw [show arity ⟨#[115, 116, 114, 45, 99, 97, 116]⟩ = (0, -1) by decide +kernel] at hf
  have hf2 := fits_yes hf
  clear hf
  dsimp only at hf2
  rw [ef]
  clear ef
  by_cases hs : (cat l).size ≤ 1000
  · have e : applyN 18 l = (vT (cat l), 0) := by show strCat l = _; unfold strCat joinO; rw [if_pos hs]; rfl
    rw [e]
    exact apply_str_yes A c l w ht hv hk hl hs
  · have e : applyN 18 l = (v0, 4) := by show strCat l = _; unfold strCat joinO; rw [if_neg hs]; rfl
    rw [e]
    exact apply_str_no A c l w ht hv hk hl hs
theorem applyC_19 (A : Option Addr) (c : Nat) (l : List Vl) (w : World) (ht : Tab w) (hv : ValsAt w A l) (hk : ∀ v ∈ l, okV v) (hl : l.length ≤ 1000000) (hf : fits (arity ⟨#[115, 121, 109, 45, 99, 97, 116]⟩) l.length = true) :
    Calls Tryz.prog 13 #[.string ⟨#[115, 121, 109, 45, 99, 97, 116]⟩, .slice A l.length c] w fun e w' => e = .returned (pairV (applyO ⟨#[115, 121, 109, 45, 99, 97, 116]⟩ l)) ∧ Below w.heap.size w w' := by
  have ef : applyO ⟨#[115, 121, 109, 45, 99, 97, 116]⟩ l = applyN 19 l := apply_of (by decide +kernel) hf (by decide +kernel)
  rw [show arity ⟨#[115, 121, 109, 45, 99, 97, 116]⟩ = (1, -1) by decide +kernel] at hf
  have hf2 := fits_yes hf
  clear hf
  dsimp only at hf2
  rw [ef]
  clear ef
  have h1 : 1 ≤ l.length := by omega
  by_cases hs : (cat l).size ≤ 40
  · cases hr : rightB (vS (cat l)) with
    | true =>
      have e : applyN 19 l = (vS (cat l), 0) := by show symCat l = _; unfold symCat joinO; rw [if_pos hs]; simp [hr]
      rw [e]
      exact apply_sym_true A c l w ht hv hk hl h1 hs hr
    | false =>
      have e : applyN 19 l = (v0, 2) := by show symCat l = _; unfold symCat joinO; rw [if_pos hs]; simp [hr]
      rw [e]
      exact apply_sym_false A c l w ht hv hk hl h1 hs hr
  · have e : applyN 19 l = (v0, 4) := by show symCat l = _; unfold symCat joinO; rw [if_neg hs]; rfl
    rw [e]
    exact apply_sym_no A c l w ht hv hk hl h1 hs
theorem applyC_20 (A : Option Addr) (c : Nat) (l : List Vl) (w : World) (_ht : Tab w) (hv : ValsAt w A l) (_hk : ∀ v ∈ l, okV v) (_hl : l.length ≤ 1000000) (hf : fits (arity ⟨#[116, 121, 112, 101]⟩) l.length = true) :
    Calls Tryz.prog 13 #[.string ⟨#[116, 121, 112, 101]⟩, .slice A l.length c] w fun e w' => e = .returned (pairV (applyO ⟨#[116, 121, 112, 101]⟩ l)) ∧ Below w.heap.size w w' := by
  have ef : applyO ⟨#[116, 121, 112, 101]⟩ l = applyN 20 l := apply_of (by decide +kernel) hf (by decide +kernel)
  rw [show arity ⟨#[116, 121, 112, 101]⟩ = (1, 1) by decide +kernel] at hf
  have hf2 := fits_yes hf
  clear hf
  dsimp only at hf2
  rw [ef]
  clear ef
  obtain ⟨a, rfl⟩ := len_one (l := l) (by omega)
  exact apply_type A c a w hv
theorem apply_c (s : ByteArray) (A : Option Addr) (c : Nat) (l : List Vl) (w : World) (ht : Tab w) (hv : ValsAt w A l) (hk : ∀ v ∈ l, okV v) (hl : l.length ≤ 1000000) :
    Calls Tryz.prog 13 #[.string s, .slice A l.length c] w fun e w' => e = .returned (pairV (applyO s l)) ∧ Below w.heap.size w w' := by
  by_cases hs : s ∈ namB
  · cases hf : fits (arity s) l.length with
    | false =>
      have e : applyO s l = (v0, 1) := by unfold applyO; rw [known_yes hs, hf]; rfl
      rw [e]
      exact apply_args s hs A l.length c hf w
    | true =>
      rcases name_cases hs with rfl | rfl | rfl | rfl | rfl | rfl | rfl | rfl | rfl | rfl | rfl | rfl | rfl | rfl | rfl | rfl | rfl | rfl | rfl | rfl | rfl
      · exact applyC_0 A c l w ht hv hk hl hf
      · exact applyC_1 A c l w ht hv hk hl hf
      · exact applyC_2 A c l w ht hv hk hl hf
      · exact applyC_3 A c l w ht hv hk hl hf
      · exact applyC_4 A c l w ht hv hk hl hf
      · exact applyC_5 A c l w ht hv hk hl hf
      · exact applyC_6 A c l w ht hv hk hl hf
      · exact applyC_7 A c l w ht hv hk hl hf
      · exact applyC_8 A c l w ht hv hk hl hf
      · exact applyC_9 A c l w ht hv hk hl hf
      · exact applyC_10 A c l w ht hv hk hl hf
      · exact applyC_11 A c l w ht hv hk hl hf
      · exact applyC_12 A c l w ht hv hk hl hf
      · exact applyC_13 A c l w ht hv hk hl hf
      · exact applyC_14 A c l w ht hv hk hl hf
      · exact applyC_15 A c l w ht hv hk hl hf
      · exact applyC_16 A c l w ht hv hk hl hf
      · exact applyC_17 A c l w ht hv hk hl hf
      · exact applyC_18 A c l w ht hv hk hl hf
      · exact applyC_19 A c l w ht hv hk hl hf
      · exact applyC_20 A c l w ht hv hk hl hf
  · have e : applyO s l = (v0, 5) := by unfold applyO; rw [known_no hs]; rfl
    rw [e]
    exact apply_unknown s hs A l.length c w
end Go.Proofs.YtmadnehipagakaaGreatDoor
