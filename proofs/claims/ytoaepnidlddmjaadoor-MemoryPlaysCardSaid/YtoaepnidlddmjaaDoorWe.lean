/- The search for a fact's number. -/
import Derived.Test.YtoaepnidlddmjaaDoorWd
namespace Go.Proofs.YtoaepnidlddmjaaDoor
open Go.RowKit Go.Lib Go.Sort KP RW
abbrev FactsAt (N : Nat → Prop) (W : World) (A : Option Addr) (l : List Fx) : Prop := RowsAt fxc 3 N W A l
theorem facts_at {N : Nat → Prop} {W : World} {A : Option Addr} {l : List Fx} (h : FactsAt N W A l) {k : Nat} (hk : k < l.length) : ∃ ad, A = some ad ∧ ¬ N ad.block ∧ W.cell? (ad.add (k * 3)) = some (.int .i64 l[k].f.1) ∧ W.cell? ⟨(ad.add (k * 3)).block, (ad.add (k * 3)).off + 1, none⟩ = some (.string l[k].f.2.1) ∧ W.cell? ⟨(ad.add (k * 3)).block, (ad.add (k * 3)).off + 2, none⟩ = some l[k].v := by
  obtain ⟨ad, e, hn, hc⟩ := h k hk
  refine ⟨ad, e, hn, ?_, hc 1 _ rfl, hc 2 _ rfl⟩
  have := hc 0 _ rfl
  simpa [Addr.add] using this
/-- Facts' numbers rise. -/
def Rise (xs : List Fx) : Prop := xs.Pairwise fun x y => x.f.1 < y.f.1
theorem Rise.lt {xs : List Fx} (h : Rise xs) {i j : Nat} (hi : i < xs.length) (hj : j < xs.length) (hij : i < j) : xs[i].f.1 < xs[j].f.1 := List.pairwise_iff_getElem.1 h i j hi hj hij
theorem Rise.le {xs : List Fx} (h : Rise xs) {i j : Nat} (hi : i < xs.length) (hj : j < xs.length) (hij : i ≤ j) : xs[i].f.1 ≤ xs[j].f.1 := by
  rcases Nat.lt_or_eq_of_le hij with h' | h'
  · exact Int.le_of_lt (h.lt hi hj h')
  · subst h'; exact Int.le_refl _
def Found (xs : List Fx) (y : Int) (i : Nat) (b : Bool) : Prop := (b = true → ∃ h : i < xs.length, xs[i].f.1 = y) ∧ (b = false → ∀ k (h : k < xs.length), xs[k].f.1 ≠ y)
def Told (xs : List Fx) (y : Int) (w : World) (e : Ending) (w' : World) : Prop := ∃ i b, e = .returned (.tuple #[.int .i64 (i : Nat), .bool b]) ∧ Found xs y i b ∧ Below w.heap.size w w'
theorem half_ok {i j : Nat} (h : i < j) : i ≤ (i + j) / 2 ∧ (i + j) / 2 < j := by omega
theorem cmp_lt {x y : Int} (h : x < y) : (decide (cmpI x y < 0)) = true := by unfold cmpI; rw [if_pos h]; rfl
theorem cmp_ge {x y : Int} (h : ¬ x < y) : (decide (cmpI x y < 0)) = false := by unfold cmpI; rw [if_neg h]; split <;> rfl
theorem cmp_eq {x y : Int} (h : x = y) : (cmpI x y == 0) = true := by unfold cmpI; subst h; simp
theorem cmp_ne {x y : Int} (h : ¬ x = y) : (cmpI x y == 0) = false := by unfold cmpI; split <;> (try split) <;> first | rfl | (exfalso; omega)
set_option maxRecDepth 100000 in
set_option maxHeartbeats 2000000 in
theorem search_c (A : Option Addr) (c : Nat) (xs : List Fx) (y : Int) (w : World) (hI : FactsAt (fun _ => False) w A xs) (hr : Rise xs) (hl : xs.length ≤ 100000) :
    Calls Tryd.prog 35 #[.slice A xs.length c, .int .i64 y, .func (.func 36) #[] #[]] w (Told xs y w) := by
  have V := Lib.hid (fun W (h : Below w.heap.size w W) => hI.below h)
  have R := Lib.hid hr
  have hlI : (xs.length : Int) ≤ 100000 := by omega
  clear hI hr
  go_enter Tryd.func35, Tryd.ntmps35
  go_wp2_with fail
  go_loopw [9, 10, 11] (fun i j _ wr => ∃ p q : Nat, p ≤ q ∧ q ≤ xs.length ∧ i = .int .i64 p ∧ j = .int .i64 q ∧ Hid (∀ k (h : k < xs.length), k < p → xs[k].f.1 < y) ∧ Hid (∀ k (h : k < xs.length), q ≤ k → y ≤ xs[k].f.1) ∧ Hid (Below w.heap.size w wr)) (fun i j _ _ => ((RowKit.intOf j) - (RowKit.intOf i)).toNat)
  case atStart => exact ⟨0, xs.length, by omega, Nat.le_refl _, rfl, rfl, Lib.hid (fun _ _ h => by omega), Lib.hid (fun _ h1 h2 => by omega), Lib.hid (Below.refl _ _)⟩
  case round =>
    obtain ⟨p, q, hpq, hq, rfl, rfl, hlo, hhi, hB⟩ := hrel
    by_cases hlt : p < q
    · have hltI : (p : Int) < (q : Int) := by omega
      have hqI : (q : Int) ≤ (xs.length : Int) := by omega
      have hh := half_ok hlt
      have hhl : (p + q) / 2 < xs.length := by omega
      obtain ⟨ad, rfl, _, c0, c1, c2⟩ := facts_at (V.out _ hB.out) hhl
      have EL : Hid (xs[(p + q) / 2].f.1 < y → ∀ k (h : k < xs.length), k < (p + q) / 2 + 1 → xs[k].f.1 < y) := Lib.hid (fun h k hk hkk => Int.lt_of_le_of_lt (R.out.le hk hhl (by omega)) h)
      have EH : Hid (¬ xs[(p + q) / 2].f.1 < y → ∀ k (h : k < xs.length), (p + q) / 2 ≤ k → y ≤ xs[k].f.1) := Lib.hid (fun h k hk hkk => Int.le_trans (Int.not_lt.1 h) (R.out.le hhl hk hkk))
      generalize xs[(p + q) / 2] = x at *
      obtain ⟨⟨x1, x2, x3⟩, xv⟩ := x
      dsimp only at c0 c1 c2 EL EH
      generalize hm : (p + q) / 2 = mid at *
      by_cases hx : x1 < y
      · have cl := cmp_lt hx
        have EL2 := Lib.hid (EL.out hx)
        clear hx EH EL
        go_wp2_with fail
        rw [show (((p : Int) + (q : Int)) / 2) = (mid : Int) by omega]
        go_wp2_with fail
        refine (at1_c x1 y x2 xv wr).mono ?_
        rintro e w1 ⟨rfl, b1⟩
        have E1 := Lib.hid (hB.out.trans (b1.mono hB.out.size))
        clear b1 c0 c1 c2
        go_wp2_with fail
        go_roundw
        case rel => exact ⟨mid + 1, q, by omega, hq, by go_num, rfl, EL2, hhi, E1⟩
        case measure => simp [RowKit.intOf]; omega
      · have cl := cmp_ge hx
        have EH2 := Lib.hid (EH.out hx)
        clear hx EL EH
        go_wp2_with fail
        refine (at1_c x1 y x2 xv wr).mono ?_
        rintro e w1 ⟨rfl, b1⟩
        have E1 := Lib.hid (hB.out.trans (b1.mono hB.out.size))
        clear b1 c0 c1 c2
        go_wp2_with fail
        go_roundw
        case rel => exact ⟨p, mid, by omega, by omega, rfl, by go_num, hlo, EH2, E1⟩
        case measure => simp [RowKit.intOf]; omega
    · obtain rfl : p = q := by omega
      by_cases hlt2 : p < xs.length
      · have hltI : (p : Int) < (xs.length : Int) := by omega
        obtain ⟨ad, rfl, _, c0, c1, c2⟩ := facts_at (V.out _ hB.out) hlt2
        have FY : Hid (∀ b, decide (xs[p].f.1 = y) = b → Found xs y p b) := Lib.hid (fun b hb => by
          constructor
          · rintro rfl
            exact ⟨hlt2, of_decide_eq_true hb⟩
          · rintro rfl k hk e
            have h1 : ¬ xs[p].f.1 = y := of_decide_eq_false hb
            rcases Nat.lt_trichotomy k p with h | h | h
            · have := hlo.out k hk h; omega
            · subst h; exact h1 e
            · have := R.out.lt hlt2 hk h
              have := hhi.out p hlt2 (Nat.le_refl _)
              omega)
        generalize xs[p] = x at *
        obtain ⟨⟨x1, x2, x3⟩, xv⟩ := x
        dsimp only at c0 c1 c2 FY
        by_cases hx : x1 = y
        · have cl := cmp_eq hx
          have FZ := Lib.hid (FY.out true (decide_eq_true hx))
          clear hx FY
          go_wp2_with fail
          refine (at1_c x1 y x2 xv wr).mono ?_
          rintro e w1 ⟨rfl, b1⟩
          have E1 := Lib.hid (hB.out.trans (b1.mono hB.out.size))
          clear b1 c0 c1 c2
          go_wp2_with fail
          go_ret2
          exact ⟨p, true, rfl, FZ.out, E1.out⟩
        · have cl := cmp_ne hx
          have FZ := Lib.hid (FY.out false (decide_eq_false hx))
          clear hx FY
          go_wp2_with fail
          refine (at1_c x1 y x2 xv wr).mono ?_
          rintro e w1 ⟨rfl, b1⟩
          have E1 := Lib.hid (hB.out.trans (b1.mono hB.out.size))
          clear b1 c0 c1 c2
          go_wp2_with fail
          go_ret2
          exact ⟨p, false, rfl, FZ.out, E1.out⟩
      · have hltI : ¬ (p : Int) < (xs.length : Int) := by omega
        have FY : Hid (Found xs y p false) := Lib.hid ⟨(fun h => by cases h), fun _ k hk e => by have := hlo.out k hk (by omega); omega⟩
        have hd : decide ((p : Int) < (xs.length : Int)) = false := decide_eq_false hltI
        have hd2 : decide (p < xs.length) = false := decide_eq_false hlt2
        go_wp2_with fail
        go_ret2
        exact ⟨p, false, rfl, FY.out, hB.out⟩
end Go.Proofs.YtoaepnidlddmjaaDoor
