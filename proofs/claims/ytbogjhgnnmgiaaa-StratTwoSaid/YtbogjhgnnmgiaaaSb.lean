/- strat.first, slices.Compare, cmp.Or. -/
import Derived.Test.YtbogjhgnnmgiaaaSa
namespace Go.Proofs.Ytbogjhgnnmgiaaa
open Go.Shelf Go.RowKit Go.Lib

/-- slices.Compare on lists. -/
def cmpList : List Int → List Int → Int
  | [], [] => 0
  | [], _ :: _ => -1
  | _ :: _, [] => 1
  | x :: xs, y :: ys => if Lib.compareInt x y ≠ 0 then Lib.compareInt x y else cmpList xs ys
theorem cmpList_step {l m : List Int} {k : Nat} (h1 : k < l.length) (h2 : k < m.length) : cmpList (l.drop k) (m.drop k) = if Lib.compareInt l[k] m[k] ≠ 0 then Lib.compareInt l[k] m[k] else cmpList (l.drop (k + 1)) (m.drop (k + 1)) := by
  rw [List.drop_eq_getElem_cons h1, List.drop_eq_getElem_cons h2]; rfl
def orI (a b : Int) : Int := if a ≠ 0 then a else b
def firstI (l : List Int) : Int := l.headD 0

theorem ret_bool {a b : Bool} (h : a = b) : Ending.returned (.bool a) = .returned (.bool b) := by rw [h]
theorem ret_int {k : IntKind} {a b : Int} (h : a = b) : Ending.returned (.int k a) = .returned (.int k b) := by rw [h]
theorem add0 (a : Addr) : a.add 0 = a := by simp [Addr.add]
theorem first_any (A : Option Addr) (l : List Int) (c : Nat) (w : World) (h : RowAt w (Value.int .i64) A l) :
    Calls Try.prog 31 #[.slice A l.length c] w fun e w' => e = .returned (.int .i64 (firstI l)) ∧ w = w' := by
  cases l with
  | nil =>
    go_enter Try.func31, Try.ntmps31
    go_wp2
    go_ret
    exact ⟨rfl, rfl⟩
  | cons x l =>
    obtain ⟨a, rfl, _, hc⟩ := h 0 (by simp)
    have hl : (((x :: l).length : Int) == 0) = false := beq_eq_false_iff_ne.2 (by simp; omega)
    have hl2 : (0 : Int) < ((x :: l).length : Int) := by simp
    simp only [List.getElem_cons_zero, add0] at hc
    simp only [firstI, List.headD_cons]
    generalize (x :: l).length = n at hl hl2 ⊢
    go_enter Try.func31, Try.ntmps31
    go_wp2
    go_ret
    exact ⟨rfl, rfl⟩

set_option maxHeartbeats 800000 in
theorem compare_any (A B : Option Addr) (l m : List Int) (c d : Nat) (w : World) (h : RowAt w (Value.int .i64) A l) (h' : RowAt w (Value.int .i64) B m) (hl : l.length ≤ 1000) (hm : m.length ≤ 1000) :
    Calls Try.prog 32 #[.slice A l.length c, .slice B m.length d] w fun e w' => e = .returned (.int .i64 (cmpList l m)) ∧ w = w' := by
  have H1 := Lib.hid h; clear h
  have H2 := Lib.hid h'; clear h'
  go_enter Try.func32, Try.ntmps32
  go_wp2
  go_loop [5, 6, 7, 8, 11] (fun _ _ _ _ i => ∃ k : Nat, k ≤ l.length ∧ k ≤ m.length ∧ i = .int .i64 k ∧ cmpList l m = cmpList (l.drop k) (m.drop k)) (fun _ _ _ _ i => l.length - (intOf i).toNat)
  case atStart => exact ⟨0, by omega, by omega, rfl, rfl⟩
  case round =>
    obtain ⟨k, hk, hk2, rfl, hc⟩ := hrel
    by_cases hlt : k < l.length
    · obtain ⟨a, rfl, _, ha⟩ := H1.out k hlt
      by_cases hlt2 : k < m.length
      · obtain ⟨b, rfl, _, hb⟩ := H2.out k hlt2
        rw [cmpList_step hlt hlt2] at hc
        have hcon := fun W => cmp_c l[k] m[k] W
        by_cases h0 : Lib.compareInt l[k] m[k] = 0
        · rw [if_neg (by omega)] at hc
          rw [h0] at hcon
          have HCL := Lib.hid hc; clear hc
          have HC := Lib.hid hcon; clear hcon
          go_wp2_with (go_at_call 29; refine (HC.out _).mono ?_; rintro e w' ⟨rfl, rfl⟩)
          go_round
          case rel => exact ⟨k + 1, by omega, by omega, by go_num, HCL.out⟩
          case measure => simp [intOf]; omega
        · rw [if_pos h0] at hc
          have h0' : (Lib.compareInt l[k] m[k] == 0) = false := beq_eq_false_iff_ne.2 h0
          generalize Lib.compareInt l[k] m[k] = r at *
          have HCL := Lib.hid hc; clear hc
          have HC := Lib.hid hcon; clear hcon
          go_wp2_with (go_at_call 29; refine (HC.out _).mono ?_; rintro e w' ⟨rfl, rfl⟩)
          go_ret
          exact ⟨ret_int HCL.out.symm, rfl⟩
      · have hk3 : k = m.length := by omega
        have hr : cmpList l m = 1 := by
          rw [hc, hk3, List.drop_length, ← hk3, List.drop_eq_getElem_cons hlt]; rfl
        have HR := Lib.hid hr; clear hr; clear hc
        have hge : (m.length : Int) ≤ (k : Int) := by omega
        clear hk3 hlt2
        go_wp2
        go_ret
        exact ⟨ret_int HR.out.symm, rfl⟩
    · have hk3 : k = l.length := by omega
      subst hk3
      rw [List.drop_length] at hc
      by_cases hm : l.length < m.length
      · have hr : cmpList l m = -1 := by rw [hc, List.drop_eq_getElem_cons hm]; rfl
        have HR := Lib.hid hr; clear hr; clear hc
        go_wp2
        go_ret
        exact ⟨ret_int HR.out.symm, rfl⟩
      · have hr : cmpList l m = 0 := by rw [hc, List.drop_eq_nil_of_le (by omega)]; rfl
        have HR := Lib.hid hr; clear hr; clear hc
        go_wp2
        go_ret
        exact ⟨ret_int HR.out.symm, rfl⟩

set_option maxHeartbeats 400000 in
theorem or_any (g : Nat) (x y : Int) (w : World) (h : RowAt w (Value.int .i64) (some ⟨g, 0, none⟩) [x, y]) :
    Calls Try.prog 33 #[.slice (some ⟨g, 0, none⟩) 2 2] w fun e w' => e = .returned (.int .i64 (orI x y)) ∧ w = w' := by
  obtain ⟨a1, e1, _, h0⟩ := h 0 (by simp)
  obtain ⟨a2, e2, _, h1⟩ := h 1 (by simp)
  injection e1 with e1; subst e1
  injection e2 with e2; subst e2
  clear h
  simp only [List.getElem_cons_zero, List.getElem_cons_succ, add0, show (⟨g, 0, none⟩ : Addr).add 1 = ⟨g, 1, none⟩ from rfl] at h0 h1
  go_enter Try.func33, Try.ntmps33
  go_wp2
  go_loop [5, 8] (fun _ i => (i = .int .i64 0) ∨ (i = .int .i64 1 ∧ x = 0) ∨ (i = .int .i64 2 ∧ x = 0 ∧ y = 0)) (fun _ i => 2 - (intOf i).toNat)
  case atStart => exact .inl rfl
  case round =>
    rcases hrel with rfl | ⟨rfl, rfl⟩ | ⟨rfl, rfl, rfl⟩
    · by_cases hx : x = 0
      · subst hx
        go_wp2
        go_round
        case rel => exact .inr (.inl ⟨rfl, trivial⟩)
        case measure => decide
      · have hx' : (x == 0) = false := beq_eq_false_iff_ne.2 hx
        go_wp2
        go_ret
        exact ⟨ret_int (by simp [orI, hx]), rfl⟩
    · by_cases hy : y = 0
      · subst hy
        go_wp2
        go_round
        case rel => exact .inr (.inr ⟨rfl, trivial, trivial⟩)
        case measure => decide
      · have hy' : (y == 0) = false := beq_eq_false_iff_ne.2 hy
        go_wp2
        go_ret
        exact ⟨ret_int (by simp [orI]), rfl⟩
    · go_wp2
      go_ret
      exact ⟨ret_int (by simp [orI]), rfl⟩
end Go.Proofs.Ytbogjhgnnmgiaaa
