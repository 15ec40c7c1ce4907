/- strat.rank joined; strat.Before. -/
import Derived.Test.YtbogjhgnnmgiaaaSd
namespace Go.Proofs.Ytbogjhgnnmgiaaa
open Go.Shelf Go.RowKit Go.Lib

/-- A way to fire, as it lies in a value. -/
structure AV where
  r : Int
  al : Int
  A : Option Addr
  l : List Int
  c : Nat
  sa : Int
  sp : Int
  bo : Int
  ke : Int
abbrev AV.v (a : AV) : Value := .agg #[.int .i64 a.r, .int .i64 a.al, .slice a.A a.l.length a.c, .int .i64 a.sa, .int .i64 a.sp, .int .i64 a.bo, .int .i64 a.ke]
structure AV.ok (a : AV) (w : World) : Prop where
  row : RowAt w (Value.int .i64) a.A a.l
  nil : a.A = none → a.c = 0
  few : a.l.length ≤ 1000
theorem AV.ok.below {a : AV} {w w' : World} (h : a.ok w) (hb : Below w.heap.size w w') : a.ok w' := ⟨h.row.below hb, h.nil, h.few⟩
def rk (s : Int) (a b : AV) : Int := rankF s a.sa a.l a.sp a.bo a.ke b.sa b.l b.sp b.bo b.ke
def before (s : Int) (a b : AV) : Bool := decide (rk s a b < 0)

theorem rank_any (s : Int) (a b : AV) (w : World) (ha : a.ok w) (hb : b.ok w) :
    Calls Try.prog 20 #[.int .i64 s, a.v, b.v] w fun e w' => e = .returned (.int .i64 (rk s a b)) ∧ Below w.heap.size w w' := by
  unfold rk rankF
  by_cases h0 : cI b.sa a.sa = 0
  · have hs : (Lib.compareInt b.sa a.sa == 0) = true := by rw [show Lib.compareInt b.sa a.sa = 0 from h0]; rfl
    rw [if_neg (by simp [h0])]
    by_cases e2 : s = 2
    · rw [if_pos e2]; subst e2; exact rank2 _ _ _ _ _ _ _ _ _ _ _ _ _ _ _ _ _ _ w hs
    rw [if_neg e2]
    by_cases e3 : s = 3
    · rw [if_pos e3]; subst e3; exact rank3 _ _ _ _ _ _ _ _ _ _ _ _ _ _ _ _ _ _ w hs
    rw [if_neg e3]
    by_cases e7 : s = 7
    · rw [if_pos e7]; subst e7; exact rank7 _ _ _ _ _ _ _ _ _ _ _ _ _ _ _ _ _ _ w hs
    rw [if_neg e7]
    by_cases e6 : s = 6
    · rw [if_pos e6]; subst e6
      by_cases hf : cI (firstI b.l) (firstI a.l) = 0
      · rw [if_neg (by simp [hf])]
        exact rank6b _ _ _ _ _ _ _ _ _ _ _ _ _ _ _ _ _ _ w hs (by rw [show Lib.compareInt (firstI b.l) (firstI a.l) = 0 from hf]; rfl) ha.row hb.row ha.nil hb.nil ha.few hb.few
      · rw [if_pos hf]
        exact rank6a _ _ _ _ _ _ _ _ _ _ _ _ _ _ _ _ _ _ w hs (beq_eq_false_iff_ne.2 hf) ha.row hb.row
    rw [if_neg e6]
    by_cases e5 : s = 5
    · rw [if_pos e5]; subst e5
      exact rank5a _ _ _ _ _ _ _ _ _ _ _ _ _ _ _ _ _ _ w hs ha.row hb.row ha.nil hb.nil ha.few hb.few
    rw [if_neg e5]
    by_cases e4 : s = 4
    · rw [if_pos e4]; subst e4; exact rank4 _ _ _ _ _ _ _ _ _ _ _ _ _ _ _ _ _ _ w hs
    rw [if_neg e4]
    exact rank0 _ _ _ _ _ _ _ _ _ _ _ _ _ _ _ _ _ _ _ w hs (beq_eq_false_iff_ne.2 e2) (beq_eq_false_iff_ne.2 e3) (beq_eq_false_iff_ne.2 e7) (beq_eq_false_iff_ne.2 e6) (beq_eq_false_iff_ne.2 e5) (beq_eq_false_iff_ne.2 e4)
  · rw [if_pos h0]
    exact rank_sal _ _ _ _ _ _ _ _ _ _ _ _ _ _ _ _ _ _ _ w (beq_eq_false_iff_ne.2 h0)

set_option maxHeartbeats 400000 in
theorem before_any (s : Int) (a b : AV) (w : World) (ha : a.ok w) (hb : b.ok w) :
    Calls Try.prog 12 #[.int .i64 s, a.v, b.v] w fun e w' => e = .returned (.bool (before s a b)) ∧ Below w.heap.size w w' := by
  have hb2 := bel2 w (.cells #[.int .i64 a.r, .int .i64 a.al, .slice a.A a.l.length a.c, .int .i64 a.sa, .int .i64 a.sp, .int .i64 a.bo, .int .i64 a.ke] 24) (.cells #[.int .i64 b.r, .int .i64 b.al, .slice b.A b.l.length b.c, .int .i64 b.sa, .int .i64 b.sp, .int .i64 b.bo, .int .i64 b.ke] 24)
  have hR := rank_any s a b _ (ha.below hb2) (hb.below hb2)
  have B := Lib.hid hb2; clear hb2
  have R := Lib.hid hR; clear hR ha hb
  go_enter Try.func12, Try.ntmps12
  go_wp2_with fail
  refine R.out.mono ?_
  rintro e w1 ⟨rfl, b1⟩
  have B1 := Lib.hid (B.out.trans (b1.mono B.out.size)); clear b1
  go_wp2_with fail
  go_ret
  exact ⟨rfl, B1.out⟩
end Go.Proofs.Ytbogjhgnnmgiaaa
