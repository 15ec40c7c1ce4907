/- known: the laws' own beginning. -/
import Derived.Test.YtonflknnlfffhaaLa
namespace Go.Proofs.Ytonflknnlfffhaa
open Go.RowKit Go.Lib KP MR RW
theorem ints_new (W : World) (l : List Int) : IntsAt (fun _ => False) (W.alloc (.cells (l.flatMap intc).toArray 3)) (some ⟨W.heap.size, 0, none⟩) l :=
  rows_own (f := intc) (m := 1) (n := l.length) intc_len (heap_alloc_new W _) (by
    have e : l.length * 1 = (l.flatMap intc).length := (flat_len intc_len l).symm
    show (l.flatMap intc).take (l.length * 1) = l.flatMap intc
    rw [e, List.take_length]) (fun h => h)
theorem ints_yes (A : Option Addr) (c n : Nat) (B : Option Addr) (d : Nat) (l : List Int) (W : World) (hn : l.length = n) (ha : IntsAt (fun _ => False) W A l) (hb : IntsAt (fun _ => False) W B l) (hl : l.length ≤ 1000000) :
    Calls Try.prog 12 #[.slice A n c, .slice B n d] W fun e w' => e = .returned (.bool true) ∧ Below W.heap.size W w' := by
  subst hn
  refine (ints_c A c l B d l W ha hb hl hl).mono ?_
  rintro e w' ⟨rfl, h⟩
  exact ⟨by simp, h⟩
theorem OwnI.row {W : World} {B : Nat} {v : Value} {l : List Int} (h : OwnI W B v l) : ∃ A c, v = .slice A l.length c ∧ IntsAt (fun _ => False) W A l ∧ (A = none → c = 0) ∧ l.length ≤ c := by
  obtain ⟨A, c, e, hr, _, hc, hA⟩ := OwnW.rows (N := fun _ => False) intc_len (by decide) h (fun _ _ h => h)
  exact ⟨A, c, e, hr, hA, hc⟩
section
variable {W : World} {F : Nat → Prop}
/-- What lies behind all of the tree's is not touched. -/
theorem own_keep {W1 : World} {b : Nat} {v : Value} {l : List Int} (ho : OwnI W b v l) (hb : ∀ k, F k → k < b) (hk : Keep F W W1) : OwnI W1 b v l :=
  ho.keep hk (fun k hk2 hF => by have := hb k hF; have := (ho.lt hk2).1; omega)
end
set_option maxRecDepth 100000 in
set_option maxHeartbeats 4000000 in
theorem known_c (w : World) : Calls Try.prog 7 #[] w fun e w' => e = .returned (.bool true) ∧ Below w.heap.size w w' := by
  go_enter Try.func7, Try.ntmps7
  go_wp2_with fail
  refine (new_t w).mono ?_
  rintro e w1 ⟨g, F1, rfl, t1, _⟩
  have T1 := Lib.hid t1; clear t1
  go_wp2_with fail
  refine (add_t T1.out 0 5 (.inl rfl) (by decide) (by decide)).mono ?_
  rintro e w2 ⟨rfl, F2, t2, _, _, _⟩
  have T2 := Lib.hid (show TreeT w.heap.size w F2 g [(1, 0, 5)] 2 w2 from t2); clear t2
  go_wp2_with fail
  refine (add_t T2.out 1 6 (.inr ⟨_, List.mem_cons_self, rfl⟩) (by decide) (by decide)).mono ?_
  rintro e w3 ⟨rfl, F3, t3, _, _, _⟩
  have T3 := Lib.hid (show TreeT w.heap.size w F3 g [(1, 0, 5), (2, 1, 6)] 3 w3 from t3); clear t3
  go_wp2_with fail
  refine (add_t_no T3.out 9 1 (by decide) (by decide)).mono ?_
  rintro e w4 ⟨rfl, rfl⟩
  go_wp2_with fail
  have up : Up [(1, 0, 5), (2, 1, 6)] 2 [6, 5] := .node (2, 1, 6) [5] (by decide) (.node (1, 0, 5) [] (by decide) .root)
  refine (path_yes T3.out 2 (.inr ⟨(2, 1, 6), by decide, rfl⟩) up (by decide)).mono ?_
  rintro e w4 ⟨v4, rfl, o4, b4⟩
  have O4 := Lib.hid (show OwnI w4 w3.heap.size v4 [5, 6] from o4)
  have T4 := Lib.hid (T3.out.grow b4)
  have L4 : Hid (∀ k, F3 k → k < w3.heap.size) := Lib.hid (fun k hF => (T3.out.lt k hF).2)
  clear o4 up
  go_wp2_with fail
  refine (kids_yes T4.out 0 (.inl rfl)).mono ?_
  rintro e w5 ⟨v5, rfl, o5, b5⟩
  have O5 := Lib.hid (show OwnI w5 w4.heap.size v5 [1] from o5)
  have O4' := Lib.hid (O4.out.below b5)
  have T5 := Lib.hid (T4.out.grow b5)
  have L5 : Hid (∀ k, F3 k → k < w4.heap.size) := Lib.hid (fun k hF => Nat.lt_of_lt_of_le (L4.out k hF) b4.size)
  clear o5 b4 b5 O4
  go_wp2_with fail
  refine (drop_t T5.out (by decide) 5).mono ?_
  rintro e w6 ⟨v6, rfl, o6, t6, k6⟩
  have O6 := Lib.hid (show OwnI w6 w5.heap.size v6 [1, 2] from o6)
  have T6 := Lib.hid (show TreeT w.heap.size w F3 g [] 3 w6 from t6)
  obtain ⟨A4, c4, rfl, r4, _, _⟩ := (own_keep O4'.out L4.out k6).row
  obtain ⟨A5, c5, rfl, r5, _, _⟩ := (own_keep O5.out L5.out k6).row
  obtain ⟨A6, c6, rfl, r6, _, _⟩ := O6.out.row
  have R4 := Lib.hid r4; have R5 := Lib.hid r5; have R6 := Lib.hid r6
  clear o6 t6 k6 r4 r5 r6 O4' O5 O6 L4 L5 T5 T4 T3 T2 T1
  have D7 := Lib.hid ((Below.refl w6.heap.size w6).alloc (Nat.le_refl _) (.cells #[.int .i64 5, .int .i64 6] 3))
  go_wp2_with fail
  refine (ints_yes A4 c4 2 (some ⟨w6.heap.size, 0, none⟩) 2 [5, 6] _ rfl (RowsAt.below R4.out D7.out) (ints_new w6 [5, 6]) (by decide)).mono ?_
  rintro e w8 ⟨rfl, b8⟩
  have B8 := Lib.hid (D7.out.trans (b8.mono D7.out.size))
  have D8 := Lib.hid ((Below.refl w8.heap.size w8).alloc (Nat.le_refl _) (.cells #[.int .i64 1] 3))
  have B9 := Lib.hid (B8.out.trans (D8.out.mono B8.out.size))
  clear b8
  go_wp2_with fail
  refine (ints_yes A5 c5 1 (some ⟨w8.heap.size, 0, none⟩) 1 [1] _ rfl (RowsAt.below R5.out B9.out) (ints_new w8 [1]) (by decide)).mono ?_
  rintro e w10 ⟨rfl, b10⟩
  have B10 := Lib.hid (B9.out.trans (b10.mono B9.out.size))
  have D10 := Lib.hid ((Below.refl w10.heap.size w10).alloc (Nat.le_refl _) (.cells #[.int .i64 1, .int .i64 2] 3))
  have B11 := Lib.hid (B10.out.trans (D10.out.mono B10.out.size))
  clear b10
  go_wp2_with fail
  refine (ints_yes A6 c6 2 (some ⟨w10.heap.size, 0, none⟩) 2 [1, 2] _ rfl (RowsAt.below R6.out B11.out) (ints_new w10 [1, 2]) (by decide)).mono ?_
  rintro e w12 ⟨rfl, b12⟩
  have T12 := Lib.hid (T6.out.grow (B11.out.trans (b12.mono B11.out.size)))
  clear b12
  go_wp2_with fail
  refine (len_t T12.out).mono ?_
  rintro e w13 ⟨rfl, rfl⟩
  go_wp2_with fail
  go_ret
  exact ⟨rfl, T12.out.below⟩
end Go.Proofs.Ytonflknnlfffhaa
