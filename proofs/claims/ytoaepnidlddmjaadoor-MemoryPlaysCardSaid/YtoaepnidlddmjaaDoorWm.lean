/- known: the laws' own beginning. -/
import Derived.Test.YtoaepnidlddmjaaDoorWl
namespace Go.Proofs.YtoaepnidlddmjaaDoor
open Go.RowKit Go.Lib KP MR RW
abbrev vI (n : Int) : Vl := (1, n, ⟨#[]⟩)
theorem okV_I {n : Int} (h : okI n) : okV (vI n) := ⟨by unfold okI; simp, h, Nat.zero_le _⟩
theorem okI_small {n : Int} (h : -1000000 ≤ n ∧ n ≤ 1000000) : okI n := by unfold okI; omega
theorem one_arg (W : World) {n : Int} (h : okI n) : ArgV (fun _ => False) (W.alloc (.cells (v3 (vI n)).toArray 29)) (some ⟨W.heap.size, 0, none⟩) 1 [vI n] :=
  ⟨new_one (f := v3) (m := 3) W (vI n) 29 (fun h => h), (fun h => by cases h), by simp, fun v hv => by rw [List.mem_singleton.1 hv]; exact okV_I h⟩
theorem nil_arg (W : World) : ArgV (fun _ => False) W none 0 [] := ⟨RowsAt.nil _ _ _, fun _ => rfl, by simp, fun v hv => by cases hv⟩
section
variable {B : Nat} {F : Nat → Prop} {g : Nat} {T T' : List Ft} {nx : Int} {w0 W W' : World}
/-- Told with the frame forgotten. -/
theorem assertI_new (t : ByteArray) (ht : t.size ≤ 100000) (n : Int) (hn : okI n) (hf : findO T t [vI n] = none) (hl : T.length < 1000) (hnx : nx < 1000000000) (hI : Inv B w0 F g T nx W) (htab : Tab W) :
    Calls Tryd.prog 9 #[.pointer (some ⟨g, 0, none⟩), .string t, .slice (some ⟨W.heap.size, 0, none⟩) 1 1] (W.alloc (.cells #[.int .i64 1, .int .i64 n, .string ⟨#[]⟩] 29)) fun e w' => ∃ F', e = .returned (.tuple #[.int .i64 nx, .bool true, .int .i64 0]) ∧ (Inv B w0 F' g (T ++ [(nx, t, [vI n])]) (nx + 1) w' ∧ Keep F W w' ∧ ∀ k, F' k → F k ∨ W.heap.size ≤ k) := by
  have hb := (Below.refl W.heap.size W).alloc (Nat.le_refl _) (.cells (v3 (vI n)).toArray 29)
  refine (assert_new t ht (some ⟨W.heap.size, 0, none⟩) 1 [vI n] hf hl hnx (hI.grow hb hI.size) (one_arg W hn) (htab.b hb)).mono ?_
  rintro e w' ⟨rfl, h1, h2⟩
  exact ⟨_, rfl, h1, (Keep.of_below hb F).trans h2 (fun k hk => .inl hk), fun k hk => hk.imp id (fun h => Nat.le_trans hb.size h.1)⟩
theorem assertI_old (t : ByteArray) (ht : t.size ≤ 100000) (n : Int) (hn : okI n) (id : Int) (hf : findO T t [vI n] = some id) (hI : Inv B w0 F g T nx W) (htab : Tab W) :
    Calls Tryd.prog 9 #[.pointer (some ⟨g, 0, none⟩), .string t, .slice (some ⟨W.heap.size, 0, none⟩) 1 1] (W.alloc (.cells #[.int .i64 1, .int .i64 n, .string ⟨#[]⟩] 29)) fun e w' => e = .returned (.tuple #[.int .i64 id, .bool false, .int .i64 0]) ∧ Inv B w0 F g T nx w' ∧ Below W.heap.size W w' := by
  have hb := (Below.refl W.heap.size W).alloc (Nat.le_refl _) (.cells (v3 (vI n)).toArray 29)
  refine (assert_old t ht (some ⟨W.heap.size, 0, none⟩) 1 [vI n] id hf (hI.grow hb hI.size) (one_arg W hn) (htab.b hb)).mono ?_
  rintro e w' ⟨rfl, h1⟩
  have hb2 := hb.trans (h1.mono hb.size)
  exact ⟨rfl, hI.grow hb2 hI.size, hb2⟩
theorem assertI_full (t : ByteArray) (ht : t.size ≤ 100000) (n : Int) (hn : okI n) (hf : findO T t [vI n] = none) (hl : 1000 ≤ T.length) (hI : Inv B w0 F g T nx W) (htab : Tab W) :
    Calls Tryd.prog 9 #[.pointer (some ⟨g, 0, none⟩), .string t, .slice (some ⟨W.heap.size, 0, none⟩) 1 1] (W.alloc (.cells #[.int .i64 1, .int .i64 n, .string ⟨#[]⟩] 29)) fun e w' => e = .returned (.tuple #[.int .i64 0, .bool false, .int .i64 10]) ∧ Inv B w0 F g T nx w' ∧ Below W.heap.size W w' := by
  have hb := (Below.refl W.heap.size W).alloc (Nat.le_refl _) (.cells (v3 (vI n)).toArray 29)
  refine (assert_full t ht (some ⟨W.heap.size, 0, none⟩) 1 [vI n] hf hl (hI.grow hb hI.size) (one_arg W hn) (htab.b hb)).mono ?_
  rintro e w' ⟨rfl, h1⟩
  have hb2 := hb.trans (h1.mono hb.size)
  exact ⟨rfl, hI.grow hb2 hI.size, hb2⟩
theorem Inv.tab (h : Inv w0.heap.size w0 F g T nx W) (ht : Tab w0) : Tab W := ht.b h.below
theorem len_n (h : Inv B w0 F g T nx W) {n : Nat} (hn : T.length = n) : Calls Tryd.prog 12 #[.pointer (some ⟨g, 0, none⟩)] W fun e w' => e = .returned (.int .i64 n) ∧ W = w' := by
  subst hn; exact len_c h
theorem of_n (s : ByteArray) (h : Inv B w0 F g T nx W) {n : Nat} (hn : (T.filter fun f => decide (f.2.1 = s)).length = n) : Calls Tryd.prog 16 #[.pointer (some ⟨g, 0, none⟩), .string s] W fun e w' => ∃ A, e = .returned (.slice A n n) ∧ Inv B w0 F g T nx w' ∧ Below W.heap.size W w' := by
  refine (of_c s h).mono ?_
  rintro e w' ⟨A, ys, rfl, _, _, _, hb⟩
  exact ⟨A, by rw [hn], h.grow hb h.size, hb⟩
theorem all_n (h : Inv B w0 F g T nx W) {n : Nat} (hn : T.length = n) : Calls Tryd.prog 14 #[.pointer (some ⟨g, 0, none⟩)] W fun e w' => ∃ A, e = .returned (.slice A n n) ∧ Inv B w0 F g T nx w' ∧ Below W.heap.size W w' := by
  refine (all_c h).mono ?_
  rintro e w' ⟨A, ys, rfl, _, _, _, hb⟩
  exact ⟨A, by rw [hn], h.grow hb h.size, hb⟩
end
set_option maxRecDepth 100000 in
set_option maxHeartbeats 4000000 in
theorem known_c (w : World) (ht : Tab w) : Calls Tryd.prog 7 #[] w fun e w' => e = .returned (.bool true) ∧ Below w.heap.size w w' := by
  have HT := Lib.hid ht
  have o1 : okI 1 := okI_small (by omega)
  have O1 := Lib.hid o1
  clear ht o1
  go_enter Tryd.func7, Tryd.ntmps7
  go_wp2_with fail
  refine (new_c w).mono ?_
  rintro e w1 ⟨g, F1, rfl, i1, _⟩
  have I1 := Lib.hid i1; clear i1
  go_wp2_with fail
  refine (rInt_c 1 w1).mono ?_
  rintro e w2 ⟨rfl, b2⟩
  have I2 := Lib.hid (I1.out.grow b2 I1.out.size); clear b2
  go_wp2_with fail
  refine (assertI_new ⟨#[112]⟩ (by decide) 1 O1.out (by decide) (by decide) (by decide) I2.out (I2.out.tab HT.out)).mono ?_
  rintro e w3 ⟨F3, rfl, i3, _, _⟩
  have I3 := Lib.hid (show Inv w.heap.size w F3 g [(1, ⟨#[112]⟩, [vI 1])] 2 w3 from i3); clear i3
  go_wp2_with fail
  refine (assert_new ⟨#[113]⟩ (by decide) none 0 [] (by decide +kernel) (by decide) (by decide) I3.out (nil_arg w3) (I3.out.tab HT.out)).mono ?_
  rintro e w4 ⟨rfl, i4, _⟩
  have I4 := Lib.hid (show Inv w.heap.size w _ g [(1, ⟨#[112]⟩, [vI 1]), (2, ⟨#[113]⟩, [])] 3 w4 from i4); clear i4
  go_wp2_with fail
  refine (rInt_c 1 w4).mono ?_
  rintro e w5 ⟨rfl, b5⟩
  have I5 := Lib.hid (I4.out.grow b5 I4.out.size); clear b5
  go_wp2_with fail
  refine (assertI_old ⟨#[112]⟩ (by decide) 1 O1.out 1 (by decide +kernel) I5.out (I5.out.tab HT.out)).mono ?_
  rintro e w6 ⟨rfl, i6, _⟩
  have I6 := Lib.hid i6; clear i6
  go_wp2_with fail
  refine (retract_yes 1 I6.out ⟨_, List.mem_cons_self, rfl⟩ (I6.out.tab HT.out)).mono ?_
  rintro e w7 ⟨rfl, i7, _⟩
  have I7 := Lib.hid (show Inv w.heap.size w _ g [(2, ⟨#[113]⟩, [])] 3 w7 from i7); clear i7
  go_wp2_with fail
  refine (get_no 1 I7.out (by decide)).mono ?_
  rintro e w8 ⟨rfl, b8⟩
  have I8 := Lib.hid (I7.out.grow b8 I7.out.size); clear b8
  go_wp2_with fail
  refine (len_n (I8.out.grow ((Below.refl _ w8).alloc (Nat.le_refl _) _) I8.out.size) (n := 1) rfl).mono ?_
  rintro e w9 ⟨rfl, rfl⟩
  go_wp2_with fail
  refine (next_c (I8.out.grow ((Below.refl _ w8).alloc (Nat.le_refl _) _) I8.out.size)).mono ?_
  rintro e w9 ⟨rfl, rfl⟩
  go_wp2_with fail
  refine (of_n ⟨#[113]⟩ (I8.out.grow ((Below.refl _ w8).alloc (Nat.le_refl _) _) I8.out.size) (n := 1) (by decide +kernel)).mono ?_
  rintro e w10 ⟨A, rfl, i10, _⟩
  have I10 := Lib.hid i10; clear i10
  go_wp2_with fail
  refine (all_n I10.out (n := 1) rfl).mono ?_
  rintro e w11 ⟨A', rfl, i11, _⟩
  have I11 := Lib.hid i11; clear i11
  go_wp2_with fail
  go_ret
  exact ⟨rfl, I11.out.below⟩
end Go.Proofs.YtoaepnidlddmjaaDoor
