/- known: the laws' own beginning. -/
import Derived.Test.YtonflknnlfffhaaUo
namespace Go.Proofs.Ytonflknnlfffhaa
open Go.RowKit Go.Lib KP MR RW
/-- The two supports and their boxes, from block n on. -/
structure AB (n : Nat) (W : World) : Prop where
  ra : IntsAt (fun k => k < n ∨ n + 4 ≤ k) W (some ⟨n, 0, none⟩) [3]
  rb : IntsAt (fun k => k < n ∨ n + 4 ≤ k) W (some ⟨n + 1 + 1, 0, none⟩) [4]
  a0 : W.cell? ⟨n + 1, 0, none⟩ = some (.int .i64 1)
  a1 : W.cell? ⟨n + 1, 1, none⟩ = some (.int .i64 0)
  a2 : W.cell? ⟨n + 1, 2, none⟩ = some (.slice (some ⟨n, 0, none⟩) 1 1)
  b0 : W.cell? ⟨n + 1 + 1 + 1, 0, none⟩ = some (.int .i64 2)
  b1 : W.cell? ⟨n + 1 + 1 + 1, 1, none⟩ = some (.int .i64 0)
  b2 : W.cell? ⟨n + 1 + 1 + 1, 2, none⟩ = some (.slice (some ⟨n + 1 + 1, 0, none⟩) 1 1)
section
variable {n : Nat} {F F' : Nat → Prop} {W W' : World}
def Out (n : Nat) (F : Nat → Prop) : Prop := ∀ k, F k → k < n ∨ n + 4 ≤ k
theorem AB.keep (h : AB n W) (hk : Keep F W W') (hF : Out n F) : AB n W' := by
  have o1 : ¬ F (n + 1) := fun hf => by have := hF _ hf; omega
  have o3 : ¬ F (n + 3) := fun hf => by have := hF _ hf; omega
  exact ⟨h.ra.keep hk hF, h.rb.keep hk hF, hk.cell h.a0 o1, hk.cell h.a1 o1, hk.cell h.a2 o1, hk.cell h.b0 o3, hk.cell h.b1 o3, hk.cell h.b2 o3⟩
theorem AB.grow (h : AB n W) (hb : Below W.heap.size W W') : AB n W' := h.keep (Keep.of_below hb (fun _ => False)) (fun _ h => h.elim)
theorem AB.arga (h : AB n W) : ArgY W ((1, 0, [3]), some ⟨n, 0, none⟩, 1) := ⟨h.ra.mono (fun _ h => h.elim), (fun h => by cases h), by show 1 ≤ 1000; decide⟩
theorem AB.argb (h : AB n W) : ArgY W ((2, 0, [4]), some ⟨n + 1 + 1, 0, none⟩, 1) := ⟨h.rb.mono (fun _ h => h.elim), (fun h => by cases h), by show 1 ≤ 1000; decide⟩
theorem AB.inta (h : AB n W) (hF : Out n F) : IntsAt F W (some ⟨n, 0, none⟩) [3] := h.ra.mono hF
theorem AB.intb (h : AB n W) (hF : Out n F) : IntsAt F W (some ⟨n + 1 + 1, 0, none⟩) [4] := h.rb.mono hF
theorem AB.lt (h : AB n W) : n + 4 ≤ W.heap.size := World.block_lt_of_cell? _ _ h.b0
theorem Out.next (h : Out n F) (ha : AB n W) (hF : ∀ k, F' k → F k ∨ W.heap.size ≤ k) : Out n F' := fun k hk => (hF k hk).elim (h k) (fun h2 => .inr (Nat.le_trans ha.lt h2))
end
theorem ints_new (W : World) (l : List Int) (N : Nat → Prop) (hN : ¬ N W.heap.size) : IntsAt N (W.alloc (.cells (l.flatMap intc).toArray 3)) (some ⟨W.heap.size, 0, none⟩) l :=
  rows_own (f := intc) (m := 1) (n := l.length) intc_len (heap_alloc_new W _) (by
    have e : l.length * 1 = (l.flatMap intc).length := (flat_len intc_len l).symm
    show (l.flatMap intc).take (l.length * 1) = l.flatMap intc
    rw [e, List.take_length]) hN
theorem ab_new (W : World) : AB W.heap.size ((((W.alloc (.cells #[.int .i64 3] 3)).alloc (.cells #[.int .i64 1, .int .i64 0, .slice (some ⟨W.heap.size, 0, none⟩) 1 1] 50)).alloc (.cells #[.int .i64 4] 3)).alloc (.cells #[.int .i64 2, .int .i64 0, .slice (some ⟨W.heap.size + 1 + 1, 0, none⟩) 1 1] 50)) := by
  have e1 : (W.alloc (.cells #[.int .i64 3] 3)).heap.size = W.heap.size + 1 := by simp
  have e2 : ((W.alloc (.cells #[.int .i64 3] 3)).alloc (.cells #[.int .i64 1, .int .i64 0, .slice (some ⟨W.heap.size, 0, none⟩) 1 1] 50)).heap.size = W.heap.size + 1 + 1 := by simp
  have e3 : (((W.alloc (.cells #[.int .i64 3] 3)).alloc (.cells #[.int .i64 1, .int .i64 0, .slice (some ⟨W.heap.size, 0, none⟩) 1 1] 50)).alloc (.cells #[.int .i64 4] 3)).heap.size = W.heap.size + 1 + 1 + 1 := by simp
  have g0 := ints_new W [3] (fun k => k < W.heap.size ∨ W.heap.size + 4 ≤ k) (by omega)
  have h1 := heap_alloc_new (W.alloc (.cells #[.int .i64 3] 3)) (.cells #[.int .i64 1, .int .i64 0, .slice (some ⟨W.heap.size, 0, none⟩) 1 1] 50)
  have g2 := ints_new ((W.alloc (.cells #[.int .i64 3] 3)).alloc (.cells #[.int .i64 1, .int .i64 0, .slice (some ⟨W.heap.size, 0, none⟩) 1 1] 50)) [4] (fun k => k < W.heap.size ∨ W.heap.size + 4 ≤ k) (by rw [e2]; omega)
  have h3 := heap_alloc_new (((W.alloc (.cells #[.int .i64 3] 3)).alloc (.cells #[.int .i64 1, .int .i64 0, .slice (some ⟨W.heap.size, 0, none⟩) 1 1] 50)).alloc (.cells #[.int .i64 4] 3)) (.cells #[.int .i64 2, .int .i64 0, .slice (some ⟨W.heap.size + 1 + 1, 0, none⟩) 1 1] 50)
  rw [e1] at h1
  rw [e2] at g2
  rw [e3] at h3
  have k1 := fun (w : World) (o : Obj) => (Below.refl w.heap.size w).alloc (Nat.le_refl _) o
  have b23 := k1 ((W.alloc (.cells #[.int .i64 3] 3)).alloc (.cells #[.int .i64 1, .int .i64 0, .slice (some ⟨W.heap.size, 0, none⟩) 1 1] 50)) (.cells #[.int .i64 4] 3)
  have b34 := k1 (((W.alloc (.cells #[.int .i64 3] 3)).alloc (.cells #[.int .i64 1, .int .i64 0, .slice (some ⟨W.heap.size, 0, none⟩) 1 1] 50)).alloc (.cells #[.int .i64 4] 3)) (.cells #[.int .i64 2, .int .i64 0, .slice (some ⟨W.heap.size + 1 + 1, 0, none⟩) 1 1] 50)
  have b24 := b23.trans (b34.mono b23.size)
  have h1' := (b24.block (W.heap.size + 1) (by rw [e2]; omega)).trans h1
  have g0' := ((g0.below (k1 _ (.cells #[.int .i64 1, .int .i64 0, .slice (some ⟨W.heap.size, 0, none⟩) 1 1] 50))).below b23).below b34
  exact ⟨g0', g2.below b34, block_cell (j := 0) h1' rfl, block_cell (j := 1) h1' rfl, block_cell (j := 2) h1' rfl, block_cell (j := 0) h3 rfl, block_cell (j := 1) h3 rfl, block_cell (j := 2) h3 rfl⟩
theorem lost_nil {P : Pl} {w : Wy} (h : ∀ x ∈ P.map (·.1), goneP P w x = false) : lost P w = [] := by
  unfold lost
  rw [List.filter_eq_nil_iff]
  intro x hx
  rw [h x (List.mem_mergeSort.1 hx)]
  decide
theorem lost_rising {P : Pl} {w : Wy} (h : (P.map (·.1)).Pairwise (fun a b => decide (a ≤ b) = true)) : lost P w = (P.map (·.1)).filter (goneP P w) := by
  unfold lost rise
  rw [List.mergeSort_of_pairwise h]
set_option maxRecDepth 100000 in
set_option maxHeartbeats 4000000 in
theorem known_c (w : World) : Calls Try.prog 19 #[] w fun e w' => e = .returned (.bool true) ∧ Below w.heap.size w w' := by
  go_enter Try.func19, Try.ntmps19
  go_wp2_with fail
  refine (new_t w).mono ?_
  rintro e w0 ⟨g, F1, rfl, t0, hb0⟩
  have AB1 := Lib.hid (ab_new w0)
  have bw0 : Below w0.heap.size w0 ((((w0.alloc (.cells #[.int .i64 3] 3)).alloc (.cells #[.int .i64 1, .int .i64 0, .slice (some ⟨w0.heap.size, 0, none⟩) 1 1] 50)).alloc (.cells #[.int .i64 4] 3)).alloc (.cells #[.int .i64 2, .int .i64 0, .slice (some ⟨w0.heap.size + 1 + 1, 0, none⟩) 1 1] 50)) :=
    ((((Below.refl _ _).alloc (Nat.le_refl _) _).alloc (by simp) _).alloc (by simp; omega) _).alloc (by simp; omega) _
  have T1 := Lib.hid (t0.grow bw0)
  have O1 : Hid (Out w0.heap.size F1) := Lib.hid (fun k hk => .inl (t0.lt k hk).2)
  clear t0 hb0 bw0
  go_wp2_with fail
  refine (support_t T1.out 7 ((1, 0, [3]), some ⟨w0.heap.size, 0, none⟩, 1) AB1.out.arga (AB1.out.inta O1.out) (by decide) (by decide) (by decide) (by decide)).mono ?_
  rintro e w2 ⟨rfl, F2, t2, f1, f2, k2⟩
  have es : supP [] 7 ((1, 0, [3]) : Wy) = [(7, false, [(1, 0, [3])])] := by decide
  have ec : supC [] [] 7 ((1, 0, [3]) : Wy) = [(1, 0, [3])] := by decide
  rw [es, ec] at t2
  have T2 := Lib.hid t2
  have AB2 := Lib.hid (AB1.out.keep k2 O1.out)
  have O2 : Hid (Out w0.heap.size F2) := Lib.hid (O1.out.next AB1.out f2)
  obtain ⟨-, -, a0, a1, a2, b0, b1, b2⟩ := AB2.out
  clear es ec t2 f1 f2 k2 T1 AB1 O1
  go_wp2_with fail
  refine (support_t T2.out 7 ((2, 0, [4]), some ⟨w0.heap.size + 1 + 1, 0, none⟩, 1) AB2.out.argb (AB2.out.intb O2.out) (by decide) (by decide) (by decide) (by decide)).mono ?_
  rintro e w3 ⟨rfl, F3, t3, f1, f2, k2⟩
  have es : supP [(7, false, [(1, 0, [3])])] 7 ((2, 0, [4]) : Wy) = [(7, false, [(1, 0, [3]), (2, 0, [4])])] := by decide
  have ec : supC [(7, false, [(1, 0, [3])])] [(1, 0, [3])] 7 ((2, 0, [4]) : Wy) = [(1, 0, [3]), (2, 0, [4])] := by decide
  rw [es, ec] at t3
  have T3 := Lib.hid t3
  have AB3 := Lib.hid (AB2.out.keep k2 O2.out)
  have O3 : Hid (Out w0.heap.size F3) := Lib.hid (O2.out.next AB2.out f2)
  clear es ec t3 f1 f2 k2 T2 AB2 O2 a0 a1 a2 b0 b1 b2
  go_wp2_with fail
  refine (free_t T3.out 8 (by decide) (by decide)).mono ?_
  rintro e w4 ⟨rfl, F4, t4, f1, f2, k2⟩
  have es : freeP [(7, false, [((1, 0, [3]) : Wy), (2, 0, [4])])] 8 = [(7, false, [(1, 0, [3]), (2, 0, [4])]), (8, true, [])] := by decide
  rw [es] at t4
  have T4 := Lib.hid t4
  have AB4 := Lib.hid (AB3.out.keep k2 O3.out)
  have O4 : Hid (Out w0.heap.size F4) := Lib.hid (O3.out.next AB3.out f2)
  obtain ⟨-, -, a0, a1, a2, b0, b1, b2⟩ := AB4.out
  clear es t4 f1 f2 k2 T3 AB3 O3
  go_wp2_with fail
  refine (lose_t T4.out ((1, 0, [3]), some ⟨w0.heap.size, 0, none⟩, 1) AB4.out.arga (AB4.out.inta O4.out)).mono ?_
  rintro e w5 ⟨v1, rfl, o5, t5, k5⟩
  have el : lost [(7, false, [(1, 0, [3]), (2, 0, [4])]), (8, true, [])] ((1, 0, [3]) : Wy) = [] := lost_nil (by decide)
  have es : loseP [(7, false, [(1, 0, [3]), (2, 0, [4])]), (8, true, [])] ((1, 0, [3]) : Wy) = [(7, false, [(2, 0, [4])]), (8, true, [])] := by decide
  have ec : [((1, 0, [3]) : Wy), (2, 0, [4])].filter (usedP [(7, false, [(2, 0, [4])]), (8, true, [])]) = [(2, 0, [4])] := by decide
  dsimp only at o5 t5
  rw [es, ec] at t5
  rw [el] at o5
  have T5 := Lib.hid t5
  have AB5 := Lib.hid (AB4.out.keep k5 O4.out)
  obtain ⟨A1, c1, rfl, -, -, -⟩ := OwnI.row o5
  clear el es ec t5 o5 k5 T4 AB4 a0 a1 a2 b0 b1 b2
  obtain ⟨-, -, a0, a1, a2, b0, b1, b2⟩ := AB5.out
  go_wp2_with fail
  refine (lose_t T5.out ((2, 0, [4]), some ⟨w0.heap.size + 1 + 1, 0, none⟩, 1) AB5.out.argb (AB5.out.intb O4.out)).mono ?_
  rintro e w6 ⟨v2, rfl, o6, t6, k6⟩
  have el : lost [(7, false, [(2, 0, [4])]), (8, true, [])] ((2, 0, [4]) : Wy) = [7] := by rw [lost_rising (by decide)]; decide
  have es : loseP [(7, false, [(2, 0, [4])]), (8, true, [])] ((2, 0, [4]) : Wy) = [(7, false, []), (8, true, [])] := by decide
  have ec : [((2, 0, [4]) : Wy)].filter (usedP [(7, false, []), (8, true, [])]) = [] := by decide
  dsimp only at o6 t6
  rw [es, ec] at t6
  rw [el] at o6
  have T6 := Lib.hid t6
  have O6 := Lib.hid o6
  clear el es ec t6 o6 k6 T5 AB5 O4 a0 a1 a2 b0 b1 b2
  go_wp2_with fail
  refine (why_t T6.out 8).mono ?_
  rintro e w7 ⟨v3, rfl, A3, ys, e3, -, -, -, b7⟩
  injection e3 with e3
  have ew : (wh [(7, false, ([] : List Wy)), (8, true, [])] 8).2.length = 0 := by decide
  have ew2 : (wh [(7, false, ([] : List Wy)), (8, true, [])] 8).1 = true := by decide
  rw [ew] at e3
  subst e3
  rw [ew2]
  have T7 := Lib.hid (T6.out.grow b7)
  obtain ⟨A2, c2, rfl, r7, -, -⟩ := OwnI.row (O6.out.below b7)
  obtain ⟨ad, rfl, -, hc7⟩ := IntsAt.at r7 (k := 0) (by decide)
  have hc8 : w7.cell? ad = some (.int .i64 7) := by simpa [go_sem] using hc7
  have S7 : Hid (Calls Try.prog 26 #[.pointer (some ⟨g, 0, none⟩), .int .i64 7] w7 fun e w' => e = .returned (.bool false) ∧ w7 = w') := Lib.hid (stands_t T7.out 7)
  have S8 : Hid (Calls Try.prog 26 #[.pointer (some ⟨g, 0, none⟩), .int .i64 8] w7 fun e w' => e = .returned (.bool true) ∧ w7 = w') := Lib.hid (stands_t T7.out 8)
  have S9 : Hid (Calls Try.prog 43 #[.pointer (some ⟨g, 0, none⟩)] w7 fun e w' => e = .returned (.int .i64 1) ∧ Below w7.heap.size w7 w') := Lib.hid (len_t T7.out)
  clear b7 r7 hc7 ew ew2 T6 O6
  go_wp2_with fail
  refine S7.out.mono ?_
  rintro e w8 ⟨rfl, rfl⟩
  go_wp2_with fail
  refine S8.out.mono ?_
  rintro e w8 ⟨rfl, rfl⟩
  go_wp2_with fail
  refine S9.out.mono ?_
  rintro e w8 ⟨rfl, b8⟩
  have T8 := Lib.hid (T7.out.grow b8)
  clear b8 S7 S8 S9 hc8
  go_wp2_with fail
  refine (all_t T8.out).mono ?_
  rintro e w9 ⟨A9, ys9, rfl, -, -, -, b9⟩
  have T9 := Lib.hid (T8.out.grow b9)
  clear b9
  go_wp2_with fail
  go_ret
  exact ⟨rfl, T9.out.below⟩
end Go.Proofs.Ytonflknnlfffhaa
