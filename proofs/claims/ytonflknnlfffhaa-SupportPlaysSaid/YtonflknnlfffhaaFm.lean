/- Rows of numbers: slices.Sort, Reverse, Clip, Clone at a row of the call's own. -/
import Derived.Test.YtonflknnlfffhaaFl
import Derived.Lib.LazyBuf
namespace Go.Proofs.Ytonflknnlfffhaa
open Go.RowKit Go.Lib Go.Maps Go.Sort Go.Shelf KP MR RW
abbrev intc (z : Int) : List Value := [.int .i64 z]
theorem intc_len (z : Int) : (intc z).length = 1 := rfl
theorem intc_flat (z : Int) : ∀ u ∈ intc z, u.oneCell' = true := by intro u hu; simp at hu; subst hu; rfl
theorem flat_ints (l : List Int) : l.flatMap intc = l.map encZ := by induction l with
  | nil => rfl
  | cons x l ih => rw [List.flatMap_cons, ih]; rfl
/-- A slice value owns a row of numbers. -/
abbrev OwnI (W : World) (B : Nat) (v : Value) (l : List Int) : Prop := OwnW W B 3 1 v l.length (l.flatMap intc)
abbrev IntsAt (N : Nat → Prop) (W : World) (A : Option Addr) (l : List Int) : Prop := RowsAt intc 1 N W A l
theorem rise_len (l : List Int) : (rise l).length = l.length := List.length_mergeSort l
/-- Behind stores into a block from its start. -/
theorem setCells_block (g : Nat) : ∀ (vs : List Value) (o : Nat) (w : World) (cs : Array Value) (t : TypeId) (fr : Nat × Nat), w.heap[g]? = some (.cells cs t fr) → o + vs.length ≤ cs.size →
    ∃ cs', (w.setCells g o vs).heap[g]? = some (.cells cs' t fr) ∧ cs'.size = cs.size ∧ cs'.toList = cs.toList.take o ++ vs ++ cs.toList.drop (o + vs.length)
  | [], o, w, cs, t, fr, h, _ => ⟨cs, h, rfl, by simp⟩
  | v :: vs, o, w, cs, t, fr, h, hl => by
    have h1 : (w.setCell ⟨g, o, none⟩ v).heap[g]? = some (.cells (cs.setIfInBounds o v) t fr) := by
      simp [World.setCell, Array.getElem?_modify, h]
    simp only [List.length_cons] at hl
    obtain ⟨cs', h2, h3, h4⟩ := setCells_block g vs (o + 1) _ _ t fr h1 (by simp; omega)
    have ho : o < cs.toList.length := by simp; omega
    refine ⟨cs', h2, by simpa using h3, ?_⟩
    rw [h4, Array.toList_setIfInBounds]
    have e1 : (cs.toList.set o v).take (o + 1) = cs.toList.take o ++ [v] := by
      rw [List.take_set, List.take_succ_eq_append_getElem ho, List.set_append_right _ _ (by simp; omega)]
      simp [Nat.min_eq_left (Nat.le_of_lt (by simpa using ho))]
    have e2 : (cs.toList.set o v).drop (o + 1 + vs.length) = cs.toList.drop (o + (v :: vs).length) := by
      rw [List.drop_set_of_lt (by omega)]
      congr 1
      simp; omega
    rw [e1, e2]
    simp
section
variable {w w1 W : World} {B : Nat} {v : Value} {l r : List Int}
/-- The row's cells are others now. -/
theorem OwnI.set {g cap : Nat} {cs' : Array Value} {cur : Array Value} (h : OwnI w B (.slice (some ⟨g, 0, none⟩) l.length cap) l) (hg : w.heap[g]? = some (.cells cur 3 (0, 0))) (hg1 : w1.heap[g]? = some (.cells cs' 3 (0, 0))) (hs : cs'.size = cur.size) (hlen : r.length = l.length) (ht : cs'.toList.take r.length = r.map encZ) : OwnI w1 B (.slice (some ⟨g, 0, none⟩) l.length cap) r := by
  obtain ⟨h1, h2⟩ := h
  rcases h2 with ⟨e, _⟩ | ⟨g', cap', cur', e, a2, a3, a4, a5, a6, a7⟩
  · cases e
  · injection e with e1 _ e3
    injection e1 with e1
    injection e1 with e1
    subst e1 e3
    rw [hg] at a3
    injection a3 with a3
    injection a3 with a3
    subst a3
    exact ⟨by rw [flat_len intc_len], .inr ⟨g, cap, cs', by rw [hlen], a2, hg1, by omega, a5, by omega, by rw [Nat.mul_one, ht, flat_ints]⟩⟩
theorem sort_c (h : OwnI w B v l) (hl : l.length ≤ 1000000) : Calls Try.prog 36 #[v] w fun e w' => e = .returned (.tuple #[]) ∧ OwnI w' B v (rise l) ∧ Keep (fun k => v.ownBlock = some k) w w' := by
  rcases h.2 with ⟨rfl, h0⟩ | ⟨g, cap, cur, rfl, a2, a3, a4, a5, a6, a7⟩
  · obtain rfl : l = [] := List.eq_nil_of_length_eq_zero h0
    refine (slices_Sort_int_none none 0 w).mono ?_
    rintro e w' ⟨rfl, rfl⟩
    exact ⟨rfl, by simpa [rise] using h, Keep.refl _ _⟩
  · rw [Nat.mul_one, flat_ints] at a7
    refine (slices_Sort_int g 0 cap l w (holds_of_block_i a3 a7) (Array.getElem?_eq_some_iff.1 a3).1 (by omega)).mono ?_
    rintro e w' ⟨rfl, n, os, rfl⟩
    refine ⟨rfl, h.set a3 (heap_sorted_i _ a3) (by simp [putCells]) (rise_len l) (take_putCells_i cur _ (by rw [List.length_mergeSort]; omega)), ?_⟩
    exact (Keep.refl _ w).grown (grownBy_sorted_i _) (fun k hk => .inl hk)
theorem rev_c (h : OwnI w B v l) (hl : l.length ≤ 1000000) : Calls Try.prog 41 #[v] w fun e w' => e = .returned (.tuple #[]) ∧ OwnI w' B v l.reverse ∧ Keep (fun k => v.ownBlock = some k) w w' := by
  rcases h.2 with ⟨rfl, h0⟩ | ⟨g, cap, cur, rfl, a2, a3, a4, a5, a6, a7⟩
  · obtain rfl : l = [] := List.eq_nil_of_length_eq_zero h0
    refine (slices_Reverse_int_empty none 0 w).mono ?_
    rintro e w' ⟨rfl, rfl⟩
    exact ⟨rfl, by simpa using h, Keep.refl _ _⟩
  · rw [Nat.mul_one, flat_ints] at a7
    refine (slices_Reverse_int_cells g 0 l.length cap l w (Nat.le_refl _) (by omega) (fun j hj => ?_) (fun j _ => ?_)).mono ?_
    · rw [Nat.zero_add]
      refine block_cell a3 ?_
      have h1 : (cur.toList.take l.length)[j]? = (l.map encZ)[j]? := by rw [a7]
      rw [List.getElem?_take_of_lt hj, Array.getElem?_toList] at h1
      rw [h1]
      simp [hj]
    · simp [World.frozen?, a3]
    rintro e w' ⟨rfl, q, rfl⟩
    obtain ⟨cs', b1, b2, b3⟩ := setCells_block g (l.reverse.map encZ) 0 (w.drewN q) cur 3 (0, 0) a3 (by simp; omega)
    rw [List.take_length]
    refine ⟨rfl, h.set a3 b1 b2 (by simp) ?_, ?_⟩
    · rw [b3]
      simp only [List.take_zero, List.nil_append]
      have : l.reverse.length = (l.reverse.map encZ).length := by simp
      rw [this, List.take_left]
    · have hb := World.keptBut_setCells g (may := fun p => p.block = g) (l.reverse.map encZ) 0 (w.drewN q) (fun _ _ => rfl)
      refine ⟨hb.1, ?_, hb.2.1, ?_, fun k hk hn => ?_⟩
      · exact (below_setCells (B := g) (b := g) (Nat.le_refl _) (l.reverse.map encZ) 0 (w.drewN q) (a := w) ⟨rfl, rfl, rfl, Nat.le_refl _, fun _ _ => rfl⟩).tape
      · exact (below_setCells (B := g) (b := g) (Nat.le_refl _) (l.reverse.map encZ) 0 (w.drewN q) (a := w) ⟨rfl, rfl, rfl, Nat.le_refl _, fun _ _ => rfl⟩).size
      · exact hb.block hk (fun _ hp e => hn (by rw [← e.symm.trans hp]; rfl))
set_option maxHeartbeats 400000 in
theorem clip0_c (A : Option Addr) (n c : Nat) (w : World) (hn : n ≤ c) :
    Calls Try.prog 37 #[.slice A n c] w fun e w' => e = .returned (.slice A n n) ∧ w = w' := by
  go_enter Try.func37, Try.ntmps37
  go_wp2
  go_ret
  exact ⟨rfl, rfl⟩
theorem OwnI.cut (h : OwnI w B v l) : ∃ A c, v = .slice A l.length c ∧ l.length ≤ c := by
  rcases h.2 with ⟨rfl, h0⟩ | ⟨g, cap, cur, rfl, a2, a3, a4, a5, a6, a7⟩
  · exact ⟨none, 0, by rw [h0], by omega⟩
  · exact ⟨_, cap, rfl, a4⟩
theorem clip_c (h : OwnI w B v l) : Calls Try.prog 37 #[v] w fun e w' => ∃ v', e = .returned v' ∧ OwnI w B v' l ∧ v'.ownBlock = v.ownBlock ∧ w = w' := by
  obtain ⟨A, c, rfl, hc⟩ := h.cut
  refine (clip0_c A _ c w hc).mono ?_
  rintro e w' ⟨rfl, rfl⟩
  refine ⟨_, rfl, OwnW.clip h, by cases A <;> rfl, rfl⟩
theorem clone_c (h : OwnI w B v l) (hl : l.length ≤ 1000000) : Calls Try.prog 42 #[v] w fun e w' => ∃ v', e = .returned v' ∧ OwnI w' w.heap.size v' l ∧ Below w.heap.size w w' := by
  rcases h.2 with ⟨rfl, h0⟩ | ⟨g, cap, cur, rfl, a2, a3, a4, a5, a6, a7⟩
  · obtain rfl : l = [] := List.eq_nil_of_length_eq_zero h0
    refine (slices_Clone_int_nil 0 0 w).mono ?_
    rintro e w' ⟨rfl, rfl⟩
    exact ⟨_, rfl, OwnW.nil _ _ _ _, Below.refl _ _⟩
  · rw [Nat.mul_one, flat_ints] at a7
    refine (slices_Clone_int g 0 l.length cap l w (Nat.le_refl _) (by omega) (fun j hj => ?_)).mono ?_
    · rw [Nat.zero_add]
      refine block_cell a3 ?_
      have h1 : (cur.toList.take l.length)[j]? = (l.map encZ)[j]? := by rw [a7]
      rw [List.getElem?_take_of_lt hj, Array.getElem?_toList] at h1
      rw [h1]
      simp [hj]
    rintro e w' ⟨v', rfl, ho, _, hb⟩
    rw [List.take_length] at ho
    exact ⟨v', rfl, by unfold OwnI; rw [flat_ints]; exact OwnW.of ho, hb⟩
end
end Go.Proofs.Ytonflknnlfffhaa
