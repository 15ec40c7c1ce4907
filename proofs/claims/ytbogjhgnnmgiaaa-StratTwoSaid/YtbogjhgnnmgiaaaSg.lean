/- known. -/
import Derived.Test.YtbogjhgnnmgiaaaSf
namespace Go.Proofs.Ytbogjhgnnmgiaaa
open Go.Shelf Go.RowKit Go.Lib

theorem falls_perm (l : List Int) : (falls l).Perm l := List.mergeSort_perm l _
theorem falls_sorted (l : List Int) : (falls l).Pairwise (fun x y => y ≤ x) := by
  have := List.pairwise_mergeSort (le := fun x y : Int => decide (y ≤ x)) (by intro a b c h1 h2; simp at *; omega) (by intro a b; simp; omega) l
  simpa [falls] using this
/-- The one falling row of some numbers. -/
theorem falls_is {l m : List Int} (hp : m.Perm l) (hs : m.Pairwise (fun x y => y ≤ x)) : falls l = m :=
  List.Perm.eq_of_pairwise (le := fun x y : Int => y ≤ x) (fun a b _ _ h1 h2 => by omega) (falls_sorted l) hs ((falls_perm l).trans hp.symm)

def aA (g : Nat) : AV := ⟨0, 0, some ⟨g, 0, none⟩, [1, 5], 2, 0, 0, 1, 0⟩
def aB (g : Nat) : AV := ⟨0, 0, some ⟨g, 0, none⟩, [4, 3], 2, 0, 0, 2, 0⟩
theorem f15 : falls [1, 5] = [5, 1] := falls_is (by decide) (by decide)
theorem f43 : falls [4, 3] = [4, 3] := falls_is (by decide) (by decide)
theorem f132 : falls [1, 3, 2] = [3, 2, 1] := falls_is (by decide) (by decide)
theorem kb1 (g h : Nat) : before 1 (aB g) (aA h) = true := by simp [before, rk, rankF, aA, aB, Lib.compareInt, orI]
theorem kb2 (g h : Nat) : before 2 (aA g) (aB h) = true := by simp [before, rk, rankF, aA, aB, Lib.compareInt]
theorem kb5 (g h : Nat) : before 5 (aA g) (aB h) = true := by simp [before, rk, rankF, aA, aB, Lib.compareInt, rank5, f15, f43, cmpList]
theorem kb6 (g h : Nat) : before 6 (aB g) (aA h) = true := by simp [before, rk, rankF, aA, aB, Lib.compareInt, firstI]

theorem rowAt_blk {W : World} {g : Nat} {l : List Int} {t : TypeId} (h : W.heap[g]? = some (.cells (l.map (Value.int .i64)).toArray t (0, 0))) : RowAt W (Value.int .i64) (some ⟨g, 0, none⟩) l := by
  intro k hk
  have h2 : (⟨g, 0, none⟩ : Addr).add k = ⟨g, k, none⟩ := by simp [Addr.add]; omega
  refine ⟨_, rfl, ?_⟩
  rw [h2]
  exact ⟨(Array.getElem?_eq_some_iff.1 h).1, KP.block_cell h (by simp [hk])⟩

theorem blocks4 (w : World) (o1 o2 o3 o4 : Obj) : ((((w.alloc o1).alloc o2).alloc o3).alloc o4).heap[w.heap.size]? = some o1 ∧ ((((w.alloc o1).alloc o2).alloc o3).alloc o4).heap[w.heap.size + 1]? = some o2 ∧ ((((w.alloc o1).alloc o2).alloc o3).alloc o4).heap[w.heap.size + 1 + 1]? = some o3 ∧ ((((w.alloc o1).alloc o2).alloc o3).alloc o4).heap[w.heap.size + 1 + 1 + 1]? = some o4 := by
  have e : ((((w.alloc o1).alloc o2).alloc o3).alloc o4).heap = (((w.heap.push o1).push o2).push o3).push o4 := rfl
  rw [e]
  refine ⟨?_, ?_, ?_, ?_⟩ <;> (simp only [Array.getElem?_push, Array.size_push]; grind)

set_option maxHeartbeats 2000000 in
theorem known_any (w : World) : Calls Try.prog 10 #[] w fun e w' => e = .returned (.bool true) ∧ Below w.heap.size w w' := by
  obtain ⟨W0, hW0⟩ : ∃ W0, W0 = (((w.alloc (Obj.cells #[Value.int IntKind.i64 1, Value.int IntKind.i64 5] 3)).alloc (Obj.cells #[Value.int IntKind.i64 0, Value.int IntKind.i64 0, Value.slice (some { block := w.heap.size, off := 0 }) 2 2, Value.int IntKind.i64 0, Value.int IntKind.i64 0, Value.int IntKind.i64 1, Value.int IntKind.i64 0] 24)).alloc (Obj.cells #[Value.int IntKind.i64 4, Value.int IntKind.i64 3] 3)).alloc (Obj.cells #[Value.int IntKind.i64 0, Value.int IntKind.i64 0, Value.slice (some { block := w.heap.size + 1 + 1, off := 0 }) 2 2, Value.int IntKind.i64 0, Value.int IntKind.i64 0, Value.int IntKind.i64 2, Value.int IntKind.i64 0] 24) := ⟨_, rfl⟩
  have hb4 := blocks4 w (Obj.cells #[Value.int IntKind.i64 1, Value.int IntKind.i64 5] 3) (Obj.cells #[Value.int IntKind.i64 0, Value.int IntKind.i64 0, Value.slice (some { block := w.heap.size, off := 0 }) 2 2, Value.int IntKind.i64 0, Value.int IntKind.i64 0, Value.int IntKind.i64 1, Value.int IntKind.i64 0] 24) (Obj.cells #[Value.int IntKind.i64 4, Value.int IntKind.i64 3] 3) (Obj.cells #[Value.int IntKind.i64 0, Value.int IntKind.i64 0, Value.slice (some { block := w.heap.size + 1 + 1, off := 0 }) 2 2, Value.int IntKind.i64 0, Value.int IntKind.i64 0, Value.int IntKind.i64 2, Value.int IntKind.i64 0] 24)
  rw [← hW0] at hb4
  have B0 : Hid (Below w.heap.size w W0) := Lib.hid (by rw [hW0]; exact (bel2 w _ _).trans ((bel2 _ _ _).mono (by simp; omega)))
  have D : Hid (∀ W, Below W0.heap.size W0 W → (aA w.heap.size).ok W ∧ (aB (w.heap.size + 1 + 1)).ok W) := Lib.hid (by
    intro W hW
    have p := fun k o (h : W0.heap[k]? = some o) => (hW.block k (Array.getElem?_eq_some_iff.1 h).1).trans h
    exact ⟨⟨rowAt_blk (t := 3) (p _ _ hb4.1), by simp [aA], by simp [aA]⟩, ⟨rowAt_blk (t := 3) (p _ _ hb4.2.2.1), by simp [aB], by simp [aB]⟩⟩)
  have C : Hid (∀ W, Below W0.heap.size W0 W → (∀ j v, (#[Value.int IntKind.i64 0, Value.int IntKind.i64 0, Value.slice (some { block := w.heap.size, off := 0 }) 2 2, Value.int IntKind.i64 0, Value.int IntKind.i64 0, Value.int IntKind.i64 1, Value.int IntKind.i64 0] : Array Value)[j]? = some v → W.cell? ⟨w.heap.size + 1, j, none⟩ = some v) ∧ (∀ j v, (#[Value.int IntKind.i64 0, Value.int IntKind.i64 0, Value.slice (some { block := w.heap.size + 1 + 1, off := 0 }) 2 2, Value.int IntKind.i64 0, Value.int IntKind.i64 0, Value.int IntKind.i64 2, Value.int IntKind.i64 0] : Array Value)[j]? = some v → W.cell? ⟨w.heap.size + 1 + 1 + 1, j, none⟩ = some v)) := Lib.hid (by
    intro W hW
    have p := fun k o (h : W0.heap[k]? = some o) => (hW.block k (Array.getElem?_eq_some_iff.1 h).1).trans h
    exact ⟨fun j v h => KP.block_cell (p _ _ hb4.2.1) h, fun j v h => KP.block_cell (p _ _ hb4.2.2.2) h⟩)
  clear hb4
  have G : Hid (∀ W, Below W0.heap.size W0 W →
      (W.cell? ⟨w.heap.size + 1, 0, none⟩ = some (.int .i64 0) ∧ W.cell? ⟨w.heap.size + 1, 1, none⟩ = some (.int .i64 0) ∧ W.cell? ⟨w.heap.size + 1, 2, none⟩ = some (.slice (some ⟨w.heap.size, 0, none⟩) 2 2) ∧ W.cell? ⟨w.heap.size + 1, 3, none⟩ = some (.int .i64 0) ∧ W.cell? ⟨w.heap.size + 1, 4, none⟩ = some (.int .i64 0) ∧ W.cell? ⟨w.heap.size + 1, 5, none⟩ = some (.int .i64 1) ∧ W.cell? ⟨w.heap.size + 1, 6, none⟩ = some (.int .i64 0)) ∧
      (W.cell? ⟨w.heap.size + 1 + 1 + 1, 0, none⟩ = some (.int .i64 0) ∧ W.cell? ⟨w.heap.size + 1 + 1 + 1, 1, none⟩ = some (.int .i64 0) ∧ W.cell? ⟨w.heap.size + 1 + 1 + 1, 2, none⟩ = some (.slice (some ⟨w.heap.size + 1 + 1, 0, none⟩) 2 2) ∧ W.cell? ⟨w.heap.size + 1 + 1 + 1, 3, none⟩ = some (.int .i64 0) ∧ W.cell? ⟨w.heap.size + 1 + 1 + 1, 4, none⟩ = some (.int .i64 0) ∧ W.cell? ⟨w.heap.size + 1 + 1 + 1, 5, none⟩ = some (.int .i64 2) ∧ W.cell? ⟨w.heap.size + 1 + 1 + 1, 6, none⟩ = some (.int .i64 0))) := Lib.hid (by
    intro W hW
    have c := C.out W hW
    exact ⟨⟨c.1 0 _ rfl, c.1 1 _ rfl, c.1 2 _ rfl, c.1 3 _ rfl, c.1 4 _ rfl, c.1 5 _ rfl, c.1 6 _ rfl⟩, ⟨c.2 0 _ rfl, c.2 1 _ rfl, c.2 2 _ rfl, c.2 3 _ rfl, c.2 4 _ rfl, c.2 5 _ rfl, c.2 6 _ rfl⟩⟩)
  clear C
  go_enter Try.func10, Try.ntmps10
  go_wp2_with fail
  rw [← hW0]
  refine (parse_any _ _).mono ?_
  rw [show parseN { data := #[109, 101, 97] } = 6 by decide +kernel]
  rintro e w1 ⟨rfl, b1⟩
  clear hW0
  have E1 := Lib.hid b1; clear b1
  go_wp2_with fail
  refine (falling_any (some ⟨w1.heap.size, 0, none⟩) [1, 3, 2] 3 _ (rowAt_blk (t := 3) (heap1 _ _)) (by simp) (by simp)).mono ?_
  rintro e w2 ⟨A', c', rfl, h2, b2⟩
  have E2 := Lib.hid (E1.out.trans (((bel1 w1 _).mono E1.out.size).trans (b2.mono (Nat.le_trans E1.out.size (by simp))))); clear b2
  have F2 : Hid (Below w2.heap.size w2 w2) := Lib.hid (Below.refl _ _)
  rw [f132] at h2
  obtain ⟨a3, rfl, hlt3, hc3⟩ := h2 0 (by simp)
  clear h2
  obtain ⟨⟨_, _, _, _, _, _, _⟩, ⟨_, _, _, _, _, _, _⟩⟩ := G.out _ E2.out
  go_wp2_with fail
  refine (before_any 1 (aB _) (aA _) _ (D.out _ E2.out).2 (D.out _ E2.out).1).mono ?_
  rw [kb1]
  rintro e w3 ⟨rfl, b3⟩
  have F3 := Lib.hid (F2.out.trans (b3.mono F2.out.size))
  have E3 := Lib.hid (E2.out.trans (b3.mono E2.out.size)); clear b3
  obtain ⟨⟨_, _, _, _, _, _, _⟩, ⟨_, _, _, _, _, _, _⟩⟩ := G.out _ E3.out
  go_wp2_with fail
  refine (before_any 2 (aA _) (aB _) _ (D.out _ E3.out).1 (D.out _ E3.out).2).mono ?_
  rw [kb2]
  rintro e w4 ⟨rfl, b4⟩
  have F4 := Lib.hid (F3.out.trans (b4.mono F3.out.size))
  have E4 := Lib.hid (E3.out.trans (b4.mono E3.out.size)); clear b4
  obtain ⟨⟨_, _, _, _, _, _, _⟩, ⟨_, _, _, _, _, _, _⟩⟩ := G.out _ E4.out
  go_wp2_with fail
  refine (before_any 5 (aA _) (aB _) _ (D.out _ E4.out).1 (D.out _ E4.out).2).mono ?_
  rw [kb5]
  rintro e w5 ⟨rfl, b5⟩
  have F5 := Lib.hid (F4.out.trans (b5.mono F4.out.size))
  have E5 := Lib.hid (E4.out.trans (b5.mono E4.out.size)); clear b5
  obtain ⟨⟨_, _, _, _, _, _, _⟩, ⟨_, _, _, _, _, _, _⟩⟩ := G.out _ E5.out
  go_wp2_with fail
  refine (before_any 6 (aB _) (aA _) _ (D.out _ E5.out).2 (D.out _ E5.out).1).mono ?_
  rw [kb6]
  rintro e w6 ⟨rfl, b6⟩
  have F6 := Lib.hid (F5.out.trans (b6.mono F5.out.size))
  have E6 := Lib.hid (E5.out.trans (b6.mono E5.out.size)); clear b6
  obtain ⟨⟨_, _, _, _, _, _, _⟩, ⟨_, _, _, _, _, _, _⟩⟩ := G.out _ E6.out
  go_wp2_with fail
  refine (name17 7 _).mono ?_
  rw [show nameS 7 = ⟨#[114, 97, 110, 100, 111, 109]⟩ from rfl]
  rintro e w7 ⟨rfl, b7⟩
  have F7 := Lib.hid (F6.out.trans (b7.mono F6.out.size))
  have E7 := Lib.hid (E6.out.trans (b7.mono E6.out.size)); clear b7
  go_wp2_with fail
  refine (name17 8 _).mono ?_
  rw [show nameS 8 = ⟨#[]⟩ from rfl]
  rintro e w8 ⟨rfl, b8⟩
  have F8 := Lib.hid (F7.out.trans (b8.mono F7.out.size))
  have E8 := Lib.hid (E7.out.trans (b8.mono E7.out.size)); clear b8
  have hc9 := (F8.out.cell (p := a3.add 0) hlt3).trans hc3
  simp only [List.getElem_cons_zero, add0] at hc9
  go_wp2_with fail
  go_ret
  exact ⟨rfl, B0.out.trans (E8.out.mono B0.out.size)⟩
end Go.Proofs.Ytbogjhgnnmgiaaa
