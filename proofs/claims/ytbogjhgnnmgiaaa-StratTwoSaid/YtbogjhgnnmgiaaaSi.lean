/- What the laws on two ways share. -/
import Derived.Test.YtbogjhgnnmgiaaaSg
namespace Go.Proofs.Ytbogjhgnnmgiaaa
open Go.Shelf Go.RowKit Go.Lib

/-- A way's seven cells in a block. -/
def Boxed (W : World) (g : Nat) (a : AV) : Prop :=
  W.cell? ⟨g, 0, none⟩ = some (.int .i64 a.r) ∧ W.cell? ⟨g, 1, none⟩ = some (.int .i64 a.al) ∧ W.cell? ⟨g, 2, none⟩ = some (.slice a.A a.l.length a.c) ∧ W.cell? ⟨g, 3, none⟩ = some (.int .i64 a.sa) ∧ W.cell? ⟨g, 4, none⟩ = some (.int .i64 a.sp) ∧ W.cell? ⟨g, 5, none⟩ = some (.int .i64 a.bo) ∧ W.cell? ⟨g, 6, none⟩ = some (.int .i64 a.ke)
abbrev AV.cs (a : AV) : Array Value := #[.int .i64 a.r, .int .i64 a.al, .slice a.A a.l.length a.c, .int .i64 a.sa, .int .i64 a.sp, .int .i64 a.bo, .int .i64 a.ke]
theorem boxed_of {W : World} {g : Nat} {a : AV} {t : TypeId} (h : W.heap[g]? = some (.cells a.cs t (0, 0))) : Boxed W g a :=
  ⟨KP.block_cell h rfl, KP.block_cell h rfl, KP.block_cell h rfl, KP.block_cell h rfl, KP.block_cell h rfl, KP.block_cell h rfl, KP.block_cell h rfl⟩
theorem Boxed.below {W W' : World} {g : Nat} {a : AV} (h : Boxed W g a) (hb : Below W.heap.size W W') (hg : g < W.heap.size) : Boxed W' g a := by
  have c := fun j => hb.cell (p := ⟨g, j, none⟩) hg
  obtain ⟨h0, h1, h2, h3, h4, h5, h6⟩ := h
  exact ⟨(c 0).trans h0, (c 1).trans h1, (c 2).trans h2, (c 3).trans h3, (c 4).trans h4, (c 5).trans h5, (c 6).trans h6⟩

theorem boxed2 (w : World) (a b : AV) : ∀ W, Below ((w.alloc (.cells a.cs 24)).alloc (.cells b.cs 24)).heap.size ((w.alloc (.cells a.cs 24)).alloc (.cells b.cs 24)) W → Boxed W w.heap.size a ∧ Boxed W (w.heap.size + 1) b := by
  intro W hW
  have e : ((w.alloc (.cells a.cs 24)).alloc (.cells b.cs 24)).heap = (w.heap.push (.cells a.cs 24)).push (.cells b.cs 24) := rfl
  have h1 : ((w.alloc (.cells a.cs 24)).alloc (.cells b.cs 24)).heap[w.heap.size]? = some (.cells a.cs 24) := by
    rw [e]; simp only [Array.getElem?_push, Array.size_push]; grind
  have h2 : ((w.alloc (.cells a.cs 24)).alloc (.cells b.cs 24)).heap[w.heap.size + 1]? = some (.cells b.cs 24) := by
    rw [e]; simp only [Array.getElem?_push, Array.size_push]; grind
  exact ⟨(boxed_of h1).below hW (Array.getElem?_eq_some_iff.1 h1).1, (boxed_of h2).below hW (Array.getElem?_eq_some_iff.1 h2).1⟩

theorem few_any (a : AV) (w : World) : Calls Try.prog 11 #[a.v] w fun e w' => e = .returned (.bool (decide ((a.l.length : Int) ≤ 40))) ∧ Below w.heap.size w w' := by
  go_enter Try.func11, Try.ntmps11
  go_wp2
  go_ret
  exact ⟨rfl, bel1 _ _⟩
theorem few_w (a : AV) {W0 W : World} (hW : Below W0.heap.size W0 W) : Calls Try.prog 11 #[a.v] W fun e w' => e = .returned (.bool (decide ((a.l.length : Int) ≤ 40))) ∧ Below W0.heap.size W0 w' :=
  (few_any a W).mono fun _ _ h => ⟨h.1, hW.trans (h.2.mono hW.size)⟩
theorem before_w (s : Int) (a b : AV) {W0 W : World} (ha : a.ok W0) (hb : b.ok W0) (hW : Below W0.heap.size W0 W) : Calls Try.prog 12 #[.int .i64 s, a.v, b.v] W fun e w' => e = .returned (.bool (before s a b)) ∧ Below W0.heap.size W0 w' :=
  (before_any s a b W (ha.below hW) (hb.below hW)).mono fun _ _ h => ⟨h.1, hW.trans (h.2.mono hW.size)⟩
theorem known_w {W0 W : World} (hW : Below W0.heap.size W0 W) : Calls Try.prog 10 #[] W fun e w' => e = .returned (.bool true) ∧ Below W0.heap.size W0 w' :=
  (known_any W).mono fun _ _ h => ⟨h.1, hW.trans (h.2.mono hW.size)⟩

theorem sal_before (s : Int) (a b : AV) (h : a.sa ≠ b.sa) : before s a b = decide (b.sa < a.sa) := by
  have h0 : cI b.sa a.sa ≠ 0 := by unfold cI Lib.compareInt; split <;> (try split) <;> omega
  unfold before rk rankF
  rw [if_pos h0]
  unfold cI Lib.compareInt
  congr 1
  apply propext
  split <;> (try split) <;> omega
end Go.Proofs.Ytbogjhgnnmgiaaa
