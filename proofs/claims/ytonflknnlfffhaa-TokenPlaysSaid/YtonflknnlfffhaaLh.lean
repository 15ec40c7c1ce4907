/- TokenPlays: the tree and the law's row. -/
import Derived.Test.YtonflknnlfffhaaLf
namespace Go.Proofs.Ytonflknnlfffhaa
open Go.RowKit Go.Lib KP MR RW
/-- The tree, and the law's row beside it, apart. -/
structure Sp (w1 : World) (g : Nat) (F : Nat → Prop) (T : List Tk) (nx : Int) (vo : Value) (i : Nat) (W : World) : Prop where
  tree : TreeT w1.heap.size w1 F g T nx W
  own : OwnK W w1.heap.size vo T
  nf : ∀ k, vo.ownBlock = some k → ¬ F k
  len : T.length ≤ i
  nx : nx ≤ (i : Int) + 1
section
variable {w1 W W' : World} {g i : Nat} {F F' : Nat → Prop} {T T' : List Tk} {nx nx' : Int} {vo v' : Value}
theorem Sp.below (h : Sp w1 g F T nx vo i W) (hb : Below W.heap.size W W') : Sp w1 g F T nx vo i W' := ⟨h.tree.grow hb, h.own.below hb, h.nf, h.len, h.nx⟩
theorem Sp.wf (h : Sp w1 g F T nx vo i W) : WF T := h.tree.wf
theorem Sp.row (h : Sp w1 g F T nx vo i W) : ∃ A c, vo = .slice A T.length c ∧ ToksAt (fun _ => False) W A T ∧ (A = none → c = 0) ∧ T.length ≤ c := by
  obtain ⟨A, c, e, hr, _, hc, hA⟩ := OwnW.rows (N := fun _ => False) tokc_len (by decide) h.own (fun _ _ h => h)
  exact ⟨A, c, e, hr, hA, hc⟩
/-- The row behind a step of the tree's. -/
theorem Sp.rowKeep (h : Sp w1 g F T nx vo i W) (hk : Keep F W W') : OwnK W' w1.heap.size vo T := h.own.keep hk h.nf
theorem Sp.more (h : Sp w1 g F T nx vo i W) : Sp w1 g F T nx vo (i + 1) W := ⟨h.tree, h.own, h.nf, by have := h.len; omega, by have := h.nx; omega⟩
/-- A new row. -/
theorem Sp.new {b : Nat} (ht : TreeT w1.heap.size w1 F' g T' nx' W') (ho : OwnK W' b v' T') (hb : ∀ k, F' k → k < b) (hB : w1.heap.size ≤ b) (hl : T'.length ≤ i) (hn : nx' ≤ (i : Int) + 1) : Sp w1 g F' T' nx' v' i W' :=
  ⟨ht, ho.mono hB, fun k hk hF => by have := hb k hF; have := (ho.lt hk).1; omega, hl, hn⟩
theorem stay_few (T : List Tk) (G : List Int) : (stay T G).length ≤ T.length := List.length_filter_le _ _
theorem goes_few (T : List Tk) (G : List Int) : (goes T G).length ≤ T.length := by unfold goes; rw [List.length_map]; exact List.length_filter_le _ _
end
theorem factIds_take (T : List Tk) (f : Int) (k : Nat) (hk : k < T.length) : factIds (T.take (k + 1)) f = factIds (T.take k) f ++ (if T[k].2.2 = f then [T[k].1] else []) := by
  unfold factIds
  rw [List.take_succ_eq_append_getElem hk, List.filter_append, List.map_append]
  congr 1
  by_cases e : T[k].2.2 = f
  · rw [List.filter_cons_of_pos (by simp [e]), if_pos e]; rfl
  · rw [List.filter_cons_of_neg (by simp [e]), if_neg e]; rfl
theorem kidsOf_take (T : List Tk) (p : Int) (k : Nat) (hk : k < T.length) : kidsOf (T.take (k + 1)) p = kidsOf (T.take k) p ++ (if T[k].2.1 = p then [T[k].1] else []) := by
  rw [List.take_succ_eq_append_getElem hk, kidsOf_snoc]
theorem factIds_few (T : List Tk) (f : Int) : (factIds T f).length ≤ T.length := by unfold factIds; rw [List.length_map]; exact List.length_filter_le _ _
theorem kidsOf_few (T : List Tk) (p : Int) : (kidsOf T p).length ≤ T.length := by unfold kidsOf; rw [List.length_map]; exact List.length_filter_le _ _
end Go.Proofs.Ytonflknnlfffhaa
