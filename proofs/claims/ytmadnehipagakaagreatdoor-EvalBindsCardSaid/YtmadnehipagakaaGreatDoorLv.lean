/- A row of values of the call's own. -/
import Derived.Test.YtmadnehipagakaaGreatDoorOa
import Derived.Deep.Onto
namespace Go.Proofs.YtmadnehipagakaaGreatDoor
open Go.RowKit Go.Lib Go.Sort KP
def zV : Value := .agg #[.int .i64 0, .int .i64 0, .string ⟨#[]⟩]
theorem infoV : (Tryz.prog.info? 26).map (fun i => (i.zero, i.size, i.bytes)) = some (some zV, 3, 32) := by kernel_rfl
abbrev v3 (v : Vl) : List Value := [.int .i64 v.1, .int .i64 v.2.1, .string v.2.2]
theorem valsC_snoc (l : List Vl) (v : Vl) : valsC (l ++ [v]) = valsC l ++ v3 v := by
  induction l with
  | nil => rfl
  | cons x l ih => rw [List.cons_append, valsC, ih]; rfl
theorem valsC_len (l : List Vl) : (valsC l).length = l.length * 3 := by
  induction l with
  | nil => rfl
  | cons x l ih => rw [valsC]; simp [ih]; omega
theorem v3_flat (v : Vl) : ∀ u ∈ v3 v, u.oneCell' = true := by
  intro u hu
  simp at hu
  rcases hu with rfl | rfl | rfl <;> rfl
theorem new_at {W : World} {g : Nat} {v : Vl} {T : TypeId} {fr : Nat × Nat} (h : W.heap[g]? = some (.cells #[.int .i64 v.1, .int .i64 v.2.1, .string v.2.2] T fr)) : ∀ j u, (v3 v)[j]? = some u → W.cell? ((⟨g, 0, none⟩ : Addr).add j) = some u := by
  intro j u hu
  have h3 : (⟨g, 0, none⟩ : Addr).add j = ⟨g, j, none⟩ := by simp [Addr.add]; omega
  rw [h3]
  exact block_cell h (by simpa using hu)
/-- A row of its own as values. -/
theorem vals_owns {W : World} {B n : Nat} {v : Value} {l : List Vl} {T : TypeId} (h : W.ownsRow B T 3 v n (valsC l)) : l.length = n ∧ ((n = 0 ∧ v = .slice none 0 0) ∨ ∃ g c cur, v = .slice (some ⟨g, 0, none⟩) n c ∧ W.heap[g]? = some (.cells cur T (0, 0)) ∧ B ≤ g ∧ n ≤ c ∧ cur.toList.take (n * 3) = valsC l) := by
  have hn : l.length = n := by have := h.1; rw [valsC_len] at this; omega
  refine ⟨hn, ?_⟩
  rcases h.2 with ⟨e1, e2⟩ | ⟨g1, cap, cur, e1, hB, hg1, hc1, hc2, hc3, hc4⟩
  · have : n = 0 := e2
    subst this
    exact .inl ⟨rfl, e1⟩
  · exact .inr ⟨g1, cap, cur, e1, hg1, hB, hc1, hc4⟩
theorem vals_at_own {W : World} {g n : Nat} {cur : Array Value} {l : List Vl} {T : TypeId} {fr : Nat × Nat} (hg : W.heap[g]? = some (.cells cur T fr)) (hc : cur.toList.take (n * 3) = valsC l) : ValsAt W (some ⟨g, 0, none⟩) l := by
  intro k hk
  refine ⟨_, rfl, fun j v hv => ?_⟩
  have h1 := valsC_at l k hk j v hv
  have e1 : ((⟨g, 0, none⟩ : Addr).add (k * 3)).add j = ⟨g, k * 3 + j, none⟩ := by
    simp [Addr.add]
    split <;> split <;> simp_all
  rw [e1]
  refine block_cell hg ?_
  rw [← hc, List.getElem?_take] at h1
  split at h1
  · simpa using h1
  · cases h1
theorem vals_nil (W : World) (A : Option Addr) : ValsAt W A [] := fun k h => by simp at h
theorem valsC_get {l : List Vl} {k : Nat} (h : k < l.length) : (valsC l)[k * 3]? = some (.int .i64 l[k].1) ∧ (valsC l)[k * 3 + 1]? = some (.int .i64 l[k].2.1) ∧ (valsC l)[k * 3 + 2]? = some (.string l[k].2.2) :=
  ⟨valsC_at l k h 0 _ rfl, valsC_at l k h 1 _ rfl, valsC_at l k h 2 _ rfl⟩
/-- Three cells set in the midst: the row with another value. -/
theorem vals_set {W : World} {g n : Nat} {cur : Array Value} {l : List Vl} {T : TypeId} (hg : W.heap[g]? = some (.cells cur T (0, 0))) (hc : cur.toList.take (n * 3) = valsC l) (hn : l.length = n) (p : Nat) (v : Vl) :
    ValsAt (((W.setCell ⟨g, p * 3, none⟩ (.int .i64 v.1)).setCell ⟨g, p * 3 + 1, none⟩ (.int .i64 v.2.1)).setCell ⟨g, p * 3 + 2, none⟩ (.string v.2.2)) (some ⟨g, 0, none⟩) (l.set p v) := by
  have h1 := block_set (block_set (block_set hg (j := p * 3) (.int .i64 v.1)) (j := p * 3 + 1) (.int .i64 v.2.1)) (j := p * 3 + 2) (.string v.2.2)
  intro k hk
  have hk' : k < l.length := by simpa using hk
  refine ⟨_, rfl, fun j u hu => ?_⟩
  have e1 : ((⟨g, 0, none⟩ : Addr).add (k * 3)).add j = ⟨g, k * 3 + j, none⟩ := by
    simp [Addr.add]
    split <;> split <;> simp_all
  rw [e1]
  refine block_cell h1 ?_
  have hj : j < 3 := by
    rcases Nat.lt_or_ge j 3 with h | h
    · exact h
    · rw [Array.getElem?_eq_none (by simpa using h)] at hu; cases hu
  have hsz : n * 3 ≤ cur.size := by
    have e := congrArg List.length hc
    rw [valsC_len, List.length_take, hn] at e
    simp at e
    omega
  by_cases e : k = p
  · subst e
    rw [List.getElem_set_self] at hu
    match j, hj with
    | 0, _ =>
      simp only [Nat.add_zero]
      rw [Array.getElem?_setIfInBounds_ne (by omega), Array.getElem?_setIfInBounds_ne (by omega), Array.getElem?_setIfInBounds_self_of_lt (by omega)]
      exact hu
    | 1, _ =>
      rw [Array.getElem?_setIfInBounds_ne (by omega), Array.getElem?_setIfInBounds_self_of_lt (by simp; omega)]
      exact hu
    | 2, _ =>
      rw [Array.getElem?_setIfInBounds_self_of_lt (by simp; omega)]
      exact hu
  · rw [List.getElem_set_ne (by omega)] at hu
    rw [Array.getElem?_setIfInBounds_ne (by omega), Array.getElem?_setIfInBounds_ne (by omega), Array.getElem?_setIfInBounds_ne (by omega)]
    have h2 := valsC_at l k hk' j u hu
    rw [← hc, List.getElem?_take] at h2
    split at h2
    · simpa using h2
    · cases h2
end Go.Proofs.YtmadnehipagakaaGreatDoor
