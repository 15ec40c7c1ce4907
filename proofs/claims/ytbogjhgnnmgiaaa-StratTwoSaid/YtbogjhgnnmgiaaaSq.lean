/- StratRecent: the plain law. -/
import Derived.Test.YtbogjhgnnmgiaaaSp
namespace Go.Proofs.Ytbogjhgnnmgiaaa
open Go.Shelf Go.RowKit Go.Lib

theorem falls_top {l : List Int} {top : Int} (h : ∀ x ∈ l, x < top) : falls (l ++ [top]) = top :: falls l := by
  refine falls_is ?_ ?_
  · exact (List.Perm.cons top (falls_perm l)).trans (by simpa using (List.perm_append_comm (l₁ := [top]) (l₂ := l)))
  · refine List.pairwise_cons.2 ⟨fun x hx => ?_, falls_sorted l⟩
    have := h x ((falls_perm l).mem_iff.1 hx)
    omega
theorem falls_below {l : List Int} {top : Int} (hl : l ≠ []) (h : ∀ x ∈ l, x < top) : ∃ y ys, falls l = y :: ys ∧ y < top := by
  have h2 := falls_len l
  cases hf : falls l with
  | nil => rw [hf] at h2; simp at h2; exact absurd h2.symm (by simpa using hl)
  | cons y ys => exact ⟨y, ys, rfl, h y ((falls_perm l).mem_iff.1 (by rw [hf]; simp))⟩
def facV (A : Option Addr) (l : List Int) (c : Nat) (b : Int) : AV := ⟨0, 0, A, l, c, 0, 0, b, 0⟩
theorem recent_law {l : List Int} {top : Int} (hl : 0 < l.length) (h : ∀ x ∈ l, x < top) (A1 A2 A3 : Option Addr) (c1 c2 c3 : Nat) :
    before 5 (facV A1 (l ++ [top]) c1 1) (facV A2 (l[0] :: l) c2 2) = true ∧ before 6 (facV A3 (top :: l) c3 1) (facV A2 (l[0] :: l) c2 2) = true ∧ before 5 (facV A2 (l[0] :: l) c2 2) (facV A1 (l ++ [top]) c1 1) = false := by
  have h0 := cI_self 0
  have ha := falls_top h
  have h1 : ∀ x ∈ l[0] :: l, x < top := by
    intro x hx
    rcases List.mem_cons.1 hx with rfl | hx
    · exact h _ (List.getElem_mem _)
    · exact h x hx
  obtain ⟨y, ys, hb, hy⟩ := falls_below (l := l[0] :: l) (by simp) h1
  have hc : Lib.compareInt y top = -1 := by unfold Lib.compareInt; simp [hy]
  have hc2 : Lib.compareInt top y = 1 := by unfold Lib.compareInt; rw [if_neg (by omega), if_pos (by omega)]
  have hc3 : Lib.compareInt l[0] top = -1 := by unfold Lib.compareInt; simp [h _ (List.getElem_mem hl)]
  refine ⟨?_, ?_, ?_⟩
  · have : rk 5 (facV A1 (l ++ [top]) c1 1) (facV A2 (l[0] :: l) c2 2) = -1 := by
      unfold rk rankF rank5 facV
      dsimp only
      simp [h0, ha, hb, cmpList, hc]
    unfold before; rw [this]; decide
  · have : rk 6 (facV A3 (top :: l) c3 1) (facV A2 (l[0] :: l) c2 2) = -1 := by
      unfold rk rankF facV
      dsimp only
      simp [h0, firstI, hc3]
    unfold before; rw [this]; decide
  · have : rk 5 (facV A2 (l[0] :: l) c2 2) (facV A1 (l ++ [top]) c1 1) = 1 := by
      unfold rk rankF rank5 facV
      dsimp only
      simp [h0, ha, hb, cmpList, hc2]
    unfold before; rw [this]; decide
theorem news_of_row {W : World} {ad : Addr} {l : List Int} (h : RowAt W (Value.int .i64) (some ad) l) : ∀ j u, (l.map (Value.int .i64))[j]? = some u → W.cell? (ad.add j) = some u := by
  intro j u hu
  have hj : j < l.length := by have := (List.getElem?_eq_some_iff.1 hu).1; simpa using this
  obtain ⟨ad', e, _, hcell⟩ := h j hj
  injection e with e
  subst e
  rw [List.getElem?_map, List.getElem?_eq_getElem hj] at hu
  simp at hu
  subst hu
  exact hcell
end Go.Proofs.Ytbogjhgnnmgiaaa
