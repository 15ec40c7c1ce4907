/- A slice of ints among a law's arguments: opened, a nil one told. -/
import Derived.Test.YtbogjhgnnmgiaaaSl
namespace Go.Proofs.Ytbogjhgnnmgiaaa
open Go.ChangeShapes Go.WideShapes Go.RowKit
section
variable {H : Type} {enc : TypeId × Value → H} {P : Program} {w : World}
theorem open_numsn {t e : TypeId} {k : IntKind} {v : Value} {d : DataW H} {p : List MemPlace} (ht : P.underlying t = some (.slice e)) (he : P.underlying e = some (.int k)) (hc : P.cellsOf e = 1)
    (hv : ∃ a len cap, v = .slice a len cap) (h : DataW.Trod enc P w 0 (fun _ => true) true t v d p) : ∃ A l c, v = .slice A l.length c ∧ RowAt w (Value.int k) A l ∧ (A = none → c = 0) ∧ (∀ n ∈ l, (Lit.int k n).wf = true) ∧ l.length ≤ maxLen := by
  obtain ⟨a0, len, cap, rfl⟩ := hv
  obtain ⟨fuel, hf⟩ := h
  rcases open_ints ht he hc hf with ⟨hcs, _⟩ | ⟨a, len', cap', ss, hcs, _, hl, hm, hz, _, hcell, hw⟩
  · have : (Value.slice a0 len cap) = .slice none 0 0 := by simpa [Value.cells] using hcs
    exact ⟨none, [], 0, this, fun k h => absurd h (by simp), fun _ => rfl, by simp, by simp⟩
  · have : (Value.slice a0 len cap) = .slice (some a) len' cap' := by simpa [Value.cells] using hcs
    have hlen : len' ≤ ss.length := by rw [hz]; simpa using hl
    refine ⟨some a, ss.take len', cap', by rw [this, List.length_take, Nat.min_eq_left hlen], fun k h => ⟨a, rfl, ?_⟩, (fun e => by cases e), fun n hn => hw n (List.mem_of_mem_take hn), by rw [List.length_take]; omega⟩
    rw [List.length_take] at h
    have h2 := hcell k (by omega)
    refine ⟨World.block_lt_of_cell? _ _ h2, ?_⟩
    rw [h2, List.getD_eq_getElem?_getD, List.getElem?_eq_getElem (by omega : k < ss.length), List.getElem_take]; rfl
end
end Go.Proofs.Ytbogjhgnnmgiaaa
