/- A slice of ints or of strings among a law's arguments: its cells. -/
import Derived.SliceStrings
import Derived.Carry
import Derived.OpenShut
namespace Go.Proofs.YtoaepnidlddmjaaDoor
open Go.ChangeShapes Go.WideShapes Go.RowKit

/-- A value is a row that came in: its cells lie in the world's blocks. -/
def RowAt {α : Type} (w : World) (g : α → Value) (A : Option Addr) (l : List α) : Prop :=
  ∀ k (h : k < l.length), ∃ a, A = some a ∧ (a.add k).block < w.heap.size ∧ w.cell? (a.add k) = some (g l[k])

theorem RowAt.below {α : Type} {w w' : World} {g : α → Value} {A : Option Addr} {l : List α} (h : RowAt w g A l) (hb : Below w.heap.size w w') : RowAt w' g A l := by
  intro k hk
  obtain ⟨a, e, h1, h2⟩ := h k hk
  exact ⟨a, e, Nat.lt_of_lt_of_le h1 hb.size, (Below.cell hb (p := a.add k) h1).trans h2⟩

section
variable {H : Type} {enc : TypeId × Value → H} {P : Program} {w : World}

theorem open_strs {t e : TypeId} {v : Value} {d : DataW H} {p : List MemPlace} (ht : P.underlying t = some (.slice e)) (he : P.underlying e = some .string) (hc : P.cellsOf e = 1)
    (hv : ∃ a len cap, v = .slice a len cap) (h : DataW.Trod enc P w 0 (fun _ => true) true t v d p) : ∃ A l c, v = .slice A l.length c ∧ RowAt w Value.string A l ∧ l.length ≤ maxLen := by
  obtain ⟨a0, len, cap, rfl⟩ := hv
  obtain ⟨fuel, hf⟩ := h
  rcases open_strings ht he hc hf with ⟨hcs, _⟩ | ⟨a, len', cap', ss, hcs, _, hl, hm, hz, _, hcell, _⟩
  · have : (Value.slice a0 len cap) = .slice none 0 0 := by simpa [Value.cells] using hcs
    exact ⟨none, [], 0, this, fun k h => absurd h (by simp), by simp⟩
  · have : (Value.slice a0 len cap) = .slice (some a) len' cap' := by simpa [Value.cells] using hcs
    have hlen : len' ≤ ss.length := by rw [hz]; simpa using hl
    refine ⟨some a, ss.take len', cap', by rw [this, List.length_take, Nat.min_eq_left hlen], fun k h => ⟨a, rfl, ?_⟩, by rw [List.length_take]; omega⟩
    rw [List.length_take] at h
    have h2 := hcell k (by omega)
    refine ⟨World.block_lt_of_cell? _ _ h2, ?_⟩
    rw [h2, List.getD_eq_getElem?_getD, List.getElem?_eq_getElem (by omega : k < ss.length), List.getElem_take]; rfl

theorem open_nums {t e : TypeId} {k : IntKind} {v : Value} {d : DataW H} {p : List MemPlace} (ht : P.underlying t = some (.slice e)) (he : P.underlying e = some (.int k)) (hc : P.cellsOf e = 1)
    (hv : ∃ a len cap, v = .slice a len cap) (h : DataW.Trod enc P w 0 (fun _ => true) true t v d p) : ∃ A l c, v = .slice A l.length c ∧ RowAt w (Value.int k) A l ∧ (∀ n ∈ l, (Lit.int k n).wf = true) ∧ l.length ≤ maxLen := by
  obtain ⟨a0, len, cap, rfl⟩ := hv
  obtain ⟨fuel, hf⟩ := h
  rcases open_ints ht he hc hf with ⟨hcs, _⟩ | ⟨a, len', cap', ss, hcs, _, hl, hm, hz, _, hcell, hw⟩
  · have : (Value.slice a0 len cap) = .slice none 0 0 := by simpa [Value.cells] using hcs
    exact ⟨none, [], 0, this, fun k h => absurd h (by simp), by simp, by simp⟩
  · have : (Value.slice a0 len cap) = .slice (some a) len' cap' := by simpa [Value.cells] using hcs
    have hlen : len' ≤ ss.length := by rw [hz]; simpa using hl
    refine ⟨some a, ss.take len', cap', by rw [this, List.length_take, Nat.min_eq_left hlen], fun k h => ⟨a, rfl, ?_⟩, fun n hn => hw n (List.mem_of_mem_take hn), by rw [List.length_take]; omega⟩
    rw [List.length_take] at h
    have h2 := hcell k (by omega)
    refine ⟨World.block_lt_of_cell? _ _ h2, ?_⟩
    rw [h2, List.getD_eq_getElem?_getD, List.getElem?_eq_getElem (by omega : k < ss.length), List.getElem_take]; rfl
end
end Go.Proofs.YtoaepnidlddmjaaDoor
