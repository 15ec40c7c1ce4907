/- Values among a law's arguments, opened; the nil row has no room. -/
import Derived.Test.YtmadnehipagakaaGreatDoorOa
namespace Go.Proofs.YtmadnehipagakaaGreatDoor
open Go.ChangeShapes Go.WideShapes Go.RowKit Go.Deep
section
variable {H : Type} {enc : TypeId × Value → H} {w : World}
theorem open_valsn {v : Value} {d : DataW H} {p : List MemPlace} (hv : ∃ a len cap, v = .slice a len cap) (h : DataW.Trod enc Tryz.prog w 0 (fun _ => true) true 22 v d p) :
    ∃ A ls c, v = .slice A ls.length c ∧ ValsAt w A ls ∧ (∀ x ∈ ls, cameV x) ∧ (A = none → c = 0) := by
  obtain ⟨a0, len0, cap0, rfl⟩ := hv
  obtain ⟨fuel, hf⟩ := h
  rcases open_slice Tryz.underlying22 hf with ⟨hcs, _⟩ | ⟨a, len, cap, m, n, D, Pl, hcs, _, hl, hm, hmm, _, hel⟩
  · have : (Value.slice a0 len0 cap0) = .slice none 0 0 := by simpa [Value.cells] using hcs
    exact ⟨none, [], 0, this, fun k h => absurd h (by simp), by simp, fun _ => rfl⟩
  · have hv : (Value.slice a0 len0 cap0) = .slice (some a) len cap := by simpa [Value.cells] using hcs
    rw [cV] at hel
    have hone : ∀ i, i < len → ∃ x : Vl, (∀ j v, x.cs[j]? = some v → w.cell? ((a.add (i * 3)).add j) = some v) ∧ cameV x := by
      intro i hi
      obtain ⟨cs, h1, h2⟩ := hel i (by rw [hmm]; split <;> omega)
      obtain ⟨hlen, hcell⟩ := cells_at h1
      obtain ⟨x, ⟨e0, e1, e2⟩, _, hr⟩ := open_cells h2
      refine ⟨x, ?_, hr⟩
      intro j v hj
      refine hcell j v ?_
      rw [← hj]
      match j with
      | 0 => exact e0
      | 1 => exact e1
      | 2 => exact e2
      | j + 3 => rw [List.getElem?_eq_none (by omega)]; rfl
    obtain ⟨ls, hlen, has⟩ := exists_list len hone
    refine ⟨some a, ls, cap, by rw [hv, hlen], fun k hk => ⟨a, rfl, (has k hk).1⟩, ?_, fun h => by cases h⟩
    intro x hx
    obtain ⟨k, hk, rfl⟩ := List.getElem_of_mem hx
    exact (has k hk).2
end
end Go.Proofs.YtmadnehipagakaaGreatDoor
