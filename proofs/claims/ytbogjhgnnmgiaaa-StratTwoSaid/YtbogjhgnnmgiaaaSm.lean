/- A way to fire among a law's arguments, opened. -/
import Derived.Test.YtbogjhgnnmgiaaaSe
import Derived.ChangeArms
namespace Go.Proofs.Ytbogjhgnnmgiaaa
open Go.ChangeShapes Go.WideShapes Go.RowKit

theorem take_one {cs : List Value} {k : Nat} {v : Value} (h : (cs.drop k).take 1 = [v]) : cs[k]? = some v := by
  have h2 : ((cs.drop k).take 1)[0]? = some v := by rw [h]; rfl
  rw [List.getElem?_take, if_pos (by omega), List.getElem?_drop] at h2
  simpa using h2

theorem c24 : Try.prog.cellsOf 24 = 7 := by kernel_rfl
theorem c22 : Try.prog.cellsOf 22 = 1 := by kernel_rfl
theorem c3 : Try.prog.cellsOf 3 = 1 := by kernel_rfl
theorem c2 : Try.prog.cellsOf 2 = 1 := by kernel_rfl

section
variable {H : Type} {enc : TypeId × Value → H} {w : World}
theorem open_act {v : Value} {d : DataW H} {p : List MemPlace} (hv : ∃ cs, v = .agg cs ∧ cs.size = Try.prog.cellsOf 24) (h : DataW.Trod enc Try.prog w 0 (fun _ => true) true 24 v d p) :
    ∃ a : AV, v = a.v ∧ RowAt w (Value.int .i64) a.A a.l ∧ (a.A = none → a.c = 0) ∧ a.l.length ≤ maxLen ∧ (Lit.int .i64 a.r).wf = true ∧ (Lit.int .i64 a.al).wf = true ∧ (Lit.int .i64 a.sa).wf = true ∧ (Lit.int .i64 a.sp).wf = true ∧ (Lit.int .i64 a.bo).wf = true ∧ (Lit.int .i64 a.ke).wf = true := by
  obtain ⟨cs, rfl, hsz⟩ := hv
  rw [c24] at hsz
  obtain ⟨fuel, hf⟩ := h
  obtain ⟨xs, n, _, _, hl, hlen, hf⟩ := DataW.trod_struct Try.underlying24 hf
  have hx : ∀ i (h : i < 7), ∃ x, xs[i]? = some x := fun i h => ⟨xs[i]'(by rw [hlen]; exact h), List.getElem?_eq_getElem _⟩
  have i3 : ∀ i off (f : Field), (i < 7) → ((#[{ name := "Rule", type := 3, offset := 0, embedded := false, tag := "", pkgPath := "", byteOffset := 0 }, { name := "Alt", type := 3, offset := 1, embedded := false, tag := "", pkgPath := "", byteOffset := 8 }, { name := "Facts", type := 22, offset := 2, embedded := false, tag := "", pkgPath := "", byteOffset := 16 }, { name := "Salience", type := 3, offset := 3, embedded := false, tag := "", pkgPath := "", byteOffset := 40 }, { name := "Spec", type := 3, offset := 4, embedded := false, tag := "", pkgPath := "", byteOffset := 48 }, { name := "Born", type := 3, offset := 5, embedded := false, tag := "", pkgPath := "", byteOffset := 56 }, { name := "Key", type := 2, offset := 6, embedded := false, tag := "", pkgPath := "", byteOffset := 64 }] : Array Field)[i]? = some f) → f.offset = off → (f.type = 3 ∨ f.type = 2) → ∃ z : Int, cs.toList[off]? = some (.int .i64 z) ∧ (Lit.int .i64 z).wf = true := by
    intro i off f hi he ho ht
    obtain ⟨x, hx⟩ := hx i hi
    have h1 := hf i f he
    rw [hx, ho] at h1
    rcases ht with ht | ht
    · rw [ht, c3] at h1
      obtain ⟨z, hz, _, hw⟩ := DataW.trod_int Try.underlying3 h1
      exact ⟨z, take_one hz, hw⟩
    · rw [ht, c2] at h1
      obtain ⟨z, hz, _, hw⟩ := DataW.trod_int Try.underlying2 h1
      exact ⟨z, take_one hz, hw⟩
  obtain ⟨r, hr, wr⟩ := i3 0 0 _ (by omega) rfl rfl (.inl rfl)
  obtain ⟨al, hal, wal⟩ := i3 1 1 _ (by omega) rfl rfl (.inl rfl)
  obtain ⟨sa, hsa, wsa⟩ := i3 3 3 _ (by omega) rfl rfl (.inl rfl)
  obtain ⟨sp, hsp, wsp⟩ := i3 4 4 _ (by omega) rfl rfl (.inl rfl)
  obtain ⟨bo, hbo, wbo⟩ := i3 5 5 _ (by omega) rfl rfl (.inl rfl)
  obtain ⟨ke, hke, wke⟩ := i3 6 6 _ (by omega) rfl rfl (.inr rfl)
  obtain ⟨x, hx2⟩ := hx 2 (by omega)
  have h2 := hf 2 _ rfl
  rw [hx2] at h2
  have hs : ∃ A l c, cs.toList[2]? = some (.slice A l.length c) ∧ RowAt w (Value.int .i64) A l ∧ (A = none → c = 0) ∧ l.length ≤ maxLen := by
    have h2 : DataW.trod enc Try.prog w 0 (fun _ => true) true n 22 ((cs.toList.drop 2).take 1) = some x := h2
    rcases open_ints Try.underlying22 Try.underlying3 c3 h2 with ⟨hcs, _⟩ | ⟨a, len', cap', ss, hcs, _, hl, hm, hz, _, hcell, _⟩
    · exact ⟨none, [], 0, take_one hcs, fun k h => absurd h (by simp), fun _ => rfl, by simp⟩
    · have hlen : len' ≤ ss.length := by rw [hz]; simpa using hl
      refine ⟨some a, ss.take len', cap', by rw [List.length_take, Nat.min_eq_left hlen]; exact take_one hcs, fun k h => ⟨a, rfl, ?_⟩, (fun e => by cases e), by rw [List.length_take]; omega⟩
      rw [List.length_take] at h
      have h3 := hcell k (by omega)
      refine ⟨World.block_lt_of_cell? _ _ h3, ?_⟩
      rw [h3, List.getD_eq_getElem?_getD, List.getElem?_eq_getElem (by omega : k < ss.length), List.getElem_take]; rfl
  obtain ⟨A, l, c, hA, hrow, hnil, hml⟩ := hs
  refine ⟨⟨r, al, A, l, c, sa, sp, bo, ke⟩, ?_, hrow, hnil, hml, wr, wal, wsa, wsp, wbo, wke⟩
  have hlst : cs.toList.length = 7 := by simpa using hsz
  obtain ⟨lst⟩ := cs
  match lst, hlst with
  | [a0, a1, a2, a3, a4, a5, a6], _ =>
    simp at hr hal hA hsa hsp hbo hke
    subst hr hal hA hsa hsp hbo hke
    rfl
end
end Go.Proofs.Ytbogjhgnnmgiaaa
