/- A slice of acts among a law's arguments, opened. -/
import Derived.Test.YtcffphojpnbcbaaDoorRf
import Derived.Deep.Slices
import Derived.ChangeArms
import Derived.Lib.LaidTab
namespace Go.Proofs.YtcffphojpnbcbaaDoor
open Go.ChangeShapes Go.WideShapes Go.RowKit Go.Deep

/-- An act, with the slice in which its facts lie. -/
structure Ac where
  op : Int
  r : Int
  al : Int
  A : Option Addr
  l : List Int
  c : Nat
abbrev Ac.cs (x : Ac) : Array Value := #[.int .i64 x.op, .int .i64 x.r, .int .i64 x.al, .slice x.A x.l.length x.c]
structure Ac.ok (W : World) (x : Ac) : Prop where
  row : RowAt W (Value.int .i64) x.A x.l
  nil : x.A = none → x.c = 0
  op : okI x.op
  r : okI x.r
  al : okI x.al
  fs : ∀ y ∈ x.l, okI y
theorem Ac.ok.below {W W' : World} {x : Ac} (h : x.ok W) (hb : Below W.heap.size W W') : x.ok W' := ⟨h.row.below hb, h.nil, h.op, h.r, h.al, h.fs⟩
def ActsAt (W : World) (A : Option Addr) (ls : List Ac) : Prop := ∀ k (h : k < ls.length), ∃ ad, A = some ad ∧ ∀ j v, ls[k].cs[j]? = some v → W.cell? ((ad.add (k * 4)).add j) = some v
theorem ActsAt.below {W W' : World} {A : Option Addr} {ls : List Ac} (h : ActsAt W A ls) (hb : Below W.heap.size W W') : ActsAt W' A ls := by
  intro k hk
  obtain ⟨ad, e, hc⟩ := h k hk
  exact ⟨ad, e, fun j v hv => (Below.cell hb (World.block_lt_of_cell? _ _ (hc j v hv))).trans (hc j v hv)⟩

theorem exists_list {α : Type} {P : Nat → α → Prop} : ∀ m, (∀ i, i < m → ∃ x, P i x) → ∃ l : List α, l.length = m ∧ ∀ i (h : i < l.length), P i l[i]
  | 0, _ => ⟨[], rfl, fun i h => by cases h⟩
  | m + 1, h => by
    obtain ⟨l, hl, hp⟩ := exists_list m (fun i hi => h i (by omega))
    obtain ⟨x, hx⟩ := h m (by omega)
    refine ⟨l ++ [x], by simp [hl], fun i hi => ?_⟩
    by_cases e : i < l.length
    · rw [List.getElem_append_left e]; exact hp i e
    · have : i = m := by simp at hi; omega
      subst this
      rw [List.getElem_append_right (by omega)]
      simpa [hl] using hx
theorem take_one {cs : List Value} {k : Nat} {v : Value} (h : (cs.drop k).take 1 = [v]) : cs[k]? = some v := by
  have h2 : ((cs.drop k).take 1)[0]? = some v := by rw [h]; rfl
  rw [List.getElem?_take, if_pos (by omega), List.getElem?_drop] at h2
  simpa using h2
theorem cells_at {w : World} {base n : Nat} {a : Addr} {cs : List Value} (h : w.cells? base a n = some cs) : cs.length = n ∧ ∀ j v, cs[j]? = some v → w.cell? (a.add j) = some v := by
  unfold World.cells? at h
  split at h
  · have hl := Lib.mapM_length h
    refine ⟨by simpa using hl, fun j v hv => ?_⟩
    have hj : j < n := by have := (List.getElem?_eq_some_iff.1 hv).1; rw [hl] at this; simpa using this
    obtain ⟨b, hb, hf⟩ := Lib.mapM_at h j j (by simp [hj])
    rw [hv] at hb
    injection hb with hb
    subst hb
    exact hf
  · cases h
theorem i64b {n : Int} (h : (Lit.int .i64 n).wf = true) : okI n := by
  have := h
  simp only [Lit.wf, Bool.and_eq_true, decide_eq_true_eq] at this
  exact ⟨this.1, this.2⟩

section
variable {H : Type} {enc : TypeId × Value → H} {w : World}
theorem open_acts {v : Value} {d : DataW H} {p : List MemPlace} (hv : ∃ a len cap, v = .slice a len cap) (h : DataW.Trod enc Tryd.prog w 0 (fun _ => true) true 32 v d p) :
    ∃ A ls c, v = .slice A ls.length c ∧ ActsAt w A ls ∧ (∀ x ∈ ls, x.ok w) ∧ (A = none → c = 0) ∧ ls.length ≤ maxLen := by
  obtain ⟨a0, len0, cap0, rfl⟩ := hv
  obtain ⟨fuel, hf⟩ := h
  have c34 : Tryd.prog.cellsOf 34 = 4 := by kernel_rfl
  have c27 : Tryd.prog.cellsOf 27 = 1 := by kernel_rfl
  have c3 : Tryd.prog.cellsOf 3 = 1 := by kernel_rfl
  rcases open_slice Tryd.underlying32 hf with ⟨hcs, _⟩ | ⟨a, len, cap, m, n, D, Pl, hcs, _, hl, hm, hmm, _, hel⟩
  · have : (Value.slice a0 len0 cap0) = .slice none 0 0 := by simpa [Value.cells] using hcs
    exact ⟨none, [], 0, this, fun k h => absurd h (by simp), by simp, fun _ => rfl, by simp⟩
  · have hv : (Value.slice a0 len0 cap0) = .slice (some a) len cap := by simpa [Value.cells] using hcs
    rw [c34] at hel
    have hone : ∀ i, i < len → ∃ x : Ac, (∀ j v, x.cs[j]? = some v → w.cell? ((a.add (i * 4)).add j) = some v) ∧ x.ok w := by
      intro i hi
      obtain ⟨cs, h1, h2⟩ := hel i (by rw [hmm]; split <;> omega)
      obtain ⟨hlen, hcell⟩ := cells_at h1
      obtain ⟨xs, n', _, _, _, hxl, hfs⟩ := DataW.trod_struct Tryd.underlying34 h2
      have hx : ∀ i (h : i < 4), ∃ x, xs[i]? = some x := fun i h => ⟨xs[i]'(by rw [hxl]; exact h), List.getElem?_eq_getElem _⟩
      have getI : ∀ i, DataW.trod enc Tryd.prog w 0 (fun _ => true) true n' 3 ((cs.drop i).take (Tryd.prog.cellsOf 3)) = xs[i]? → i < 4 → ∃ z, cs[i]? = some (.int .i64 z) ∧ okI z := by
        intro i he hi
        obtain ⟨x, hx⟩ := hx i hi
        rw [hx, c3] at he
        obtain ⟨z, hz, _, hw⟩ := DataW.trod_int Tryd.underlying3 he
        exact ⟨z, take_one hz, i64b hw⟩
      obtain ⟨op, e0, o0⟩ := getI 0 (hfs 0 _ rfl) (by omega)
      obtain ⟨r, e1, o1⟩ := getI 1 (hfs 1 _ rfl) (by omega)
      obtain ⟨al, e2, o2⟩ := getI 2 (hfs 2 _ rfl) (by omega)
      obtain ⟨x, hx3⟩ := hx 3 (by omega)
      have h3 : DataW.trod enc Tryd.prog w 0 (fun _ => true) true n' 27 ((cs.drop 3).take (Tryd.prog.cellsOf 27)) = xs[3]? := hfs 3 _ rfl
      rw [hx3, c27] at h3
      have hs : ∃ A l c, cs[3]? = some (.slice A l.length c) ∧ RowAt w (Value.int .i64) A l ∧ (A = none → c = 0) ∧ ∀ y ∈ l, okI y := by
        rcases open_ints Tryd.underlying27 Tryd.underlying3 c3 h3 with ⟨hcs, _⟩ | ⟨a, len', cap', ss, hcs, _, hl, hm, hz, _, hcell, hw⟩
        · exact ⟨none, [], 0, take_one hcs, fun k h => absurd h (by simp), fun _ => rfl, by simp⟩
        · have hlen : len' ≤ ss.length := by rw [hz]; simpa using hl
          refine ⟨some a, ss.take len', cap', by rw [List.length_take, Nat.min_eq_left hlen]; exact take_one hcs, fun k h => ⟨a, rfl, ?_⟩, (fun e => by cases e), fun y hy => i64b (hw y (List.mem_of_mem_take hy))⟩
          rw [List.length_take] at h
          have h3 := hcell k (by omega)
          refine ⟨World.block_lt_of_cell? _ _ h3, ?_⟩
          rw [h3, List.getD_eq_getElem?_getD, List.getElem?_eq_getElem (by omega : k < ss.length), List.getElem_take]; rfl
      obtain ⟨A, l, c, e3, hrow, hnil, hok⟩ := hs
      refine ⟨⟨op, r, al, A, l, c⟩, ?_, ⟨hrow, hnil, o0, o1, o2, hok⟩⟩
      intro j v hj
      refine hcell j v ?_
      rw [← hj]
      match j with
      | 0 => exact e0
      | 1 => exact e1
      | 2 => exact e2
      | 3 => exact e3
      | j + 4 => rw [List.getElem?_eq_none (by omega)]; rfl
    obtain ⟨ls, hlen, has⟩ := exists_list len hone
    refine ⟨some a, ls, cap, by rw [hv, hlen], fun k hk => ⟨a, rfl, (has k hk).1⟩, ?_, (fun e => by cases e), by omega⟩
    intro x hx
    obtain ⟨k, hk, rfl⟩ := List.getElem_of_mem hx
    exact (has k hk).2
end
end Go.Proofs.YtcffphojpnbcbaaDoor
