/- Values among a law's arguments, opened. -/
import Derived.Test.YtmadnehipagakaaGreatDoorKa
import Derived.Deep.Slices
import Derived.ChangeArms
import Derived.Lib.LaidTab
namespace Go.Proofs.YtmadnehipagakaaGreatDoor
open Go.ChangeShapes Go.WideShapes Go.RowKit Go.Deep
/-- A value as it may come in. -/
structure cameV (v : Vl) : Prop where
  k : okI v.1
  n : okI v.2.1
  s : v.2.2.size ≤ 9223372036854775807
theorem empty_size {s : ByteArray} (h : s.toList.isEmpty = true) : s.size = 0 := by
  have : s.toList = [] := by simpa using h
  rw [ByteArray.toList_eq] at this
  have h2 := ba_size s
  rw [this] at h2
  exact h2.symm
theorem right_okV {v : Vl} (h : rightB v = true) (hr : cameV v) : okV v := by
  refine ⟨hr.k, hr.n, ?_⟩
  unfold rightB at h
  split at h
  · rw [empty_size h]; omega
  · split at h
    · have h2 : symB v.2.2 = true := by simp at h; exact h.2
      unfold symB at h2
      simp at h2
      omega
    · split at h
      · simp at h; omega
      · cases h
theorem take_one {cs : List Value} {k : Nat} {v : Value} (h : (cs.drop k).take 1 = [v]) : cs[k]? = some v := by
  have h2 : ((cs.drop k).take 1)[0]? = some v := by rw [h]; rfl
  rw [List.getElem?_take, if_pos (by omega), List.getElem?_drop] at h2
  simpa using h2
theorem i64b {n : Int} (h : (Lit.int .i64 n).wf = true) : okI n := by
  have := h
  simp only [Lit.wf, Bool.and_eq_true, decide_eq_true_eq] at this
  exact ⟨this.1, this.2⟩
theorem exists_list {α : Type} {P : Nat → α → Prop} : ∀ m, (∀ i, i < m → ∃ x, P i x) → ∃ l : List α, l.length = m ∧ ∀ i (h : i < l.length), P i l[i]
  | 0, _ => ⟨[], rfl, fun i h => by cases h⟩
  | m + 1, h => by
    obtain ⟨l, hl, hp⟩ := exists_list m (fun i hi => h i (by omega))
    obtain ⟨x, hx⟩ := h m (by omega)
    refine ⟨l ++ [x], by simp [hl], fun i hi => ?_⟩
    by_cases e : i < l.length
    · rw [List.getElem_append_left e]; exact hp i e
    · have : i = m := by simp at hi; omega
      subst this
      rw [List.getElem_append_right (by omega)]
      simpa [hl] using hx
theorem cells_at {w : World} {base n : Nat} {a : Addr} {cs : List Value} (h : w.cells? base a n = some cs) : cs.length = n ∧ ∀ j v, cs[j]? = some v → w.cell? (a.add j) = some v := by
  unfold World.cells? at h
  split at h
  · have hl := Lib.mapM_length h
    refine ⟨by simpa using hl, fun j v hv => ?_⟩
    have hj : j < n := by have := (List.getElem?_eq_some_iff.1 hv).1; rw [hl] at this; simpa using this
    obtain ⟨b, hb, hf⟩ := Lib.mapM_at h j j (by simp [hj])
    rw [hv] at hb
    injection hb with hb
    subst hb
    exact hf
  · cases h
theorem cV : Tryz.prog.cellsOf 26 = 3 := by kernel_rfl
theorem cI : Tryz.prog.cellsOf 3 = 1 := by kernel_rfl
theorem cL : Tryz.prog.cellsOf 2 = 1 := by kernel_rfl
theorem cS : Tryz.prog.cellsOf 9 = 1 := by kernel_rfl
section
variable {H : Type} {enc : TypeId × Value → H} {w : World}
theorem open_cells {n : Nat} {cs : List Value} {x : DataW H × List MemPlace} (h : DataW.trod enc Tryz.prog w 0 (fun _ => true) true n 26 cs = some x) :
    ∃ a : Vl, (cs[0]? = some (.int .i64 a.1) ∧ cs[1]? = some (.int .i64 a.2.1) ∧ cs[2]? = some (.string a.2.2)) ∧ cs.length = 3 ∧ cameV a := by
  obtain ⟨xs, n', _, _, hlen, hxl, hfs⟩ := DataW.trod_struct Tryz.underlying26 h
  have hx : ∀ i (h : i < 3), ∃ x, xs[i]? = some x := fun i h => ⟨xs[i]'(by rw [hxl]; exact h), List.getElem?_eq_getElem _⟩
  obtain ⟨x0, e0⟩ := hx 0 (by omega)
  obtain ⟨x1, e1⟩ := hx 1 (by omega)
  obtain ⟨x2, e2⟩ := hx 2 (by omega)
  have h0 : DataW.trod enc Tryz.prog w 0 (fun _ => true) true n' 3 ((cs.drop 0).take (Tryz.prog.cellsOf 3)) = xs[0]? := hfs 0 _ rfl
  have h1 : DataW.trod enc Tryz.prog w 0 (fun _ => true) true n' 2 ((cs.drop 1).take (Tryz.prog.cellsOf 2)) = xs[1]? := hfs 1 _ rfl
  have h2 : DataW.trod enc Tryz.prog w 0 (fun _ => true) true n' 9 ((cs.drop 2).take (Tryz.prog.cellsOf 9)) = xs[2]? := hfs 2 _ rfl
  rw [e0, cI] at h0
  rw [e1, cL] at h1
  rw [e2, cS] at h2
  obtain ⟨k, hk, _, wk⟩ := DataW.trod_int Tryz.underlying3 h0
  obtain ⟨m, hm, _, wm⟩ := DataW.trod_int Tryz.underlying2 h1
  obtain ⟨s, hs, _, ws⟩ := DataW.trod_string Tryz.underlying9 h2
  exact ⟨(k, m, s), ⟨take_one hk, take_one hm, take_one hs⟩, by rw [hlen, cV], i64b wk, i64b wm, ws⟩
theorem open_val {v : Value} {d : DataW H} {p : List MemPlace} (hv : ∃ cs, v = .agg cs ∧ cs.size = Tryz.prog.cellsOf 26) (h : DataW.Trod enc Tryz.prog w 0 (fun _ => true) true 26 v d p) :
    ∃ a : Vl, v = a.val ∧ cameV a := by
  obtain ⟨cs, rfl, _⟩ := hv
  obtain ⟨fuel, hf⟩ := h
  obtain ⟨a, ⟨h0, h1, h2⟩, hl, hr⟩ := open_cells hf
  refine ⟨a, ?_, hr⟩
  obtain ⟨lst⟩ := cs
  match lst, hl with
  | [x, y, z], _ =>
    have h0' : some x = some (Value.int .i64 a.1) := h0
    have h1' : some y = some (Value.int .i64 a.2.1) := h1
    have h2' : some z = some (Value.string a.2.2) := h2
    injection h0' with h0'; injection h1' with h1'; injection h2' with h2'
    subst h0' h1' h2'
    rfl
theorem open_vals {v : Value} {d : DataW H} {p : List MemPlace} (hv : ∃ a len cap, v = .slice a len cap) (h : DataW.Trod enc Tryz.prog w 0 (fun _ => true) true 22 v d p) :
    ∃ A ls c, v = .slice A ls.length c ∧ ValsAt w A ls ∧ (∀ x ∈ ls, cameV x) := by
  obtain ⟨a0, len0, cap0, rfl⟩ := hv
  obtain ⟨fuel, hf⟩ := h
  rcases open_slice Tryz.underlying22 hf with ⟨hcs, _⟩ | ⟨a, len, cap, m, n, D, Pl, hcs, _, hl, hm, hmm, _, hel⟩
  · have : (Value.slice a0 len0 cap0) = .slice none 0 0 := by simpa [Value.cells] using hcs
    exact ⟨none, [], 0, this, fun k h => absurd h (by simp), by simp⟩
  · have hv : (Value.slice a0 len0 cap0) = .slice (some a) len cap := by simpa [Value.cells] using hcs
    rw [cV] at hel
    have hone : ∀ i, i < len → ∃ x : Vl, (∀ j v, x.cs[j]? = some v → w.cell? ((a.add (i * 3)).add j) = some v) ∧ cameV x := by
      intro i hi
      obtain ⟨cs, h1, h2⟩ := hel i (by rw [hmm]; split <;> omega)
      obtain ⟨hlen, hcell⟩ := cells_at h1
      obtain ⟨x, ⟨e0, e1, e2⟩, _, hr⟩ := open_cells h2
      refine ⟨x, ?_, hr⟩
      intro j v hj
      refine hcell j v ?_
      rw [← hj]
      match j with
      | 0 => exact e0
      | 1 => exact e1
      | 2 => exact e2
      | j + 3 => rw [List.getElem?_eq_none (by omega)]; rfl
    obtain ⟨ls, hlen, has⟩ := exists_list len hone
    refine ⟨some a, ls, cap, by rw [hv, hlen], fun k hk => ⟨a, rfl, (has k hk).1⟩, ?_⟩
    intro x hx
    obtain ⟨k, hk, rfl⟩ := List.getElem_of_mem hx
    exact (has k hk).2
end
end Go.Proofs.YtmadnehipagakaaGreatDoor
