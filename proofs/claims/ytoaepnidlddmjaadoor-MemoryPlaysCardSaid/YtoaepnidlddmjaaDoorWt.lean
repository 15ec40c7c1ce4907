/- The law's acts, opened. -/
import Derived.Test.YtoaepnidlddmjaaDoorWs
import Derived.Deep.Slices
import Derived.ChangeArms
import Derived.Lib.LaidTab
import Derived.OpenShut
namespace Go.Proofs.YtoaepnidlddmjaaDoor
open Go.ChangeShapes Go.WideShapes Go.RowKit Go.Deep RW
theorem take_one {cs : List Value} {k : Nat} {v : Value} (h : (cs.drop k).take 1 = [v]) : cs[k]? = some v := by
  have h2 : ((cs.drop k).take 1)[0]? = some v := by rw [h]; rfl
  rw [List.getElem?_take, if_pos (by omega), List.getElem?_drop] at h2
  simpa using h2
theorem i64b {n : Int} (h : (Lit.int .i64 n).wf = true) : okI n := by
  have := h
  simp only [Lit.wf, Bool.and_eq_true, decide_eq_true_eq] at this
  exact ⟨this.1, this.2⟩
theorem exists_list {α : Type} {P : Nat → α → Prop} : ∀ m, (∀ i, i < m → ∃ x, P i x) → ∃ l : List α, l.length = m ∧ ∀ i (h : i < l.length), P i l[i]
  | 0, _ => ⟨[], rfl, fun i h => by cases h⟩
  | m + 1, h => by
    obtain ⟨l, hl, hp⟩ := exists_list m (fun i hi => h i (by omega))
    obtain ⟨x, hx⟩ := h m (by omega)
    refine ⟨l ++ [x], by simp [hl], fun i hi => ?_⟩
    by_cases e : i < l.length
    · rw [List.getElem_append_left e]; exact hp i e
    · have : i = m := by simp at hi; omega
      subst this
      rw [List.getElem_append_right (by omega)]
      simpa [hl] using hx
theorem cells_at {w : World} {base n : Nat} {a : Addr} {cs : List Value} (h : w.cells? base a n = some cs) : cs.length = n ∧ ∀ j v, cs[j]? = some v → w.cell? (a.add j) = some v := by
  unfold World.cells? at h
  split at h
  · have hl := Lib.mapM_length h
    refine ⟨by simpa using hl, fun j v hv => ?_⟩
    have hj : j < n := by have := (List.getElem?_eq_some_iff.1 hv).1; rw [hl] at this; simpa using this
    obtain ⟨b, hb, hf⟩ := Lib.mapM_at h j j (by simp [hj])
    rw [hv] at hb
    injection hb with hb
    subst hb
    exact hf
  · cases h
theorem cV : Tryd.prog.cellsOf 29 = 3 := by kernel_rfl
theorem cI : Tryd.prog.cellsOf 3 = 1 := by kernel_rfl
theorem cL : Tryd.prog.cellsOf 2 = 1 := by kernel_rfl
theorem cS : Tryd.prog.cellsOf 9 = 1 := by kernel_rfl
theorem cSl : Tryd.prog.cellsOf 31 = 1 := by kernel_rfl
theorem cA : Tryd.prog.cellsOf 50 = 4 := by kernel_rfl
/-- An act: what it does, its number, its template, its values; the slice of its values. -/
abbrev Ax := (Int × Int × ByteArray × List Vl) × Option Addr × Nat
abbrev axc (x : Ax) : List Value := [.int .i64 x.1.1, .int .i64 x.1.2.1, .string x.1.2.2.1, .slice x.2.1 x.1.2.2.2.length x.2.2]
theorem axc_len (x : Ax) : (axc x).length = 4 := rfl
/-- An act as it may come in. -/
structure AxIn (W : World) (x : Ax) : Prop where
  op : okI x.1.1
  id : okI x.1.2.1
  ts : x.1.2.2.1.size ≤ 9223372036854775807
  row : ValsAt (fun _ => False) W x.2.1 x.1.2.2.2
  nil : x.2.1 = none → x.2.2 = 0
  vals : ∀ v ∈ x.1.2.2.2, cameV v
  len : x.1.2.2.2.length ≤ maxLen
section
variable {H : Type} {enc : TypeId × Value → H} {w : World}
theorem open_cells {n : Nat} {cs : List Value} {x : DataW H × List MemPlace} (h : DataW.trod enc Tryd.prog w 0 (fun _ => true) true n 29 cs = some x) :
    ∃ a : Vl, (cs[0]? = some (.int .i64 a.1) ∧ cs[1]? = some (.int .i64 a.2.1) ∧ cs[2]? = some (.string a.2.2)) ∧ cs.length = 3 ∧ cameV a := by
  obtain ⟨xs, n', _, _, hlen, hxl, hfs⟩ := DataW.trod_struct Tryd.underlying29 h
  have hx : ∀ i (h : i < 3), ∃ x, xs[i]? = some x := fun i h => ⟨xs[i]'(by rw [hxl]; exact h), List.getElem?_eq_getElem _⟩
  obtain ⟨x0, e0⟩ := hx 0 (by omega)
  obtain ⟨x1, e1⟩ := hx 1 (by omega)
  obtain ⟨x2, e2⟩ := hx 2 (by omega)
  have h0 : DataW.trod enc Tryd.prog w 0 (fun _ => true) true n' 3 ((cs.drop 0).take (Tryd.prog.cellsOf 3)) = xs[0]? := hfs 0 _ rfl
  have h1 : DataW.trod enc Tryd.prog w 0 (fun _ => true) true n' 2 ((cs.drop 1).take (Tryd.prog.cellsOf 2)) = xs[1]? := hfs 1 _ rfl
  have h2 : DataW.trod enc Tryd.prog w 0 (fun _ => true) true n' 9 ((cs.drop 2).take (Tryd.prog.cellsOf 9)) = xs[2]? := hfs 2 _ rfl
  rw [e0, cI] at h0
  rw [e1, cL] at h1
  rw [e2, cS] at h2
  obtain ⟨k, hk, _, wk⟩ := DataW.trod_int Tryd.underlying3 h0
  obtain ⟨m, hm, _, wm⟩ := DataW.trod_int Tryd.underlying2 h1
  obtain ⟨s, hs, _, ws⟩ := DataW.trod_string Tryd.underlying9 h2
  exact ⟨(k, m, s), ⟨take_one hk, take_one hm, take_one hs⟩, by rw [hlen, cV], i64b wk, i64b wm, ws⟩
theorem open_vcells {n : Nat} {cs : List Value} {x : DataW H × List MemPlace} (h : DataW.trod enc Tryd.prog w 0 (fun _ => true) true n 31 cs = some x) :
    ∃ A ls c, cs = [.slice A ls.length c] ∧ ValsAt (fun _ => False) w A ls ∧ (∀ x ∈ ls, cameV x) ∧ (A = none → c = 0) ∧ ls.length ≤ maxLen := by
  rcases open_slice Tryd.underlying31 h with ⟨hcs, _⟩ | ⟨a, len, cap, m, n, D, Pl, hcs, _, hl, hm, hmm, _, hel⟩
  · exact ⟨none, [], 0, hcs, fun k h => absurd h (by simp), by simp, fun _ => rfl, by simp⟩
  · rw [cV] at hel
    have hone : ∀ i, i < len → ∃ x : Vl, (∀ j v, (v3 x)[j]? = some v → w.cell? ((a.add (i * 3)).add j) = some v) ∧ cameV x := by
      intro i hi
      obtain ⟨cs, h1, h2⟩ := hel i (by rw [hmm]; split <;> omega)
      obtain ⟨hlen, hcell⟩ := cells_at h1
      obtain ⟨x, ⟨e0, e1, e2⟩, _, hr⟩ := open_cells h2
      refine ⟨x, ?_, hr⟩
      intro j v hj
      refine hcell j v ?_
      rw [← hj]
      match j with
      | 0 => exact e0
      | 1 => exact e1
      | 2 => exact e2
      | j + 3 => rw [List.getElem?_eq_none (by omega)]; rfl
    obtain ⟨ls, hlen, has⟩ := exists_list len hone
    refine ⟨some a, ls, cap, by rw [hcs, hlen], fun k hk => ⟨a, rfl, fun h => h, (has k hk).1⟩, ?_, (fun h => by cases h), by omega⟩
    intro x hx
    obtain ⟨k, hk, rfl⟩ := List.getElem_of_mem hx
    exact (has k hk).2
theorem open_acells {n : Nat} {cs : List Value} {x : DataW H × List MemPlace} (h : DataW.trod enc Tryd.prog w 0 (fun _ => true) true n 50 cs = some x) :
    ∃ a : Ax, cs = axc a ∧ AxIn w a := by
  obtain ⟨xs, n', _, _, hlen, hxl, hfs⟩ := DataW.trod_struct Tryd.underlying50 h
  have hx : ∀ i (h : i < 4), ∃ x, xs[i]? = some x := fun i h => ⟨xs[i]'(by rw [hxl]; exact h), List.getElem?_eq_getElem _⟩
  obtain ⟨x0, e0⟩ := hx 0 (by omega)
  obtain ⟨x1, e1⟩ := hx 1 (by omega)
  obtain ⟨x2, e2⟩ := hx 2 (by omega)
  obtain ⟨x3, e3⟩ := hx 3 (by omega)
  have h0 : DataW.trod enc Tryd.prog w 0 (fun _ => true) true n' 3 ((cs.drop 0).take (Tryd.prog.cellsOf 3)) = xs[0]? := hfs 0 _ rfl
  have h1 : DataW.trod enc Tryd.prog w 0 (fun _ => true) true n' 3 ((cs.drop 1).take (Tryd.prog.cellsOf 3)) = xs[1]? := hfs 1 _ rfl
  have h2 : DataW.trod enc Tryd.prog w 0 (fun _ => true) true n' 9 ((cs.drop 2).take (Tryd.prog.cellsOf 9)) = xs[2]? := hfs 2 _ rfl
  have h3 : DataW.trod enc Tryd.prog w 0 (fun _ => true) true n' 31 ((cs.drop 3).take (Tryd.prog.cellsOf 31)) = xs[3]? := hfs 3 _ rfl
  rw [e0, cI] at h0
  rw [e1, cI] at h1
  rw [e2, cS] at h2
  rw [e3, cSl] at h3
  obtain ⟨k, hk, _, wk⟩ := DataW.trod_int Tryd.underlying3 h0
  obtain ⟨m, hm, _, wm⟩ := DataW.trod_int Tryd.underlying3 h1
  obtain ⟨s, hs, _, ws⟩ := DataW.trod_string Tryd.underlying9 h2
  obtain ⟨A, ls, c, hA, hr, hc, hn, hl⟩ := open_vcells h3
  rw [cA] at hlen
  refine ⟨((k, m, s, ls), A, c), ?_, ⟨i64b wk, i64b wm, ws, hr, hn, hc, hl⟩⟩
  have q0 := take_one hk
  have q1 := take_one hm
  have q2 := take_one hs
  have q3 := take_one hA
  match cs, hlen with
  | [a0, a1, a2, a3], _ =>
    simp at q0 q1 q2 q3
    subst q0 q1 q2 q3
    rfl
theorem open_acts {v : Value} {d : DataW H} {p : List MemPlace} (hv : ∃ a len cap, v = .slice a len cap) (h : DataW.Trod enc Tryd.prog w 0 (fun _ => true) true 48 v d p) :
    ∃ A ls c, v = .slice A ls.length c ∧ RowsAt axc 4 (fun _ => False) w A ls ∧ (∀ x ∈ ls, AxIn w x) := by
  obtain ⟨a0, len0, cap0, rfl⟩ := hv
  obtain ⟨fuel, hf⟩ := h
  rcases open_slice Tryd.underlying48 hf with ⟨hcs, _⟩ | ⟨a, len, cap, m, n, D, Pl, hcs, _, hl, hm, hmm, _, hel⟩
  · have : (Value.slice a0 len0 cap0) = .slice none 0 0 := by simpa [Value.cells] using hcs
    exact ⟨none, [], 0, this, fun k h => absurd h (by simp), by simp⟩
  · have hv : (Value.slice a0 len0 cap0) = .slice (some a) len cap := by simpa [Value.cells] using hcs
    rw [cA] at hel
    have hone : ∀ i, i < len → ∃ x : Ax, (∀ j v, (axc x)[j]? = some v → w.cell? ((a.add (i * 4)).add j) = some v) ∧ AxIn w x := by
      intro i hi
      obtain ⟨cs, h1, h2⟩ := hel i (by rw [hmm]; split <;> omega)
      obtain ⟨hlen, hcell⟩ := cells_at h1
      obtain ⟨x, e, hr⟩ := open_acells h2
      subst e
      exact ⟨x, hcell, hr⟩
    obtain ⟨ls, hlen, has⟩ := exists_list len hone
    refine ⟨some a, ls, cap, by rw [hv, hlen], fun k hk => ⟨a, rfl, fun h => h, (has k hk).1⟩, ?_⟩
    intro x hx
    obtain ⟨k, hk, rfl⟩ := List.getElem_of_mem hx
    exact (has k hk).2
end
end Go.Proofs.YtoaepnidlddmjaaDoor
