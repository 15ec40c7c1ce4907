/- The law's supports, opened. -/
import Derived.Test.YtonflknnlfffhaaUq
import Derived.ChangeArms
import Derived.Lib.LaidTab
import Derived.OpenShut
import Derived.Deep.Slices
namespace Go.Proofs.Ytonflknnlfffhaa
open Go.ChangeShapes Go.WideShapes Go.RowKit Go.Deep RW
theorem take_one {cs : List Value} {k : Nat} {v : Value} (h : (cs.drop k).take 1 = [v]) : cs[k]? = some v := by
  have h2 : ((cs.drop k).take 1)[0]? = some v := by rw [h]; rfl
  rw [List.getElem?_take, if_pos (by omega), List.getElem?_drop] at h2
  simpa using h2
theorem exists_list {α : Type} {P : Nat → α → Prop} : ∀ m, (∀ i, i < m → ∃ x, P i x) → ∃ l : List α, l.length = m ∧ ∀ i (h : i < l.length), P i l[i]
  | 0, _ => ⟨[], rfl, fun i h => by cases h⟩
  | m + 1, h => by
    obtain ⟨l, hl, hp⟩ := exists_list m (fun i hi => h i (by omega))
    obtain ⟨x, hx⟩ := h m (by omega)
    refine ⟨l ++ [x], by simp [hl], fun i hi => ?_⟩
    by_cases e : i < l.length
    · rw [List.getElem_append_left e]; exact hp i e
    · have : i = m := by simp at hi; omega
      subst this
      rw [List.getElem_append_right (by omega)]
      simpa [hl] using hx
theorem cells_at {w : World} {base n : Nat} {a : Addr} {cs : List Value} (h : w.cells? base a n = some cs) : cs.length = n ∧ ∀ j v, cs[j]? = some v → w.cell? (a.add j) = some v := by
  unfold World.cells? at h
  split at h
  · have hl := Lib.mapM_length h
    refine ⟨by simpa using hl, fun j v hv => ?_⟩
    have hj : j < n := by have := (List.getElem?_eq_some_iff.1 hv).1; rw [hl] at this; simpa using this
    obtain ⟨b, hb, hf⟩ := Lib.mapM_at h j j (by simp [hj])
    rw [hv] at hb
    injection hb with hb
    subst hb
    exact hf
  · cases h
theorem cI : Try.prog.cellsOf 3 = 1 := by kernel_rfl
theorem cSl : Try.prog.cellsOf 35 = 1 := by kernel_rfl
theorem cW : Try.prog.cellsOf 50 = 3 := by kernel_rfl
/-- A support as it may come in. -/
structure WyIn (W : World) (x : Wf) : Prop where
  row : IntsAt (fun _ => False) W x.2.1 x.1.2.2
  nil : x.2.1 = none → x.2.2 = 0
section
variable {H : Type} {enc : TypeId × Value → H} {w : World}
set_option maxRecDepth 100000 in
theorem open_icells {n : Nat} {cs : List Value} {x : DataW H × List MemPlace} (h : DataW.trod enc Try.prog w 0 (fun _ => true) true n 35 cs = some x) :
    ∃ A ls c, cs = [.slice A ls.length c] ∧ IntsAt (fun _ => False) w A ls ∧ (A = none → c = 0) := by
  rcases open_slice Try.underlying35 h with ⟨hcs, _⟩ | ⟨a, len, cap, m, n, D, Pl, hcs, _, hl, hm, hmm, _, hel⟩
  · exact ⟨none, [], 0, hcs, fun k h => absurd h (by simp), fun _ => rfl⟩
  · rw [cI] at hel
    have hone : ∀ i, i < len → ∃ x : Int, (∀ j v, (intc x)[j]? = some v → w.cell? ((a.add (i * 1)).add j) = some v) := by
      intro i hi
      obtain ⟨cs, h1, h2⟩ := hel i (by rw [hmm]; split <;> omega)
      obtain ⟨hlen, hcell⟩ := cells_at h1
      obtain ⟨z, hz, _, _⟩ := DataW.trod_int Try.underlying3 h2
      exact ⟨z, fun j v hj => hcell j v (by rw [hz]; exact hj)⟩
    obtain ⟨ls, hlen, has⟩ := exists_list len hone
    exact ⟨some a, ls, cap, by rw [hcs, hlen], fun k hk => ⟨a, rfl, fun h => h, has k hk⟩, fun h => by cases h⟩
set_option maxRecDepth 100000 in
theorem open_wcells {n : Nat} {cs : List Value} {x : DataW H × List MemPlace} (h : DataW.trod enc Try.prog w 0 (fun _ => true) true n 50 cs = some x) :
    ∃ a : Wf, cs = whyc a ∧ WyIn w a := by
  obtain ⟨xs, n', _, _, hlen, hxl, hfs⟩ := DataW.trod_struct Try.underlying50 h
  have hx : ∀ i (h : i < 3), ∃ x, xs[i]? = some x := fun i h => ⟨xs[i]'(by rw [hxl]; exact h), List.getElem?_eq_getElem _⟩
  obtain ⟨x0, e0⟩ := hx 0 (by omega)
  obtain ⟨x1, e1⟩ := hx 1 (by omega)
  obtain ⟨x2, e2⟩ := hx 2 (by omega)
  have h0 : DataW.trod enc Try.prog w 0 (fun _ => true) true n' 3 ((cs.drop 0).take (Try.prog.cellsOf 3)) = xs[0]? := hfs 0 _ rfl
  have h1 : DataW.trod enc Try.prog w 0 (fun _ => true) true n' 3 ((cs.drop 1).take (Try.prog.cellsOf 3)) = xs[1]? := hfs 1 _ rfl
  have h2 : DataW.trod enc Try.prog w 0 (fun _ => true) true n' 35 ((cs.drop 2).take (Try.prog.cellsOf 35)) = xs[2]? := hfs 2 _ rfl
  rw [e0, cI] at h0
  rw [e1, cI] at h1
  rw [e2, cSl] at h2
  obtain ⟨k, hk, _, _⟩ := DataW.trod_int Try.underlying3 h0
  obtain ⟨m, hm, _, _⟩ := DataW.trod_int Try.underlying3 h1
  obtain ⟨A, ls, c, hA, hr, hn⟩ := open_icells h2
  rw [cW] at hlen
  refine ⟨((k, m, ls), A, c), ?_, ⟨hr, hn⟩⟩
  have q0 := take_one hk
  have q1 := take_one hm
  have q2 := take_one hA
  match cs, hlen with
  | [a0, a1, a2], _ =>
    simp at q0 q1 q2
    subst q0 q1 q2
    rfl
/-- Supports as they may come in. -/
structure WhysIn (W : World) (A : Option Addr) (l : List Wf) : Prop where
  row : RowsAt whyc 3 (fun _ => False) W A l
  each : ∀ x ∈ l, WyIn W x
set_option maxRecDepth 100000 in
theorem open_whys {v : Value} {d : DataW H} {p : List MemPlace} (hv : ∃ a len cap, v = .slice a len cap) (h : DataW.Trod enc Try.prog w 0 (fun _ => true) true 46 v d p) :
    ∃ A ls c, v = .slice A ls.length c ∧ WhysIn w A ls := by
  obtain ⟨a0, len0, cap0, rfl⟩ := hv
  obtain ⟨fuel, hf⟩ := h
  rcases open_slice Try.underlying46 hf with ⟨hcs, _⟩ | ⟨a, len, cap, m, n, D, Pl, hcs, _, hl, hm, hmm, _, hel⟩
  · have : (Value.slice a0 len0 cap0) = .slice none 0 0 := by simpa [Value.cells] using hcs
    exact ⟨none, [], 0, this, ⟨fun k h => absurd h (by simp), fun _ h => by cases h⟩⟩
  · have hv : (Value.slice a0 len0 cap0) = .slice (some a) len cap := by simpa [Value.cells] using hcs
    rw [cW] at hel
    have hone : ∀ i, i < len → ∃ x : Wf, (∀ j v, (whyc x)[j]? = some v → w.cell? ((a.add (i * 3)).add j) = some v) ∧ WyIn w x := by
      intro i hi
      obtain ⟨cs, h1, h2⟩ := hel i (by rw [hmm]; split <;> omega)
      obtain ⟨hlen, hcell⟩ := cells_at h1
      obtain ⟨x, e, hx⟩ := open_wcells h2
      subst e
      exact ⟨x, hcell, hx⟩
    obtain ⟨ls, hlen, has⟩ := exists_list len hone
    exact ⟨some a, ls, cap, by rw [hv, hlen], ⟨fun k hk => ⟨a, rfl, fun h => h, (has k hk).1⟩, fun x hx => by
      obtain ⟨k, hk, rfl⟩ := List.getElem_of_mem hx
      exact (has k hk).2⟩⟩
end
section
open KP MR
variable {w W : World} {A : Option Addr} {l : List Wf}
/-- What comes in stays. -/
theorem WhysIn.at (h : WhysIn w A l) (hb : Below w.heap.size w W) : RowsAt whyc 3 (fun _ => False) W A l ∧ ∀ x ∈ l, x.1.2.2.length ≤ 1000 → ArgY W x ∧ IntsAt (fun q => w.heap.size ≤ q) W x.2.1 x.1.2.2 :=
  ⟨h.row.below hb, fun x hx hf => ⟨⟨(h.each x hx).row.below hb, (h.each x hx).nil, hf⟩,
    (RowsAt.keep (N := fun q => False ∨ w.heap.size ≤ q) (RowsAt.old intc_len (by decide) (h.each x hx).row) (Keep.of_below hb (fun _ => False)) (fun _ h => h.elim)).mono (fun k hk => .inr hk)⟩⟩
end
end Go.Proofs.Ytonflknnlfffhaa
