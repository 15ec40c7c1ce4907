/- wm.Memory: what it holds; New, Len, Next, at. -/
import Derived.Test.YtoaepnidlddmjaaDoorWf
import Derived.Test.YtoaepnidlddmjaaDoorMi
import Derived.Deep.RegionLaw
import Derived.Deep.RegionWith
namespace Go.Proofs.YtoaepnidlddmjaaDoor
open Go.RowKit Go.Lib KP MR RW
theorem rows_map {α β : Type} {f : β → List Value} {g : α → β} {m : Nat} {N : Nat → Prop} {W : World} {A : Option Addr} {l : List α} (h : RowsAt (fun x => f (g x)) m N W A l) : RowsAt f m N W A (l.map g) := by
  intro k hk
  have hk' : k < l.length := by simpa using hk
  obtain ⟨ad, e, hn, hc⟩ := h k hk'
  exact ⟨ad, e, hn, fun j v hv => hc j v (by simpa using hv)⟩
def Fs.p (x : Fs) : ByteArray × Int := (keyB x.1.2.1 x.1.2.2, x.1.1)
/-- A memory in the blocks F: its own block g, its map m, its row v, its facts' values. -/
structure Mem (B : Nat) (F : Nat → Prop) (g m : Nat) (v : Value) (xs : List Fs) (nx : Int) (W : World) : Prop where
  blk : W.heap[g]? = some (.cells #[v, .map (some m), .int .i64 nx] 61 (0, 0))
  map : IsMap W m Value.string (Value.int .i64) (xs.map Fs.p)
  own : OwnW W B 55 3 v xs.length (xs.flatMap fsc)
  Fg : F g
  Fm : F m
  Fv : ∀ k, v.ownBlock = some k → F k
  lt : ∀ k, F k → B ≤ k ∧ k < W.heap.size
  vals : ∀ x ∈ xs, ArgV (fun k => ¬ (F k ∧ k ≠ g ∧ k ≠ m ∧ v.ownBlock ≠ some k)) W x.2.1 x.2.2 x.1.2.2
  ts : ∀ x ∈ xs, x.1.2.1.size ≤ 100000
  ris : Rise (xs.map fsx)
  ids : ∀ x ∈ xs, 1 ≤ x.1.1 ∧ x.1.1 < nx
  nx1 : 1 ≤ nx
  nx2 : nx ≤ 1000000000
  few : xs.length ≤ 1000
section
variable {B : Nat} {F : Nat → Prop} {g m : Nat} {v : Value} {xs : List Fs} {nx : Int} {W W' : World}
theorem Mem.gm (h : Mem B F g m v xs nx W) : g ≠ m := by
  obtain ⟨_, _, hb, _⟩ := h.map
  intro e
  have := h.blk
  rw [e, hb] at this
  cases this
theorem Mem.vg (h : Mem B F g m v xs nx W) : v.ownBlock ≠ some g := h.own.ne h.blk (by decide)
theorem Mem.vm (h : Mem B F g m v xs nx W) : v.ownBlock ≠ some m := by
  obtain ⟨_, _, hb, _⟩ := h.map
  exact h.own.neMap hb
theorem Mem.grow (h : Mem B F g m v xs nx W) (hb : Below W.heap.size W W') : Mem B F g m v xs nx W' :=
  ⟨keepB h.blk hb, h.map.move (hb.block m h.map.lt), h.own.below hb, h.Fg, h.Fm, h.Fv, fun k hk => ⟨(h.lt k hk).1, Nat.lt_of_lt_of_le (h.lt k hk).2 hb.size⟩, fun x hx => (h.vals x hx).below hb, h.ts, h.ris, h.ids, h.nx1, h.nx2, h.few⟩
theorem Mem.rows (h : Mem B F g m v xs nx W) : ∃ A c, v = .slice A xs.length c ∧ FactsAt (fun _ => False) W A (xs.map fsx) ∧ xs.length ≤ c ∧ (A = none → c = 0) := by
  obtain ⟨A, c, e, hr, _, hle, hA⟩ := h.own.rows (N := fun _ => False) fsc_len (by decide) (fun _ _ h => h)
  exact ⟨A, c, e, rows_map (f := fxc) (g := fsx) hr, hle, hA⟩
end
/-- Block g is a memory that holds just the facts T. -/
def Inv (B : Nat) (w0 : World) (F : Nat → Prop) (g : Nat) (T : List Ft) (nx : Int) (W : World) : Prop :=
  ∃ m v xs, xs.map (·.1) = T ∧ Mem B F g m v xs nx W ∧ Below B w0 W
section
variable {B : Nat} {F : Nat → Prop} {g : Nat} {T : List Ft} {nx : Int} {w0 W W' : World}
theorem Inv.grow (h : Inv B w0 F g T nx W) (hb : Below W.heap.size W W') (hB : B ≤ W.heap.size) : Inv B w0 F g T nx W' := by
  obtain ⟨m, v, xs, e, hm, h0⟩ := h
  exact ⟨m, v, xs, e, hm.grow hb, h0.trans (hb.mono hB)⟩
theorem Inv.few (h : Inv B w0 F g T nx W) : T.length ≤ 1000 := by
  obtain ⟨m, v, xs, e, hm, h0⟩ := h
  rw [← e, List.length_map]; exact hm.few
theorem Inv.ids (h : Inv B w0 F g T nx W) : ∀ t ∈ T, 1 ≤ t.1 ∧ t.1 < nx := by
  obtain ⟨m, v, xs, e, hm, h0⟩ := h
  intro t ht
  rw [← e] at ht
  obtain ⟨x, hx, rfl⟩ := List.mem_map.1 ht
  exact hm.ids x hx
theorem Inv.below (h : Inv B w0 F g T nx W) : Below B w0 W := by obtain ⟨_, _, _, _, _, h⟩ := h; exact h
theorem Inv.lt (h : Inv B w0 F g T nx W) : ∀ k, F k → B ≤ k ∧ k < W.heap.size := by obtain ⟨_, _, _, _, h, _⟩ := h; exact h.lt
theorem Inv.size (h : Inv B w0 F g T nx W) : B ≤ W.heap.size := by
  obtain ⟨_, _, _, _, h, _⟩ := h
  have := h.lt g h.Fg
  omega
end
theorem new_c (w : World) : Calls Tryd.prog 8 #[] w fun e w' => ∃ g F, e = .returned (.pointer (some ⟨g, 0, none⟩)) ∧ Inv w.heap.size w F g [] 1 w' ∧ Below w.heap.size w w' := by
  have hmm := @run_makeMap Tryd.prog
  go_enter Tryd.func8, Tryd.ntmps8
  go_wp2
  go_ret
  have hb : Below w.heap.size w ((w.alloc (Obj.map #[] 0)).alloc (Obj.cells #[.slice none 0 0, Value.map (some w.heap.size), .int .i64 1] 61)) := ((Below.refl _ _).alloc (Nat.le_refl _) _).alloc (by simp) _
  refine ⟨w.heap.size + 1, fun k => k = w.heap.size ∨ k = w.heap.size + 1, rfl, ⟨w.heap.size, .slice none 0 0, [], rfl, ⟨?_, (IsMap.made w _ _).move (Below.heap_alloc _ _ _ (by simp)), OwnW.nil _ _ _ _, .inr rfl, .inl rfl, (fun k h => by cases h), (fun k h => by rcases h with rfl | rfl <;> simp <;> omega), (fun x h => by cases h), (fun x h => by cases h), List.Pairwise.nil, (fun x h => by cases h), by omega, by omega, by simp⟩, hb⟩, hb⟩
  have := heap_alloc_new (w.alloc (Obj.map #[] 0)) (Obj.cells #[.slice none 0 0, Value.map (some w.heap.size), .int .i64 1] 61)
  simpa using this
theorem len_c {B : Nat} {F : Nat → Prop} {g : Nat} {T : List Ft} {nx : Int} {w0 W : World} (h : Inv B w0 F g T nx W) : Calls Tryd.prog 12 #[.pointer (some ⟨g, 0, none⟩)] W fun e w' => e = .returned (.int .i64 T.length) ∧ W = w' := by
  obtain ⟨m, v, xs, e, hm, h0⟩ := h
  obtain ⟨A, c, rfl, _, _, _⟩ := hm.rows
  have hc := block_cell (j := 0) hm.blk rfl
  have e2 : T.length = xs.length := by rw [← e, List.length_map]
  clear hm h0 e
  go_enter Tryd.func12, Tryd.ntmps12
  go_wp2
  go_ret
  exact ⟨ret_int (by omega), rfl⟩
theorem next_c {B : Nat} {F : Nat → Prop} {g : Nat} {T : List Ft} {nx : Int} {w0 W : World} (h : Inv B w0 F g T nx W) : Calls Tryd.prog 17 #[.pointer (some ⟨g, 0, none⟩)] W fun e w' => e = .returned (.int .i64 nx) ∧ W = w' := by
  obtain ⟨m, v, xs, e, hm, h0⟩ := h
  have hc := block_cell (j := 2) hm.blk rfl
  clear hm h0 e
  go_enter Tryd.func17, Tryd.ntmps17
  go_wp2
  go_ret
  exact ⟨rfl, rfl⟩
def AtI (T : List Ft) (y : Int) (w : World) (e : Ending) (w' : World) : Prop := ∃ i b, e = .returned (.tuple #[.int .i64 (i : Nat), .bool b]) ∧ ((b = true → ∃ h : i < T.length, T[i].1 = y) ∧ (b = false → ∀ t ∈ T, t.1 ≠ y)) ∧ Below w.heap.size w w'
theorem at_c (y : Int) {B : Nat} {F : Nat → Prop} {g : Nat} {T : List Ft} {nx : Int} {w0 W : World} (h : Inv B w0 F g T nx W) : Calls Tryd.prog 25 #[.pointer (some ⟨g, 0, none⟩), .int .i64 y] W (AtI T y W) := by
  obtain ⟨m, v, xs, e, hm, h0⟩ := h
  obtain ⟨A, c, rfl, hr, _, _⟩ := hm.rows
  have hc := block_cell (j := 0) hm.blk rfl
  have HS := Lib.hid (search_c A c (xs.map fsx) y W hr hm.ris (by rw [List.length_map]; have := hm.few; omega))
  have hl := hm.few
  have HE := Lib.hid e
  rw [List.length_map] at HS
  clear hm h0 e hr
  go_enter Tryd.func25, Tryd.ntmps25
  go_wp2_with fail
  refine HS.out.mono ?_
  rintro e w1 ⟨i, b, rfl, hf, b1⟩
  have HF := Lib.hid hf
  have HB := Lib.hid b1
  clear hf b1 hc
  go_wp2_with fail
  go_ret2
  refine ⟨i, b, rfl, ⟨fun hb => ?_, fun hb t ht => ?_⟩, HB.out⟩
  · obtain ⟨hi, hy⟩ := HF.out.1 hb
    have hi' : i < xs.length := by simpa using hi
    refine ⟨by rw [← HE.out, List.length_map]; exact hi', ?_⟩
    have e3 := HE.out
    subst e3
    simpa using hy
  · rw [← HE.out] at ht
    obtain ⟨x, hx, rfl⟩ := List.mem_map.1 ht
    obtain ⟨k, hk, rfl⟩ := List.getElem_of_mem hx
    have := HF.out.2 hb k (by simpa using hk)
    simpa using this
end Go.Proofs.YtoaepnidlddmjaaDoor
