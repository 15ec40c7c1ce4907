/- strat.Falling: the same numbers, the greatest first. -/
import Derived.Test.YtbogjhgnnmgiaaaLa
import Derived.Test.YtbogjhgnnmgiaaaSl
import Derived.Test.YtbogjhgnnmgiaaaKp
import Derived.Lib.RowBridge
import Derived.Lib.SortBridge
import Derived.Lib.LazyBuf
import Derived.WalkKit
import Derived.WalkSpells
import Derived.Laws.OwnMore
import Derived.Outline
import Derived.Lib.Hide
namespace Go.Proofs.Ytbogjhgnnmgiaaa
open Go.Shelf Go.RowKit Go.Lib Go.Sort KP

/-- The comparison: the greater one first. -/
def cfD (x y : Int) : Int := Lib.compareInt y x
theorem ltD (x y : Int) : ltOf cfD x y = decide (y < x) := by
  unfold ltOf cfD Lib.compareInt
  by_cases h1 : y < x
  · simp [h1]
  · by_cases h2 : x < y <;> simp [h1, h2]
theorem swoD : SWO (ltOf cfD) where
  irrefl x := by rw [ltD]; simp
  trans x y z h1 h2 := by rw [ltD] at *; simp at *; omega
  ntrans x y z h1 h2 := by rw [ltD] at *; simp at *; omega
theorem totD (x y : Int) (h1 : ltOf cfD x y = false) (h2 : ltOf cfD y x = false) : x = y := by rw [ltD] at *; simp at *; omega
theorem geD : (fun x y : Int => !ltOf cfD y x) = fun x y => decide (y ≤ x) := by
  funext x y
  rw [ltD]
  by_cases h : y ≤ x
  · have h' : ¬ x < y := by omega
    simp [h, h']
  · have h' : x < y := by omega
    simp [h, h']

/-- The numbers falling. -/
def falls (l : List Int) : List Int := l.mergeSort fun x y => decide (y ≤ x)
theorem falls_len (l : List Int) : (falls l).length = l.length := List.length_mergeSort l

theorem cmp_c (x y : Int) (w : World) : Calls Try.prog 29 #[.int .i64 x, .int .i64 y] w fun e w' => e = .returned (.int .i64 (Lib.compareInt x y)) ∧ w = w' :=
  (AnyG.cmp_Compare_int cmpL x y w).mono fun _ _ h => ⟨h.1, h.2.symm⟩
theorem cmp64_c (x y : Int) (w : World) : Calls Try.prog 30 #[.int .i64 x, .int .i64 y] w fun e w' => e = .returned (.int .i64 (Lib.compareInt x y)) ∧ w = w' :=
  (AnyG.cmp_Compare_int cmpL64 x y w).mono fun _ _ h => ⟨h.1, h.2.symm⟩

theorem closure28 (x y : Int) (W : World) : Calls Try.prog 28 #[.int .i64 x, .int .i64 y] W fun e w' => e = .returned (.int .i64 (cfD x y)) ∧ ∃ q, w' = W.drewN q := by
  have hcon := cmp_c y x W
  unfold cfD
  generalize Lib.compareInt y x = r at hcon ⊢
  go_enter Try.func28, Try.ntmps28
  go_wp2_with (go_at_call 29; refine hcon.mono ?_; rintro e w' ⟨rfl, rfl⟩)
  go_ret
  exact ⟨rfl, 0, rfl⟩
theorem cmpReads28 (blk off size : Nat) (w : World) : CmpReads Try.prog 28 #[] (Value.int .i64) cfD blk off size w := fun _ _ _ _ x y => closure28 x y _

theorem info3 : (Try.prog.info? 3).map (fun i => (i.zero, i.size, i.bytes)) = some (some (.int .i64 0), 1, 8) := by kernel_rfl

/-- What a row of its own holds, cell by cell. -/
theorem rowAt_owns {α : Type} {w : World} {B e n : Nat} {v : Value} {g : α → Value} {l : List α} (h : w.ownsRow B e 1 v n (l.map g)) : ∃ A c, v = .slice A n c ∧ RowAt w g A l ∧ l.length = n := by
  have hn : l.length = n := by have := h.1; simpa using this
  subst hn
  rcases h.2 with ⟨e1, e2⟩ | ⟨g1, cap, cur, e1, _, hg1, hc1, hc2, hc3, hc4⟩
  · exact ⟨none, 0, by rw [e2]; exact e1, fun j hj => by omega, rfl⟩
  · refine ⟨some ⟨g1, 0, none⟩, cap, e1, fun j hj => ⟨⟨g1, 0, none⟩, rfl, ?_⟩, rfl⟩
    have : (cur.toList.take (l.length * 1))[j]? = (l.map g)[j]? := by rw [hc4]
    rw [List.getElem?_take, if_pos (by omega), List.getElem?_map, List.getElem?_eq_getElem hj] at this
    have h2 : w.cell? ⟨g1, j, none⟩ = some (g l[j]) := block_cell hg1 (by simpa using this)
    have h3 : (⟨g1, 0, none⟩ : Addr).add j = ⟨g1, j, none⟩ := by simp [Addr.add]; omega
    rw [h3]
    exact ⟨World.block_lt_of_cell? _ _ h2, h2⟩

theorem sort_owns {B g c : Nat} {l : List Int} {w : World} (h : w.ownsRow B 3 1 (.slice (some ⟨g, 0, none⟩) l.length c) l.length (l.map (Value.int .i64))) (hs : l.length ≤ 1000) :
    Calls Try.prog 27 #[.slice (some ⟨g, 0, none⟩) l.length l.length, .func (.func 28) #[] #[]] w fun e w' => e = .returned (.tuple #[]) ∧ RowAt w' (Value.int .i64) (some ⟨g, 0, none⟩) (falls l) ∧ Below B w w' := by
  rcases h.2 with ⟨e1, _⟩ | ⟨g1, cap, cur, e1, hB, hg1, hc1, hc2, hc3, hc4⟩
  · exact absurd e1 (by simp)
  injection e1 with e1 _ e3; injection e1 with e1; injection e1 with e1; subst e1
  have hlt : g < w.heap.size := (Array.getElem?_eq_some_iff.1 hg1).1
  have hcell : ∀ j (hj : j < l.length), w.cell? ⟨g, 0 + j, none⟩ = some (.int .i64 l[j]) := by
    intro j hj
    have : (cur.toList.take (l.length * 1))[j]? = (l.map (Value.int .i64))[j]? := by rw [hc4]
    rw [List.getElem?_take, if_pos (by omega), List.getElem?_map, List.getElem?_eq_getElem hj] at this
    rw [Nat.zero_add]
    exact block_cell hg1 (by simpa using this)
  have hH : Holds (Value.int .i64) w g 0 l.toArray := by
    intro j hj
    have hj' : j < l.length := by simpa using hj
    refine ⟨?_, ?_⟩
    · rw [hcell j hj']; simp [hj']
    · rw [Nat.zero_add]; exact block_free hg1
  have eg : ∀ args w, (callFunc 28 args).run Try.prog w = .ok (.enter 28 args) w := enters_of Try.func28 (by kernel_rfl) rfl
  have hS := Any.slices_SortFunc_total sortL (Value.int .i64) (fun _ => rfl) cfD swoD 28 #[] g 0 l.length l.toArray w eg (cmpReads28 g 0 l.toArray.size w).lays hH hlt (by simp; omega) totD
  rw [geD] at hS
  change Calls Try.prog 27 _ _ _ at hS
  simp only [List.size_toArray] at hS
  refine hS.mono ?_
  rintro e w' ⟨rfl, n, os, rfl⟩
  have hlen := falls_len l
  have hw := Lib.sorted_world (Value.int .i64) w g 0 n l.toArray (falls l) os hH (by simpa using hlen)
  change _ ∧ RowAt (grow (putRow (Value.int .i64) (Sort.ahead w n) g 0 (falls l).toArray) os) _ _ _ ∧ Below B w (grow (putRow (Value.int .i64) (Sort.ahead w n) g 0 (falls l).toArray) os)
  rw [hw]
  refine ⟨rfl, ?_, ?_⟩
  · intro k hk
    refine ⟨_, rfl, ?_⟩
    have h4 := Lib.cells_sorted_ints (W := w) (b := g) (off := 0) (n := l.length) (q := n) (zs := l) (ys := falls l) (os := os) (Nat.le_refl _) hlen (fun j hj => by rw [hcell j hj]; simp [List.getD, hj]) k (by simp; omega)
    have h3 : (⟨g, 0, none⟩ : Addr).add k = ⟨g, 0 + k, none⟩ := by simp [Addr.add]; omega
    rw [h3]
    refine ⟨World.block_lt_of_cell? _ _ h4, h4.trans ?_⟩
    simp [List.getD, hk]
  · have h5 : Below B w ((w.drewN n).setCells g 0 ((falls l).map (Value.int .i64))) := Go.below_setCells hB _ _ _ ⟨rfl, rfl, rfl, Nat.le_refl _, fun _ _ => rfl⟩
    refine ⟨h5.os, h5.tape, h5.output, Nat.le_trans h5.size (by simp), fun k hk => ?_⟩
    have h6 : w.heap.size ≤ ((w.drewN n).setCells g 0 ((falls l).map (Value.int .i64))).heap.size := h5.size
    by_cases hk2 : k < ((w.drewN n).setCells g 0 ((falls l).map (Value.int .i64))).heap.size
    · rw [heap_grow_old _ os hk2]
      exact h5.block k hk
    · have : B ≤ w.heap.size := Nat.le_of_lt (Nat.lt_of_le_of_lt hB hlt)
      omega

theorem clip_any (A : Option Addr) (n c : Nat) (w : World) (hn : n ≤ c) :
    Calls Try.prog 25 #[.slice A n c] w fun e w' => e = .returned (.slice A n n) ∧ w = w' := by
  go_enter Try.func25, Try.ntmps25
  go_wp2
  go_ret
  exact ⟨rfl, rfl⟩

set_option maxHeartbeats 400000 in
theorem clone_nil (w : World) :
    Calls Try.prog 26 #[.slice none 0 0] w fun e w' => e = .returned (.slice none 0 0) ∧ w = w' := by
  have heq := fun w => Lib.run_eql_slice_nil (P := Try.prog) w 22 3 none 0 0 0 0 Try.underlying22
  go_enter Try.func26, Try.ntmps26
  go_wp2
  go_ret
  exact ⟨rfl, rfl⟩

set_option maxHeartbeats 400000 in
theorem clone_some (ad : Addr) (c : Nat) (l : List Int) (w : World) (hr : RowAt w (Value.int .i64) (some ad) l) (hb : l.length ≤ 1000) :
    Calls Try.prog 26 #[.slice (some ad) l.length c] w fun e w' => ∃ g cp, e = .returned (.slice (some ⟨g, 0, none⟩) l.length cp) ∧ w'.ownsRow w.heap.size 3 1 (.slice (some ⟨g, 0, none⟩) l.length cp) l.length (l.map (Value.int .i64)) ∧ l.length ≤ cp ∧ Below w.heap.size w w' := by
  obtain ⟨i0, hi, hz0, hz1, hz2⟩ := info_parts info3
  have heq := fun w => Lib.run_eql_slice_nil (P := Try.prog) w 22 3 (some ad) l.length c 0 0 Try.underlying22
  have H0 : (w.alloc (.cells #[] 3)).ownsRow w.heap.size 3 1 (.slice (some ⟨w.heap.size, 0, none⟩) 0 0) 0 [] := World.ownsRow_made w #[] 0 (Nat.le_refl _) (by unfold maxLen; omega) rfl
  have hnews : ∀ j u, (l.map (Value.int .i64))[j]? = some u → (w.alloc (.cells #[] 3)).cell? (ad.add j) = some u := fun j u hu => by
    have hj : j < l.length := by have := (List.getElem?_eq_some_iff.1 hu).1; simpa using this
    obtain ⟨ad', e, hlt, hcell⟩ := hr j hj
    injection e with e
    subst e
    rw [List.getElem?_map, List.getElem?_eq_getElem hj] at hu
    simp at hu
    subst hu
    exact (Below.cell ((Below.refl w.heap.size w).alloc (Nat.le_refl _) _) hlt).trans hcell
  have H0' := Lib.hid H0; clear H0
  have hnews' := Lib.hid hnews; clear hnews
  have hr' := Lib.hid hr; clear hr
  go_enter Try.func26, Try.ntmps26
  go_wp2_with (at_builtin; refine wpList_append_own _ rfl (.tmp 5) (.tmp 6) 22 rfl w.heap.size 3 i0 (.int .i64 0) 1 8 Try.underlying22 hi hz0 hz1 hz2 rfl (by decide) _ 0 [] rfl H0'.out ad l.length c (l.map (Value.int .i64)) rfl ?c0 hnews'.out ?c2 ?c3 ?c4 ?c5 ?_)
  case c0 => simp
  case c2 => intro u hu; obtain ⟨x, _, rfl⟩ := List.mem_map.1 hu; rfl
  case c3 => unfold maxLen; omega
  case c4 => omega
  case c5 => simp
  intro v' w1 hown hg hnil
  have hbel : Below w.heap.size w w1 := ((Below.refl _ _).alloc (Nat.le_refl _) _).grown hg (by simp) (fun k h => by simp [Value.ownBlock] at h; omega)
  have hv : ∃ g cp, v' = .slice (some ⟨g, 0, none⟩) l.length cp ∧ l.length ≤ cp := by
    rcases hown.2 with ⟨h1, h2⟩ | ⟨g, cap', _, h, _, _, h3, _⟩
    · exact absurd h1 hnil
    · exact ⟨g, cap', by simpa using h, by simpa using h3⟩
  obtain ⟨g, cp, rfl, hcp⟩ := hv
  have HO := Lib.hid hown; clear hown
  have HB := Lib.hid hbel; clear hbel
  clear hnil hg
  go_wp2
  go_ret
  exact ⟨g, cp, rfl, by simpa using HO.out, hcp, HB.out⟩

set_option maxHeartbeats 400000 in
/-- Falling: the contract. -/
theorem falling_any (A : Option Addr) (l : List Int) (c : Nat) (w : World) (h : RowAt w (Value.int .i64) A l) (hA : A = none → c = 0) (hs : l.length ≤ 1000) :
    Calls Try.prog 18 #[.slice A l.length c] w fun e w' => ∃ A' c', e = .returned (.slice A' l.length c') ∧ RowAt w' (Value.int .i64) A' (falls l) ∧ Below w.heap.size w w' := by
  cases A with
  | none =>
    obtain rfl := hA rfl
    have hl : l = [] := by
      cases l with
      | nil => rfl
      | cons x l => obtain ⟨a, e, _⟩ := h 0 (by simp); cases e
    subst hl
    have hS := fun W => AnyF.slices_SortFunc_none (P := Try.prog) (ρ := sortL_ren) { sortL with } none 0 (.func (.func 28) #[] #[]) W
    change ∀ W, Calls Try.prog 27 _ _ _ at hS
    go_enter Try.func18, Try.ntmps18
    go_wp2_with fail
    refine (clone_nil _).mono ?_
    rintro e w1 ⟨rfl, rfl⟩
    go_wp2_with fail
    refine (clip_any _ _ _ _ (Nat.le_refl _)).mono ?_
    rintro e w1 ⟨rfl, rfl⟩
    go_wp2_with fail
    refine (hS _).mono ?_
    rintro e w1 ⟨rfl, rfl⟩
    go_wp2
    go_ret
    exact ⟨none, 0, rfl, fun k hk => absurd hk (by simp [falls]), Below.refl _ _⟩
  | some ad =>
    go_enter Try.func18, Try.ntmps18
    go_wp2_with fail
    refine (clone_some ad c l _ h hs).mono ?_
    rintro e w1 ⟨g, cp, rfl, ho, hcp, b1⟩
    have HO := Lib.hid ho; clear ho
    have B1 := Lib.hid b1; clear b1
    go_wp2_with fail
    refine (clip_any _ _ _ _ hcp).mono ?_
    rintro e w2 ⟨rfl, rfl⟩
    go_wp2_with fail
    refine (sort_owns HO.out hs).mono ?_
    rintro e w3 ⟨rfl, h3, b3⟩
    have H3 := Lib.hid h3; clear h3
    have B3 := Lib.hid b3; clear b3
    go_wp2
    go_ret
    exact ⟨_, _, rfl, H3.out, B1.out.trans B3.out⟩
end Go.Proofs.Ytbogjhgnnmgiaaa
