/- Supports: compared by the program, by the law. -/
import Derived.Test.YtonflknnlfffhaaUa
namespace Go.Proofs.Ytonflknnlfffhaa
open Go.RowKit Go.Lib KP MR RW
/-- A support: its rule, its alternative, its facts; the slice of its facts. -/
abbrev Wy := Int × Int × List Int
abbrev Wf := Wy × Option Addr × Nat
abbrev Wf.sl (y : Wf) : Value := .slice y.2.1 y.1.2.2.length y.2.2
abbrev whyc (y : Wf) : List Value := [.int .i64 y.1.1, .int .i64 y.1.2.1, y.sl]
abbrev Wf.val (y : Wf) : Value := .agg #[.int .i64 y.1.1, .int .i64 y.1.2.1, y.sl]
theorem whyc_len (y : Wf) : (whyc y).length = 3 := rfl
theorem whyc_flat (y : Wf) : ∀ u ∈ whyc y, u.oneCell' = true := by
  intro u hu
  simp at hu
  rcases hu with rfl | rfl | rfl <;> rfl
def zW : Value := .agg #[.int .i64 0, .int .i64 0, .slice none 0 0]
theorem infoW : (Try.prog.info? 50).map (fun i => (i.zero, i.size, i.bytes)) = some (some zW, 3, 40) := by kernel_rfl
theorem zeroW (w : World) : (zeroValue 50).run Try.prog w = .ok zW w := by kernel_rfl
theorem fillW (y : Wf) : Instr.fill (fun i => some (i * 3, 3)) ((Array.range (1 * 3)).map (zW.cells[· % zW.cells.size]!)) [(0, y.val)] = some (whyc y).toArray := by kernel_rfl
/-- A support as it may be told. -/
structure ArgY (W : World) (y : Wf) : Prop where
  row : IntsAt (fun _ => False) W y.2.1 y.1.2.2
  nil : y.2.1 = none → y.2.2 = 0
  few : y.1.2.2.length ≤ 1000
theorem ArgY.below {W W' : World} {y : Wf} (h : ArgY W y) (hb : Below W.heap.size W W') : ArgY W' y := ⟨h.row.below hb, h.nil, h.few⟩
theorem ArgY.of {W : World} {B : Nat} {y : Wf} (h : OwnI W B y.sl y.1.2.2) (hf : y.1.2.2.length ≤ 1000) : ArgY W y := by
  obtain ⟨A, c, e, hr, hA, _⟩ := OwnI.row h
  injection e with e1 _ e2
  exact ⟨by rw [e1]; exact hr, by rw [e1, e2]; exact hA, hf⟩
theorem two_boxes (W : World) (a b : Wf) :
    let w2 := (W.alloc (.cells (whyc a).toArray 50)).alloc (.cells (whyc b).toArray 50)
    ((w2.cell? ⟨W.heap.size, 0, none⟩ = some (.int .i64 a.1.1) ∧ w2.cell? ⟨W.heap.size, 1, none⟩ = some (.int .i64 a.1.2.1) ∧ w2.cell? ⟨W.heap.size, 2, none⟩ = some a.sl) ∧
    (w2.cell? ⟨W.heap.size + 1, 0, none⟩ = some (.int .i64 b.1.1) ∧ w2.cell? ⟨W.heap.size + 1, 1, none⟩ = some (.int .i64 b.1.2.1) ∧ w2.cell? ⟨W.heap.size + 1, 2, none⟩ = some b.sl)) ∧ Below W.heap.size W w2 := by
  intro w2
  have hb : w2.heap[W.heap.size + 1]? = some (.cells (whyc b).toArray 50 (0, 0)) := by
    have := heap_alloc_new (W.alloc (.cells (whyc a).toArray 50)) (.cells (whyc b).toArray 50)
    have e : (W.alloc (.cells (whyc a).toArray 50)).heap.size = W.heap.size + 1 := by simp
    rwa [e] at this
  have ha : w2.heap[W.heap.size]? = some (.cells (whyc a).toArray 50 (0, 0)) := (Below.heap_alloc _ _ _ (by simp)).trans (heap_alloc_new W _)
  exact ⟨⟨⟨block_cell ha rfl, block_cell ha rfl, block_cell ha rfl⟩, ⟨block_cell hb rfl, block_cell hb rfl, block_cell hb rfl⟩⟩, ((Below.refl _ _).alloc (Nat.le_refl _) _).alloc (by simp) _⟩
set_option maxRecDepth 100000 in
set_option maxHeartbeats 2000000 in
theorem same_c (a b : Wf) (W : World) (ha : ArgY W a) (hb : ArgY W b) : Calls Try.prog 60 #[a.val, b.val] W fun e w' => e = .returned (.bool (decide (a.1 = b.1))) ∧ Below W.heap.size W w' := by
  obtain ⟨⟨a1, a2, a3⟩, aA, ac⟩ := a
  obtain ⟨⟨b1, b2, b3⟩, bA, bc⟩ := b
  have hB := two_boxes W ((a1, a2, a3), aA, ac) ((b1, b2, b3), bA, bc)
  dsimp only at hB
  obtain ⟨⟨⟨c0, c1, c2⟩, ⟨d0, d1, d2⟩⟩, hbel⟩ := hB
  have E2 := Lib.hid hbel
  by_cases h1 : a1 = b1
  · have e1 : (a1 == b1) = true := by simp [h1]
    by_cases h2 : a2 = b2
    · have e2 : (a2 == b2) = true := by simp [h2]
      have HD := Lib.hid (show decide (a3 = b3) = decide ((a1, a2, a3) = (b1, b2, b3)) by rw [h1, h2]; simp)
      have HC := Lib.hid (eq_c aA ac a3 bA bc b3 _ (ha.row.below hbel) (hb.row.below hbel) (by have := ha.few; dsimp only at this; omega) (by have := hb.few; dsimp only at this; omega))
      clear hbel ha hb h1 h2
      go_enter Try.func60, Try.ntmps60
      go_wp2_with fail
      refine HC.out.mono ?_
      rintro e w3 ⟨rfl, b3'⟩
      have E3 := Lib.hid (E2.out.trans (b3'.mono E2.out.size))
      clear b3' HC

      go_wp2_with fail
      go_ret
      exact ⟨ret_bool HD.out, E3.out⟩
    · have HD := Lib.hid (show false = decide ((a1, a2, a3) = (b1, b2, b3)) by simp [h2])
      have e2 : (a2 == b2) = false := by simp [h2]
      clear hbel ha hb h1 h2
      go_enter Try.func60, Try.ntmps60
      go_wp2_with fail
      go_ret
      exact ⟨ret_bool HD.out, E2.out⟩
  · have HD := Lib.hid (show false = decide ((a1, a2, a3) = (b1, b2, b3)) by simp [h1])
    have e1 : (a1 == b1) = false := by simp [h1]
    clear hbel ha hb h1
    go_enter Try.func60, Try.ntmps60
    go_wp2_with fail
    go_ret
    exact ⟨ret_bool HD.out, E2.out⟩
set_option maxRecDepth 100000 in
set_option maxHeartbeats 2000000 in
theorem sameL_c (a b : Wf) (W : World) (ha : ArgY W a) (hb : ArgY W b) : Calls Try.prog 48 #[a.val, b.val] W fun e w' => e = .returned (.bool (decide (a.1 = b.1))) ∧ Below W.heap.size W w' := by
  obtain ⟨⟨a1, a2, a3⟩, aA, ac⟩ := a
  obtain ⟨⟨b1, b2, b3⟩, bA, bc⟩ := b
  have hB := two_boxes W ((a1, a2, a3), aA, ac) ((b1, b2, b3), bA, bc)
  dsimp only at hB
  obtain ⟨⟨⟨c0, c1, c2⟩, ⟨d0, d1, d2⟩⟩, hbel⟩ := hB
  have E2 := Lib.hid hbel
  by_cases h1 : a1 = b1
  · have e1 : (a1 == b1) = true := by simp [h1]
    by_cases h2 : a2 = b2
    · have e2 : (a2 == b2) = true := by simp [h2]
      have HD := Lib.hid (show decide (a3 = b3) = decide ((a1, a2, a3) = (b1, b2, b3)) by rw [h1, h2]; simp)
      have HC := Lib.hid (cmp_c aA ac a3 bA bc b3 _ (ha.row.below hbel) (hb.row.below hbel) (by have := ha.few; dsimp only at this; omega) (by have := hb.few; dsimp only at this; omega))
      clear hbel ha hb h1 h2
      go_enter Try.func48, Try.ntmps48
      go_wp2_with fail
      refine HC.out.mono ?_
      rintro e w3 ⟨r, rfl, hr, b3'⟩
      have E3 := Lib.hid (E2.out.trans (b3'.mono E2.out.size))
      clear b3' HC
      rw [← hr] at HD
      clear hr
      go_wp2_with fail
      go_ret
      exact ⟨ret_bool HD.out, E3.out⟩
    · have HD := Lib.hid (show false = decide ((a1, a2, a3) = (b1, b2, b3)) by simp [h2])
      have e2 : (a2 == b2) = false := by simp [h2]
      clear hbel ha hb h1 h2
      go_enter Try.func48, Try.ntmps48
      go_wp2_with fail
      go_ret
      exact ⟨ret_bool HD.out, E2.out⟩
  · have HD := Lib.hid (show false = decide ((a1, a2, a3) = (b1, b2, b3)) by simp [h1])
    have e1 : (a1 == b1) = false := by simp [h1]
    clear hbel ha hb h1
    go_enter Try.func48, Try.ntmps48
    go_wp2_with fail
    go_ret
    exact ⟨ret_bool HD.out, E2.out⟩
set_option maxRecDepth 100000 in
set_option maxHeartbeats 2000000 in
/-- What is(w) hands back, called. -/
theorem is1_c (b : Nat) (x y : Wf) (W : World) (hx : ArgY W x) (hy : ArgY W y) (hb : ∀ j v, (whyc y)[j]? = some v → W.cell? ⟨b, j, none⟩ = some v) : Calls Try.prog 59 #[x.val, .pointer (some ⟨b, 0, none⟩)] W fun e w' => e = .returned (.bool (decide (x.1 = y.1))) ∧ Below W.heap.size W w' := by
  obtain ⟨⟨x1, x2, x3⟩, xA, xc⟩ := x
  obtain ⟨⟨y1, y2, y3⟩, yA, yc⟩ := y
  have D1 := Lib.hid ((Below.refl W.heap.size W).alloc (Nat.le_refl _) (.cells (whyc ((x1, x2, x3), xA, xc)).toArray 50))
  have hbD := fun j v (h : (whyc ((y1, y2, y3), yA, yc))[j]? = some v) => (D1.out.cell (p := ⟨b, j, none⟩) (World.block_lt_of_cell? _ _ (hb j v h))).trans (hb j v h)
  have c0 := hbD 0 _ rfl
  have c1 := hbD 1 _ rfl
  have c2 := hbD 2 _ rfl
  have HC := Lib.hid (same_c ((x1, x2, x3), xA, xc) ((y1, y2, y3), yA, yc) _ (hx.below D1.out) (hy.below D1.out))
  dsimp only at c0 c1 c2 HC D1
  clear hb hx hy hbD
  go_enter Try.func59, Try.ntmps59
  go_wp2_with fail
  refine HC.out.mono ?_
  rintro e w3 ⟨rfl, b3⟩
  have E3 := Lib.hid (D1.out.trans (b3.mono D1.out.size))
  clear b3 HC
  obtain ⟨d, hd⟩ : ∃ d, Hid (d = decide ((x1, x2, x3) = (y1, y2, y3))) := ⟨_, Lib.hid rfl⟩
  rw [← hd.out]
  go_wp2_with fail
  go_ret
  exact ⟨ret_bool hd.out, E3.out⟩
theorem is_c (y : Wf) (W : World) : Calls Try.prog 46 #[y.val] W fun e w' => e = .returned (.func (.func 59) #[] #[.pointer (some ⟨W.heap.size, 0, none⟩)]) ∧ w' = W.alloc (.cells (whyc y).toArray 50) := by
  go_enter Try.func46, Try.ntmps46
  go_wp2_with fail
  go_ret
  exact ⟨rfl, rfl⟩
end Go.Proofs.Ytonflknnlfffhaa
