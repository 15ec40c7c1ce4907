/- EvalDeep: as many calls in one another as may be; one more is too long. -/
import Derived.Test.YtmadnehipagakaaGreatDoorGl
namespace Go.Proofs.YtmadnehipagakaaGreatDoor
open Go.RowKit Go.Lib Go.Sort Go.Shelf KP
theorem allocL_below : ∀ (os : List Obj) (w : World), Below w.heap.size w (os.foldl (fun w o => w.alloc o) w)
  | [], _ => Below.refl _ _
  | o :: os, w => ((Below.refl w.heap.size w).alloc (Nat.le_refl _) o).trans ((allocL_below os (w.alloc o)).mono (by simp))
theorem allocL_at : ∀ (os : List Obj) (w : World) (i : Nat) (h : i < os.length), (os.foldl (fun w o => w.alloc o) w).heap[w.heap.size + i]? = some os[i]
  | o :: os, w, 0, _ => ((allocL_below os (w.alloc o)).block w.heap.size (by simp)).trans (heap_alloc_new w o)
  | o :: os, w, i + 1, h => by
    have := allocL_at os (w.alloc o) i (by simpa using h)
    rw [World.size_alloc] at this
    rw [List.foldl_cons, show w.heap.size + (i + 1) = w.heap.size + 1 + i by omega]
    exact this
theorem allocL_size : ∀ (os : List Obj) (w : World), (os.foldl (fun w o => w.alloc o) w).heap.size = w.heap.size + os.length
  | [], _ => rfl
  | o :: os, w => by rw [List.foldl_cons, allocL_size os (w.alloc o)]; simp; omega
/-- The machine of chain, as it is made. -/
abbrev Xd (m : Nat) (g : Nat) : Cx := ⟨m, some ⟨g, 0, none⟩, 1, [fuDown], none, 0, [], fun k => k = m⟩
set_option maxRecDepth 100000 in
theorem chain_end (w w1 w5 w9 : World) (q4 : Nat) (ht : Tab w) (_B1 : Below w.heap.size w w1) (B5 : Below w.heap.size w w5) (l1 : w.heap.size < w1.heap.size)
    (_HX5 : w5.heap[w.heap.size]? = some (.cells #[.int .i64 2, .int .i64 0, .int .i64 0, .string ⟨#[]⟩, .string ⟨#[120]⟩, .slice none 0 0] 65)) (Y1 : w5.heap[w1.heap.size + 1]? = some (.cells #[.int .i64 2, .int .i64 0, .int .i64 0, .string ⟨#[]⟩, .string ⟨#[120]⟩, .slice none 0 0, .int .i64 1, .int .i64 1, .int .i64 1, .string ⟨#[]⟩, .string ⟨#[]⟩, .slice none 0 0] 65)) (Y3 : w5.heap[w1.heap.size + 3]? = some (.cells #[.int .i64 4, .int .i64 0, .int .i64 0, .string ⟨#[]⟩, .string ⟨#[45]⟩, .slice (some ⟨w1.heap.size + 1, 0, none⟩) 2 2] 65)) (Y5 : w5.heap[w1.heap.size + 5]? = some (.cells #[.int .i64 2, .int .i64 0, .int .i64 0, .string ⟨#[]⟩, .string ⟨#[120]⟩, .slice none 0 0, .int .i64 1, .int .i64 1, .int .i64 1, .string ⟨#[]⟩, .string ⟨#[]⟩, .slice none 0 0] 65))
    (B9 : Below w5.heap.size w5 w9) (R9 : w9.heap[q4]? = some (.cells #[.int .i64 4, .int .i64 0, .int .i64 0, .string ⟨#[]⟩, .string ⟨#[60]⟩, .slice (some ⟨w1.heap.size + 5, 0, none⟩) 2 2, .int .i64 1, .int .i64 2, .int .i64 0, .string ⟨#[100, 111, 110, 101]⟩, .string ⟨#[]⟩, .slice none 0 0, .int .i64 4, .int .i64 0, .int .i64 0, .string ⟨#[]⟩, .string ⟨#[100, 111, 119, 110]⟩, .slice (some ⟨w1.heap.size + 3, 0, none⟩) 1 1] 65)) :
    ∃ m g, Ending.returned (.pointer (some ⟨w9.heap.size + 3, 0, none⟩)) = .returned (.pointer (some ⟨m, 0, none⟩)) ∧ w.heap.size ≤ m ∧ CxOk (Xd m g) ∧ At (Xd m g) ((((w9.alloc (.cells #[.string ⟨#[120]⟩] 9)).alloc (.cells #[.int .i64 5, .int .i64 0, .int .i64 0, .string ⟨#[]⟩, .string ⟨#[]⟩, .slice (some ⟨q4, 0, none⟩) 3 3] 65)).alloc (.cells #[.string ⟨#[100, 111, 119, 110]⟩, .slice (some ⟨w9.heap.size, 0, none⟩) 1 1, .slice (some ⟨w9.heap.size + 1, 0, none⟩) 1 1] 117)).alloc (.cells #[.slice (some ⟨w9.heap.size + 2, 0, none⟩) 1 1, .slice none 0 0, .int .i64 100000] 61)) 100000 ∧ Below w.heap.size w ((((w9.alloc (.cells #[.string ⟨#[120]⟩] 9)).alloc (.cells #[.int .i64 5, .int .i64 0, .int .i64 0, .string ⟨#[]⟩, .string ⟨#[]⟩, .slice (some ⟨q4, 0, none⟩) 3 3] 65)).alloc (.cells #[.string ⟨#[100, 111, 119, 110]⟩, .slice (some ⟨w9.heap.size, 0, none⟩) 1 1, .slice (some ⟨w9.heap.size + 1, 0, none⟩) 1 1] 117)).alloc (.cells #[.slice (some ⟨w9.heap.size + 2, 0, none⟩) 1 1, .slice none 0 0, .int .i64 100000] 61)) := by
  have F := allocL_at [(.cells #[.string ⟨#[120]⟩] 9), (.cells #[.int .i64 5, .int .i64 0, .int .i64 0, .string ⟨#[]⟩, .string ⟨#[]⟩, .slice (some ⟨q4, 0, none⟩) 3 3] 65), (.cells #[.string ⟨#[100, 111, 119, 110]⟩, .slice (some ⟨w9.heap.size, 0, none⟩) 1 1, .slice (some ⟨w9.heap.size + 1, 0, none⟩) 1 1] 117), (.cells #[.slice (some ⟨w9.heap.size + 2, 0, none⟩) 1 1, .slice none 0 0, .int .i64 100000] 61)] w9
  have bN : Below w9.heap.size w9 ((((w9.alloc (.cells #[.string ⟨#[120]⟩] 9)).alloc (.cells #[.int .i64 5, .int .i64 0, .int .i64 0, .string ⟨#[]⟩, .string ⟨#[]⟩, .slice (some ⟨q4, 0, none⟩) 3 3] 65)).alloc (.cells #[.string ⟨#[100, 111, 119, 110]⟩, .slice (some ⟨w9.heap.size, 0, none⟩) 1 1, .slice (some ⟨w9.heap.size + 1, 0, none⟩) 1 1] 117)).alloc (.cells #[.slice (some ⟨w9.heap.size + 2, 0, none⟩) 1 1, .slice none 0 0, .int .i64 100000] 61)) := allocL_below [(.cells #[.string ⟨#[120]⟩] 9), (.cells #[.int .i64 5, .int .i64 0, .int .i64 0, .string ⟨#[]⟩, .string ⟨#[]⟩, .slice (some ⟨q4, 0, none⟩) 3 3] 65), (.cells #[.string ⟨#[100, 111, 119, 110]⟩, .slice (some ⟨w9.heap.size, 0, none⟩) 1 1, .slice (some ⟨w9.heap.size + 1, 0, none⟩) 1 1] 117), (.cells #[.slice (some ⟨w9.heap.size + 2, 0, none⟩) 1 1, .slice none 0 0, .int .i64 100000] 61)] w9
  have F0 : ((((w9.alloc (.cells #[.string ⟨#[120]⟩] 9)).alloc (.cells #[.int .i64 5, .int .i64 0, .int .i64 0, .string ⟨#[]⟩, .string ⟨#[]⟩, .slice (some ⟨q4, 0, none⟩) 3 3] 65)).alloc (.cells #[.string ⟨#[100, 111, 119, 110]⟩, .slice (some ⟨w9.heap.size, 0, none⟩) 1 1, .slice (some ⟨w9.heap.size + 1, 0, none⟩) 1 1] 117)).alloc (.cells #[.slice (some ⟨w9.heap.size + 2, 0, none⟩) 1 1, .slice none 0 0, .int .i64 100000] 61)).heap[w9.heap.size]? = some (.cells #[.string ⟨#[120]⟩] 9) := F 0 (by simp)
  have F1 : ((((w9.alloc (.cells #[.string ⟨#[120]⟩] 9)).alloc (.cells #[.int .i64 5, .int .i64 0, .int .i64 0, .string ⟨#[]⟩, .string ⟨#[]⟩, .slice (some ⟨q4, 0, none⟩) 3 3] 65)).alloc (.cells #[.string ⟨#[100, 111, 119, 110]⟩, .slice (some ⟨w9.heap.size, 0, none⟩) 1 1, .slice (some ⟨w9.heap.size + 1, 0, none⟩) 1 1] 117)).alloc (.cells #[.slice (some ⟨w9.heap.size + 2, 0, none⟩) 1 1, .slice none 0 0, .int .i64 100000] 61)).heap[w9.heap.size + 1]? = some (.cells #[.int .i64 5, .int .i64 0, .int .i64 0, .string ⟨#[]⟩, .string ⟨#[]⟩, .slice (some ⟨q4, 0, none⟩) 3 3] 65) := F 1 (by simp)
  have F2 : ((((w9.alloc (.cells #[.string ⟨#[120]⟩] 9)).alloc (.cells #[.int .i64 5, .int .i64 0, .int .i64 0, .string ⟨#[]⟩, .string ⟨#[]⟩, .slice (some ⟨q4, 0, none⟩) 3 3] 65)).alloc (.cells #[.string ⟨#[100, 111, 119, 110]⟩, .slice (some ⟨w9.heap.size, 0, none⟩) 1 1, .slice (some ⟨w9.heap.size + 1, 0, none⟩) 1 1] 117)).alloc (.cells #[.slice (some ⟨w9.heap.size + 2, 0, none⟩) 1 1, .slice none 0 0, .int .i64 100000] 61)).heap[w9.heap.size + 2]? = some (.cells #[.string ⟨#[100, 111, 119, 110]⟩, .slice (some ⟨w9.heap.size, 0, none⟩) 1 1, .slice (some ⟨w9.heap.size + 1, 0, none⟩) 1 1] 117) := F 2 (by simp)
  have F3 : ((((w9.alloc (.cells #[.string ⟨#[120]⟩] 9)).alloc (.cells #[.int .i64 5, .int .i64 0, .int .i64 0, .string ⟨#[]⟩, .string ⟨#[]⟩, .slice (some ⟨q4, 0, none⟩) 3 3] 65)).alloc (.cells #[.string ⟨#[100, 111, 119, 110]⟩, .slice (some ⟨w9.heap.size, 0, none⟩) 1 1, .slice (some ⟨w9.heap.size + 1, 0, none⟩) 1 1] 117)).alloc (.cells #[.slice (some ⟨w9.heap.size + 2, 0, none⟩) 1 1, .slice none 0 0, .int .i64 100000] 61)).heap[w9.heap.size + 3]? = some (.cells #[.slice (some ⟨w9.heap.size + 2, 0, none⟩) 1 1, .slice none 0 0, .int .i64 100000] 61) := F 3 (by simp)
  have b5 := B9.trans (bN.mono B9.size)
  have y1 := keepB Y1 b5
  have y3 := keepB Y3 b5
  have y5 := keepB Y5 b5
  have r9 := keepB R9 bN
  have n1 := (Array.getElem?_eq_some_iff.1 Y1).1
  have n3 := (Array.getElem?_eq_some_iff.1 Y3).1
  have n5 := (Array.getElem?_eq_some_iff.1 Y5).1
  have n4 := (Array.getElem?_eq_some_iff.1 R9).1
  have s9 := B9.size
  have sw := B5.size
  have bW : Below w.heap.size w ((((w9.alloc (.cells #[.string ⟨#[120]⟩] 9)).alloc (.cells #[.int .i64 5, .int .i64 0, .int .i64 0, .string ⟨#[]⟩, .string ⟨#[]⟩, .slice (some ⟨q4, 0, none⟩) 3 3] 65)).alloc (.cells #[.string ⟨#[100, 111, 119, 110]⟩, .slice (some ⟨w9.heap.size, 0, none⟩) 1 1, .slice (some ⟨w9.heap.size + 1, 0, none⟩) 1 1] 117)).alloc (.cells #[.slice (some ⟨w9.heap.size + 2, 0, none⟩) 1 1, .slice none 0 0, .int .i64 100000] 61)) := B5.trans (b5.mono B5.size)
  have hz : ((((w9.alloc (.cells #[.string ⟨#[120]⟩] 9)).alloc (.cells #[.int .i64 5, .int .i64 0, .int .i64 0, .string ⟨#[]⟩, .string ⟨#[]⟩, .slice (some ⟨q4, 0, none⟩) 3 3] 65)).alloc (.cells #[.string ⟨#[100, 111, 119, 110]⟩, .slice (some ⟨w9.heap.size, 0, none⟩) 1 1, .slice (some ⟨w9.heap.size + 1, 0, none⟩) 1 1] 117)).alloc (.cells #[.slice (some ⟨w9.heap.size + 2, 0, none⟩) 1 1, .slice none 0 0, .int .i64 100000] 61)).heap.size = w9.heap.size + 4 := by simp
  generalize (((w9.alloc (.cells #[.string ⟨#[120]⟩] 9)).alloc (.cells #[.int .i64 5, .int .i64 0, .int .i64 0, .string ⟨#[]⟩, .string ⟨#[]⟩, .slice (some ⟨q4, 0, none⟩) 3 3] 65)).alloc (.cells #[.string ⟨#[100, 111, 119, 110]⟩, .slice (some ⟨w9.heap.size, 0, none⟩) 1 1, .slice (some ⟨w9.heap.size + 1, 0, none⟩) 1 1] 117)).alloc (.cells #[.slice (some ⟨w9.heap.size + 2, 0, none⟩) 1 1, .slice none 0 0, .int .i64 100000] 61) = W at *
  have hleaf : ∀ (k : Int) (v : Vl) (s : ByteArray), ExAt (fun k => k = w9.heap.size + 3) W (.mk k v s []) none := fun k v s => ExAt.nil _ _ _ _ _ _
  have hl : ExAt (fun k => k = w9.heap.size + 3) W exLess (some ⟨w1.heap.size + 1, 0, none⟩) := row2 (a := exX) (b := exOne) (c0 := 0) (c1 := 0) y1 (by omega) (hleaf _ _ _) (hleaf _ _ _)
  have htt : ExAt (fun k => k = w9.heap.size + 3) W exTest (some ⟨w1.heap.size + 5, 0, none⟩) := row2 (a := exX) (b := exOne) (c0 := 0) (c1 := 0) y5 (by omega) (hleaf _ _ _) (hleaf _ _ _)
  have ha : ExAt (fun k => k = w9.heap.size + 3) W exAgain (some ⟨w1.heap.size + 3, 0, none⟩) := row1 (a := exLess) (c0 := 2) y3 (by omega) hl
  have hi : ExAt (fun k => k = w9.heap.size + 3) W exIf (some ⟨q4, 0, none⟩) := row3 (a := exTest) (b := exDone) (c := exAgain) (c0 := 2) (c1 := 0) (c2 := 1) r9 (by omega) htt (hleaf _ _ _) ha
  have hbd : ExAt (fun k => k = w9.heap.size + 3) W (body [exIf]) (some ⟨w9.heap.size + 1, 0, none⟩) := row1 (a := exIf) (c0 := 3) F1 (by omega) hi
  refine ⟨_, w9.heap.size + 2, rfl, by omega, ⟨rfl, fun g hg e => by have := ht.lt g hg; have e : g = w9.heap.size + 3 := e; omega, ⟨by simp, fun x hx => by simp only [List.mem_singleton] at hx; subst hx; exact ⟨by decide, goodIf⟩⟩, ⟨by simp, fun b hb => by cases hb⟩⟩, ⟨F3, fun i hi => ?_, BindsAt.nil _ _ _, ht.b bW, by omega, fun k e => by have e : k = w9.heap.size + 3 := e; omega⟩, bW⟩
  match i, hi with
  | 0, _ =>
    refine ⟨⟨w9.heap.size + 2, 0, none⟩, some ⟨w9.heap.size, 0, none⟩, 1, some ⟨w9.heap.size + 1, 0, none⟩, 1, rfl, by show ¬ _ = w9.heap.size + 3; simp, ⟨block_cell (j := 0) F2 rfl, block_cell (j := 1) F2 rfl, block_cell (j := 2) F2 rfl⟩, fun k hk => ?_, hbd⟩
    match k, hk with
    | 0, _ => exact ⟨_, rfl, by show ¬ _ = w9.heap.size + 3; simp, block_cell (j := 0) F0 rfl⟩
set_option maxRecDepth 100000 in
set_option maxHeartbeats 8000000 in
theorem chain_c (w : World) (ht : Tab w) : Calls Tryz.prog 38 #[] w fun e w' => ∃ m g, e = .returned (.pointer (some ⟨m, 0, none⟩)) ∧ w.heap.size ≤ m ∧ CxOk (Xd m g) ∧ At (Xd m g) w' 100000 ∧ Below w.heap.size w w' := by
  have HT := Lib.hid ht
  clear ht
  have hx0 := heap_alloc_new w (.cells #[.int .i64 2, .int .i64 0, .int .i64 0, .string ⟨#[]⟩, .string ⟨#[120]⟩, .slice none 0 0] 65)
  have b0 := (Below.refl w.heap.size w).alloc (Nat.le_refl _) (.cells #[.int .i64 2, .int .i64 0, .int .i64 0, .string ⟨#[]⟩, .string ⟨#[120]⟩, .slice none 0 0] 65)
  go_enter Tryz.func38, Tryz.ntmps38
  go_wp2_with fail
  refine (rInt_c 1 _).mono ?_
  rintro e w1 ⟨rfl, q1⟩
  have hx1 := keepB hx0 q1
  have B1 := Lib.hid (b0.trans (q1.mono b0.size))
  have HX1 := Lib.hid hx1
  have L1 := Lib.hid (show w.heap.size < w1.heap.size from (Array.getElem?_eq_some_iff.1 hx1).1)
  have x0 := block_cell (j := 0) hx1 rfl
  have x1 := block_cell (j := 1) hx1 rfl
  have x2 := block_cell (j := 2) hx1 rfl
  have x3 := block_cell (j := 3) hx1 rfl
  have x4 := block_cell (j := 4) hx1 rfl
  have x5 := block_cell (j := 5) hx1 rfl
  have l1 := L1.out
  have hA : Below w1.heap.size w1 (((((w1.alloc (.cells #[.int .i64 1, .int .i64 1, .int .i64 1, .string ⟨#[]⟩, .string ⟨#[]⟩, .slice none 0 0] 65)).alloc (.cells #[.int .i64 2, .int .i64 0, .int .i64 0, .string ⟨#[]⟩, .string ⟨#[120]⟩, .slice none 0 0, .int .i64 1, .int .i64 1, .int .i64 1, .string ⟨#[]⟩, .string ⟨#[]⟩, .slice none 0 0] 65)).alloc (.cells #[.int .i64 4, .int .i64 0, .int .i64 0, .string ⟨#[]⟩, .string ⟨#[45]⟩, .slice (some ⟨w1.heap.size + 1, 0, none⟩) 2 2] 65)).alloc (.cells #[.int .i64 4, .int .i64 0, .int .i64 0, .string ⟨#[]⟩, .string ⟨#[45]⟩, .slice (some ⟨w1.heap.size + 1, 0, none⟩) 2 2] 65)).alloc (.cells #[.int .i64 4, .int .i64 0, .int .i64 0, .string ⟨#[]⟩, .string ⟨#[100, 111, 119, 110]⟩, .slice (some ⟨w1.heap.size + 3, 0, none⟩) 1 1] 65)) := allocL_below [(.cells #[.int .i64 1, .int .i64 1, .int .i64 1, .string ⟨#[]⟩, .string ⟨#[]⟩, .slice none 0 0] 65), (.cells #[.int .i64 2, .int .i64 0, .int .i64 0, .string ⟨#[]⟩, .string ⟨#[120]⟩, .slice none 0 0, .int .i64 1, .int .i64 1, .int .i64 1, .string ⟨#[]⟩, .string ⟨#[]⟩, .slice none 0 0] 65), (.cells #[.int .i64 4, .int .i64 0, .int .i64 0, .string ⟨#[]⟩, .string ⟨#[45]⟩, .slice (some ⟨w1.heap.size + 1, 0, none⟩) 2 2] 65), (.cells #[.int .i64 4, .int .i64 0, .int .i64 0, .string ⟨#[]⟩, .string ⟨#[45]⟩, .slice (some ⟨w1.heap.size + 1, 0, none⟩) 2 2] 65), (.cells #[.int .i64 4, .int .i64 0, .int .i64 0, .string ⟨#[]⟩, .string ⟨#[100, 111, 119, 110]⟩, .slice (some ⟨w1.heap.size + 3, 0, none⟩) 1 1] 65)] w1
  have hxA := keepB hx1 hA
  have hoA : (((((w1.alloc (.cells #[.int .i64 1, .int .i64 1, .int .i64 1, .string ⟨#[]⟩, .string ⟨#[]⟩, .slice none 0 0] 65)).alloc (.cells #[.int .i64 2, .int .i64 0, .int .i64 0, .string ⟨#[]⟩, .string ⟨#[120]⟩, .slice none 0 0, .int .i64 1, .int .i64 1, .int .i64 1, .string ⟨#[]⟩, .string ⟨#[]⟩, .slice none 0 0] 65)).alloc (.cells #[.int .i64 4, .int .i64 0, .int .i64 0, .string ⟨#[]⟩, .string ⟨#[45]⟩, .slice (some ⟨w1.heap.size + 1, 0, none⟩) 2 2] 65)).alloc (.cells #[.int .i64 4, .int .i64 0, .int .i64 0, .string ⟨#[]⟩, .string ⟨#[45]⟩, .slice (some ⟨w1.heap.size + 1, 0, none⟩) 2 2] 65)).alloc (.cells #[.int .i64 4, .int .i64 0, .int .i64 0, .string ⟨#[]⟩, .string ⟨#[100, 111, 119, 110]⟩, .slice (some ⟨w1.heap.size + 3, 0, none⟩) 1 1] 65)).heap[w1.heap.size]? = some (.cells #[.int .i64 1, .int .i64 1, .int .i64 1, .string ⟨#[]⟩, .string ⟨#[]⟩, .slice none 0 0] 65) := allocL_at [(.cells #[.int .i64 1, .int .i64 1, .int .i64 1, .string ⟨#[]⟩, .string ⟨#[]⟩, .slice none 0 0] 65), (.cells #[.int .i64 2, .int .i64 0, .int .i64 0, .string ⟨#[]⟩, .string ⟨#[120]⟩, .slice none 0 0, .int .i64 1, .int .i64 1, .int .i64 1, .string ⟨#[]⟩, .string ⟨#[]⟩, .slice none 0 0] 65), (.cells #[.int .i64 4, .int .i64 0, .int .i64 0, .string ⟨#[]⟩, .string ⟨#[45]⟩, .slice (some ⟨w1.heap.size + 1, 0, none⟩) 2 2] 65), (.cells #[.int .i64 4, .int .i64 0, .int .i64 0, .string ⟨#[]⟩, .string ⟨#[45]⟩, .slice (some ⟨w1.heap.size + 1, 0, none⟩) 2 2] 65), (.cells #[.int .i64 4, .int .i64 0, .int .i64 0, .string ⟨#[]⟩, .string ⟨#[100, 111, 119, 110]⟩, .slice (some ⟨w1.heap.size + 3, 0, none⟩) 1 1] 65)] w1 0 (by simp)
  have xa0 := block_cell (j := 0) hxA rfl
  have xa1 := block_cell (j := 1) hxA rfl
  have xa2 := block_cell (j := 2) hxA rfl
  have xa3 := block_cell (j := 3) hxA rfl
  have xa4 := block_cell (j := 4) hxA rfl
  have xa5 := block_cell (j := 5) hxA rfl
  have oa0 := block_cell (j := 0) hoA rfl
  have oa1 := block_cell (j := 1) hoA rfl
  have oa2 := block_cell (j := 2) hoA rfl
  have oa3 := block_cell (j := 3) hoA rfl
  have oa4 := block_cell (j := 4) hoA rfl
  have oa5 := block_cell (j := 5) hoA rfl
  clear hx0 b0 q1 hx1 hA hxA hoA
  go_wp2_with fail
  obtain ⟨w5, hw5⟩ : ∃ w5, (((((((w1.alloc (.cells #[.int .i64 1, .int .i64 1, .int .i64 1, .string ⟨#[]⟩, .string ⟨#[]⟩, .slice none 0 0] 65)).alloc (.cells #[.int .i64 2, .int .i64 0, .int .i64 0, .string ⟨#[]⟩, .string ⟨#[120]⟩, .slice none 0 0, .int .i64 1, .int .i64 1, .int .i64 1, .string ⟨#[]⟩, .string ⟨#[]⟩, .slice none 0 0] 65)).alloc (.cells #[.int .i64 4, .int .i64 0, .int .i64 0, .string ⟨#[]⟩, .string ⟨#[45]⟩, .slice (some ⟨w1.heap.size + 1, 0, none⟩) 2 2] 65)).alloc (.cells #[.int .i64 4, .int .i64 0, .int .i64 0, .string ⟨#[]⟩, .string ⟨#[45]⟩, .slice (some ⟨w1.heap.size + 1, 0, none⟩) 2 2] 65)).alloc (.cells #[.int .i64 4, .int .i64 0, .int .i64 0, .string ⟨#[]⟩, .string ⟨#[100, 111, 119, 110]⟩, .slice (some ⟨w1.heap.size + 3, 0, none⟩) 1 1] 65)).alloc (.cells #[.int .i64 2, .int .i64 0, .int .i64 0, .string ⟨#[]⟩, .string ⟨#[120]⟩, .slice none 0 0, .int .i64 1, .int .i64 1, .int .i64 1, .string ⟨#[]⟩, .string ⟨#[]⟩, .slice none 0 0] 65)).alloc (.cells #[.int .i64 4, .int .i64 0, .int .i64 0, .string ⟨#[]⟩, .string ⟨#[60]⟩, .slice (some ⟨w1.heap.size + 5, 0, none⟩) 2 2] 65)) = w5 := ⟨_, rfl⟩
  have hb5 : Below w1.heap.size w1 w5 := hw5 ▸ allocL_below [(.cells #[.int .i64 1, .int .i64 1, .int .i64 1, .string ⟨#[]⟩, .string ⟨#[]⟩, .slice none 0 0] 65), (.cells #[.int .i64 2, .int .i64 0, .int .i64 0, .string ⟨#[]⟩, .string ⟨#[120]⟩, .slice none 0 0, .int .i64 1, .int .i64 1, .int .i64 1, .string ⟨#[]⟩, .string ⟨#[]⟩, .slice none 0 0] 65), (.cells #[.int .i64 4, .int .i64 0, .int .i64 0, .string ⟨#[]⟩, .string ⟨#[45]⟩, .slice (some ⟨w1.heap.size + 1, 0, none⟩) 2 2] 65), (.cells #[.int .i64 4, .int .i64 0, .int .i64 0, .string ⟨#[]⟩, .string ⟨#[45]⟩, .slice (some ⟨w1.heap.size + 1, 0, none⟩) 2 2] 65), (.cells #[.int .i64 4, .int .i64 0, .int .i64 0, .string ⟨#[]⟩, .string ⟨#[100, 111, 119, 110]⟩, .slice (some ⟨w1.heap.size + 3, 0, none⟩) 1 1] 65), (.cells #[.int .i64 2, .int .i64 0, .int .i64 0, .string ⟨#[]⟩, .string ⟨#[120]⟩, .slice none 0 0, .int .i64 1, .int .i64 1, .int .i64 1, .string ⟨#[]⟩, .string ⟨#[]⟩, .slice none 0 0] 65), (.cells #[.int .i64 4, .int .i64 0, .int .i64 0, .string ⟨#[]⟩, .string ⟨#[60]⟩, .slice (some ⟨w1.heap.size + 5, 0, none⟩) 2 2] 65)] w1
  have Y0 := Lib.hid (show w5.heap[w1.heap.size + 0]? = some (.cells #[.int .i64 1, .int .i64 1, .int .i64 1, .string ⟨#[]⟩, .string ⟨#[]⟩, .slice none 0 0] 65) from hw5 ▸ allocL_at [(.cells #[.int .i64 1, .int .i64 1, .int .i64 1, .string ⟨#[]⟩, .string ⟨#[]⟩, .slice none 0 0] 65), (.cells #[.int .i64 2, .int .i64 0, .int .i64 0, .string ⟨#[]⟩, .string ⟨#[120]⟩, .slice none 0 0, .int .i64 1, .int .i64 1, .int .i64 1, .string ⟨#[]⟩, .string ⟨#[]⟩, .slice none 0 0] 65), (.cells #[.int .i64 4, .int .i64 0, .int .i64 0, .string ⟨#[]⟩, .string ⟨#[45]⟩, .slice (some ⟨w1.heap.size + 1, 0, none⟩) 2 2] 65), (.cells #[.int .i64 4, .int .i64 0, .int .i64 0, .string ⟨#[]⟩, .string ⟨#[45]⟩, .slice (some ⟨w1.heap.size + 1, 0, none⟩) 2 2] 65), (.cells #[.int .i64 4, .int .i64 0, .int .i64 0, .string ⟨#[]⟩, .string ⟨#[100, 111, 119, 110]⟩, .slice (some ⟨w1.heap.size + 3, 0, none⟩) 1 1] 65), (.cells #[.int .i64 2, .int .i64 0, .int .i64 0, .string ⟨#[]⟩, .string ⟨#[120]⟩, .slice none 0 0, .int .i64 1, .int .i64 1, .int .i64 1, .string ⟨#[]⟩, .string ⟨#[]⟩, .slice none 0 0] 65), (.cells #[.int .i64 4, .int .i64 0, .int .i64 0, .string ⟨#[]⟩, .string ⟨#[60]⟩, .slice (some ⟨w1.heap.size + 5, 0, none⟩) 2 2] 65)] w1 0 (by simp))
  have Y1 := Lib.hid (show w5.heap[w1.heap.size + 1]? = some (.cells #[.int .i64 2, .int .i64 0, .int .i64 0, .string ⟨#[]⟩, .string ⟨#[120]⟩, .slice none 0 0, .int .i64 1, .int .i64 1, .int .i64 1, .string ⟨#[]⟩, .string ⟨#[]⟩, .slice none 0 0] 65) from hw5 ▸ allocL_at [(.cells #[.int .i64 1, .int .i64 1, .int .i64 1, .string ⟨#[]⟩, .string ⟨#[]⟩, .slice none 0 0] 65), (.cells #[.int .i64 2, .int .i64 0, .int .i64 0, .string ⟨#[]⟩, .string ⟨#[120]⟩, .slice none 0 0, .int .i64 1, .int .i64 1, .int .i64 1, .string ⟨#[]⟩, .string ⟨#[]⟩, .slice none 0 0] 65), (.cells #[.int .i64 4, .int .i64 0, .int .i64 0, .string ⟨#[]⟩, .string ⟨#[45]⟩, .slice (some ⟨w1.heap.size + 1, 0, none⟩) 2 2] 65), (.cells #[.int .i64 4, .int .i64 0, .int .i64 0, .string ⟨#[]⟩, .string ⟨#[45]⟩, .slice (some ⟨w1.heap.size + 1, 0, none⟩) 2 2] 65), (.cells #[.int .i64 4, .int .i64 0, .int .i64 0, .string ⟨#[]⟩, .string ⟨#[100, 111, 119, 110]⟩, .slice (some ⟨w1.heap.size + 3, 0, none⟩) 1 1] 65), (.cells #[.int .i64 2, .int .i64 0, .int .i64 0, .string ⟨#[]⟩, .string ⟨#[120]⟩, .slice none 0 0, .int .i64 1, .int .i64 1, .int .i64 1, .string ⟨#[]⟩, .string ⟨#[]⟩, .slice none 0 0] 65), (.cells #[.int .i64 4, .int .i64 0, .int .i64 0, .string ⟨#[]⟩, .string ⟨#[60]⟩, .slice (some ⟨w1.heap.size + 5, 0, none⟩) 2 2] 65)] w1 1 (by simp))
  have Y2 := Lib.hid (show w5.heap[w1.heap.size + 2]? = some (.cells #[.int .i64 4, .int .i64 0, .int .i64 0, .string ⟨#[]⟩, .string ⟨#[45]⟩, .slice (some ⟨w1.heap.size + 1, 0, none⟩) 2 2] 65) from hw5 ▸ allocL_at [(.cells #[.int .i64 1, .int .i64 1, .int .i64 1, .string ⟨#[]⟩, .string ⟨#[]⟩, .slice none 0 0] 65), (.cells #[.int .i64 2, .int .i64 0, .int .i64 0, .string ⟨#[]⟩, .string ⟨#[120]⟩, .slice none 0 0, .int .i64 1, .int .i64 1, .int .i64 1, .string ⟨#[]⟩, .string ⟨#[]⟩, .slice none 0 0] 65), (.cells #[.int .i64 4, .int .i64 0, .int .i64 0, .string ⟨#[]⟩, .string ⟨#[45]⟩, .slice (some ⟨w1.heap.size + 1, 0, none⟩) 2 2] 65), (.cells #[.int .i64 4, .int .i64 0, .int .i64 0, .string ⟨#[]⟩, .string ⟨#[45]⟩, .slice (some ⟨w1.heap.size + 1, 0, none⟩) 2 2] 65), (.cells #[.int .i64 4, .int .i64 0, .int .i64 0, .string ⟨#[]⟩, .string ⟨#[100, 111, 119, 110]⟩, .slice (some ⟨w1.heap.size + 3, 0, none⟩) 1 1] 65), (.cells #[.int .i64 2, .int .i64 0, .int .i64 0, .string ⟨#[]⟩, .string ⟨#[120]⟩, .slice none 0 0, .int .i64 1, .int .i64 1, .int .i64 1, .string ⟨#[]⟩, .string ⟨#[]⟩, .slice none 0 0] 65), (.cells #[.int .i64 4, .int .i64 0, .int .i64 0, .string ⟨#[]⟩, .string ⟨#[60]⟩, .slice (some ⟨w1.heap.size + 5, 0, none⟩) 2 2] 65)] w1 2 (by simp))
  have Y3 := Lib.hid (show w5.heap[w1.heap.size + 3]? = some (.cells #[.int .i64 4, .int .i64 0, .int .i64 0, .string ⟨#[]⟩, .string ⟨#[45]⟩, .slice (some ⟨w1.heap.size + 1, 0, none⟩) 2 2] 65) from hw5 ▸ allocL_at [(.cells #[.int .i64 1, .int .i64 1, .int .i64 1, .string ⟨#[]⟩, .string ⟨#[]⟩, .slice none 0 0] 65), (.cells #[.int .i64 2, .int .i64 0, .int .i64 0, .string ⟨#[]⟩, .string ⟨#[120]⟩, .slice none 0 0, .int .i64 1, .int .i64 1, .int .i64 1, .string ⟨#[]⟩, .string ⟨#[]⟩, .slice none 0 0] 65), (.cells #[.int .i64 4, .int .i64 0, .int .i64 0, .string ⟨#[]⟩, .string ⟨#[45]⟩, .slice (some ⟨w1.heap.size + 1, 0, none⟩) 2 2] 65), (.cells #[.int .i64 4, .int .i64 0, .int .i64 0, .string ⟨#[]⟩, .string ⟨#[45]⟩, .slice (some ⟨w1.heap.size + 1, 0, none⟩) 2 2] 65), (.cells #[.int .i64 4, .int .i64 0, .int .i64 0, .string ⟨#[]⟩, .string ⟨#[100, 111, 119, 110]⟩, .slice (some ⟨w1.heap.size + 3, 0, none⟩) 1 1] 65), (.cells #[.int .i64 2, .int .i64 0, .int .i64 0, .string ⟨#[]⟩, .string ⟨#[120]⟩, .slice none 0 0, .int .i64 1, .int .i64 1, .int .i64 1, .string ⟨#[]⟩, .string ⟨#[]⟩, .slice none 0 0] 65), (.cells #[.int .i64 4, .int .i64 0, .int .i64 0, .string ⟨#[]⟩, .string ⟨#[60]⟩, .slice (some ⟨w1.heap.size + 5, 0, none⟩) 2 2] 65)] w1 3 (by simp))
  have Y4 := Lib.hid (show w5.heap[w1.heap.size + 4]? = some (.cells #[.int .i64 4, .int .i64 0, .int .i64 0, .string ⟨#[]⟩, .string ⟨#[100, 111, 119, 110]⟩, .slice (some ⟨w1.heap.size + 3, 0, none⟩) 1 1] 65) from hw5 ▸ allocL_at [(.cells #[.int .i64 1, .int .i64 1, .int .i64 1, .string ⟨#[]⟩, .string ⟨#[]⟩, .slice none 0 0] 65), (.cells #[.int .i64 2, .int .i64 0, .int .i64 0, .string ⟨#[]⟩, .string ⟨#[120]⟩, .slice none 0 0, .int .i64 1, .int .i64 1, .int .i64 1, .string ⟨#[]⟩, .string ⟨#[]⟩, .slice none 0 0] 65), (.cells #[.int .i64 4, .int .i64 0, .int .i64 0, .string ⟨#[]⟩, .string ⟨#[45]⟩, .slice (some ⟨w1.heap.size + 1, 0, none⟩) 2 2] 65), (.cells #[.int .i64 4, .int .i64 0, .int .i64 0, .string ⟨#[]⟩, .string ⟨#[45]⟩, .slice (some ⟨w1.heap.size + 1, 0, none⟩) 2 2] 65), (.cells #[.int .i64 4, .int .i64 0, .int .i64 0, .string ⟨#[]⟩, .string ⟨#[100, 111, 119, 110]⟩, .slice (some ⟨w1.heap.size + 3, 0, none⟩) 1 1] 65), (.cells #[.int .i64 2, .int .i64 0, .int .i64 0, .string ⟨#[]⟩, .string ⟨#[120]⟩, .slice none 0 0, .int .i64 1, .int .i64 1, .int .i64 1, .string ⟨#[]⟩, .string ⟨#[]⟩, .slice none 0 0] 65), (.cells #[.int .i64 4, .int .i64 0, .int .i64 0, .string ⟨#[]⟩, .string ⟨#[60]⟩, .slice (some ⟨w1.heap.size + 5, 0, none⟩) 2 2] 65)] w1 4 (by simp))
  have Y5 := Lib.hid (show w5.heap[w1.heap.size + 5]? = some (.cells #[.int .i64 2, .int .i64 0, .int .i64 0, .string ⟨#[]⟩, .string ⟨#[120]⟩, .slice none 0 0, .int .i64 1, .int .i64 1, .int .i64 1, .string ⟨#[]⟩, .string ⟨#[]⟩, .slice none 0 0] 65) from hw5 ▸ allocL_at [(.cells #[.int .i64 1, .int .i64 1, .int .i64 1, .string ⟨#[]⟩, .string ⟨#[]⟩, .slice none 0 0] 65), (.cells #[.int .i64 2, .int .i64 0, .int .i64 0, .string ⟨#[]⟩, .string ⟨#[120]⟩, .slice none 0 0, .int .i64 1, .int .i64 1, .int .i64 1, .string ⟨#[]⟩, .string ⟨#[]⟩, .slice none 0 0] 65), (.cells #[.int .i64 4, .int .i64 0, .int .i64 0, .string ⟨#[]⟩, .string ⟨#[45]⟩, .slice (some ⟨w1.heap.size + 1, 0, none⟩) 2 2] 65), (.cells #[.int .i64 4, .int .i64 0, .int .i64 0, .string ⟨#[]⟩, .string ⟨#[45]⟩, .slice (some ⟨w1.heap.size + 1, 0, none⟩) 2 2] 65), (.cells #[.int .i64 4, .int .i64 0, .int .i64 0, .string ⟨#[]⟩, .string ⟨#[100, 111, 119, 110]⟩, .slice (some ⟨w1.heap.size + 3, 0, none⟩) 1 1] 65), (.cells #[.int .i64 2, .int .i64 0, .int .i64 0, .string ⟨#[]⟩, .string ⟨#[120]⟩, .slice none 0 0, .int .i64 1, .int .i64 1, .int .i64 1, .string ⟨#[]⟩, .string ⟨#[]⟩, .slice none 0 0] 65), (.cells #[.int .i64 4, .int .i64 0, .int .i64 0, .string ⟨#[]⟩, .string ⟨#[60]⟩, .slice (some ⟨w1.heap.size + 5, 0, none⟩) 2 2] 65)] w1 5 (by simp))
  have Y6 := Lib.hid (show w5.heap[w1.heap.size + 6]? = some (.cells #[.int .i64 4, .int .i64 0, .int .i64 0, .string ⟨#[]⟩, .string ⟨#[60]⟩, .slice (some ⟨w1.heap.size + 5, 0, none⟩) 2 2] 65) from hw5 ▸ allocL_at [(.cells #[.int .i64 1, .int .i64 1, .int .i64 1, .string ⟨#[]⟩, .string ⟨#[]⟩, .slice none 0 0] 65), (.cells #[.int .i64 2, .int .i64 0, .int .i64 0, .string ⟨#[]⟩, .string ⟨#[120]⟩, .slice none 0 0, .int .i64 1, .int .i64 1, .int .i64 1, .string ⟨#[]⟩, .string ⟨#[]⟩, .slice none 0 0] 65), (.cells #[.int .i64 4, .int .i64 0, .int .i64 0, .string ⟨#[]⟩, .string ⟨#[45]⟩, .slice (some ⟨w1.heap.size + 1, 0, none⟩) 2 2] 65), (.cells #[.int .i64 4, .int .i64 0, .int .i64 0, .string ⟨#[]⟩, .string ⟨#[45]⟩, .slice (some ⟨w1.heap.size + 1, 0, none⟩) 2 2] 65), (.cells #[.int .i64 4, .int .i64 0, .int .i64 0, .string ⟨#[]⟩, .string ⟨#[100, 111, 119, 110]⟩, .slice (some ⟨w1.heap.size + 3, 0, none⟩) 1 1] 65), (.cells #[.int .i64 2, .int .i64 0, .int .i64 0, .string ⟨#[]⟩, .string ⟨#[120]⟩, .slice none 0 0, .int .i64 1, .int .i64 1, .int .i64 1, .string ⟨#[]⟩, .string ⟨#[]⟩, .slice none 0 0] 65), (.cells #[.int .i64 4, .int .i64 0, .int .i64 0, .string ⟨#[]⟩, .string ⟨#[60]⟩, .slice (some ⟨w1.heap.size + 5, 0, none⟩) 2 2] 65)] w1 6 (by simp))
  have B5 := Lib.hid (B1.out.trans (hb5.mono B1.out.size))
  have HX5 := Lib.hid (keepB HX1.out hb5)
  have HS : Hid (∀ W, Below w5.heap.size w5 W → (fun W => Below w5.heap.size w5 W ∧ W.cell? ⟨w1.heap.size + 6, 0, none⟩ = some (.int .i64 4) ∧ W.cell? ⟨w1.heap.size + 6, 1, none⟩ = some (.int .i64 0) ∧ W.cell? ⟨w1.heap.size + 6, 2, none⟩ = some (.int .i64 0) ∧ W.cell? ⟨w1.heap.size + 6, 3, none⟩ = some (.string ⟨#[]⟩) ∧ W.cell? ⟨w1.heap.size + 6, 4, none⟩ = some (.string ⟨#[60]⟩) ∧ W.cell? ⟨w1.heap.size + 6, 5, none⟩ = some (.slice (some ⟨w1.heap.size + 5, 0, none⟩) 2 2) ∧ W.cell? ⟨w1.heap.size + 4, 0, none⟩ = some (.int .i64 4) ∧ W.cell? ⟨w1.heap.size + 4, 1, none⟩ = some (.int .i64 0) ∧ W.cell? ⟨w1.heap.size + 4, 2, none⟩ = some (.int .i64 0) ∧ W.cell? ⟨w1.heap.size + 4, 3, none⟩ = some (.string ⟨#[]⟩) ∧ W.cell? ⟨w1.heap.size + 4, 4, none⟩ = some (.string ⟨#[100, 111, 119, 110]⟩) ∧ W.cell? ⟨w1.heap.size + 4, 5, none⟩ = some (.slice (some ⟨w1.heap.size + 3, 0, none⟩) 1 1)) W) := Lib.hid (fun W h => by
    have y6 := keepB Y6.out h
    have y4 := keepB Y4.out h
    exact ⟨h, block_cell y6 rfl, block_cell y6 rfl, block_cell y6 rfl, block_cell y6 rfl, block_cell y6 rfl, block_cell y6 rfl, block_cell y4 rfl, block_cell y4 rfl, block_cell y4 rfl, block_cell y4 rfl, block_cell y4 rfl, block_cell y4 rfl⟩)
  have D5 : Hid (Below w5.heap.size w5 w5.drew) := Lib.hid ⟨rfl, rfl, rfl, Nat.le_refl _, fun _ _ => rfl⟩
  first | rw [hw5] | skip
  clear hw5 hb5 x0 x1 x2 x3 x4 x5 xa0 xa1 xa2 xa3 xa4 xa5 oa0 oa1 oa2 oa3 oa4 oa5
  refine wp_region_held_drew (S := (fun W => Below w5.heap.size w5 W ∧ W.cell? ⟨w1.heap.size + 6, 0, none⟩ = some (.int .i64 4) ∧ W.cell? ⟨w1.heap.size + 6, 1, none⟩ = some (.int .i64 0) ∧ W.cell? ⟨w1.heap.size + 6, 2, none⟩ = some (.int .i64 0) ∧ W.cell? ⟨w1.heap.size + 6, 3, none⟩ = some (.string ⟨#[]⟩) ∧ W.cell? ⟨w1.heap.size + 6, 4, none⟩ = some (.string ⟨#[60]⟩) ∧ W.cell? ⟨w1.heap.size + 6, 5, none⟩ = some (.slice (some ⟨w1.heap.size + 5, 0, none⟩) 2 2) ∧ W.cell? ⟨w1.heap.size + 4, 0, none⟩ = some (.int .i64 4) ∧ W.cell? ⟨w1.heap.size + 4, 1, none⟩ = some (.int .i64 0) ∧ W.cell? ⟨w1.heap.size + 4, 2, none⟩ = some (.int .i64 0) ∧ W.cell? ⟨w1.heap.size + 4, 3, none⟩ = some (.string ⟨#[]⟩) ∧ W.cell? ⟨w1.heap.size + 4, 4, none⟩ = some (.string ⟨#[100, 111, 119, 110]⟩) ∧ W.cell? ⟨w1.heap.size + 4, 5, none⟩ = some (.slice (some ⟨w1.heap.size + 3, 0, none⟩) 1 1))) (by kernel_rfl) (HS.out _ D5.out) (fun hHeld => ?_)
  generalize w5.drew = vv0 at D5 hHeld ⊢
  refine wpAnyH_take (i := 0) (oi := ⟨_, _, _, _, _, _⟩) (v := ?_) rfl (by kernel_rfl) (by kernel_rfl) (by kernel_rfl) (fun _ _ _ h => h) (Or.inl ⟨by rfl, ?_⟩) (by assumption) ?_
  rotate_left
  · intro w' hSw; (try dsimp only at hSw); go_simp; (try with_reducible rfl)
  try simp only [Act.put, List.setIfInBounds_toArray, List.set_cons_zero, List.set_cons_succ]
  refine wpAnyH_take (i := 3) (oi := ⟨_, _, _, _, _, _⟩) (v := ?_) rfl (by kernel_rfl) (by kernel_rfl) (by kernel_rfl) (fun _ _ _ h => h) (Or.inl ⟨by rfl, ?_⟩) (by assumption) ?_
  rotate_left
  · intro w' hSw; (try dsimp only at hSw); go_simp; (try with_reducible rfl)
  try simp only [Act.put, List.setIfInBounds_toArray, List.set_cons_zero, List.set_cons_succ]
  refine wpAnyH_ready (rs := [1, 6]) (by kernel_rfl) (by simp) ?_
  refine AllReadyH.cons (o := ⟨_, _, _, _, _, _⟩) rfl (fun K9 hK9 => ?_) (AllReadyH.cons (o := ⟨_, _, _, _, _, _⟩) rfl (fun K9 hK9 => ?_) (AllReadyH.nil))
  · go_simp
    (with_reducible refine (rSym_c ⟨#[100, 111, 110, 101]⟩ _).mono ?_)
    rintro e vv1 ⟨rfl, q⟩
    have B2 := Lib.hid (D5.out.trans (q.mono D5.out.size))
    clear q
    go_wp2_with fail
    refine hK9.out _ _ (HS.out _ B2.out) (fun hHeld => ?_)
    clear hK9 K9
    try simp only [Act.put, List.setIfInBounds_toArray, List.set_cons_zero, List.set_cons_succ]
    refine wpAnyH_take (i := 2) (oi := ⟨_, _, _, _, _, _⟩) (v := ?_) rfl (by kernel_rfl) (by kernel_rfl) (by kernel_rfl) (fun _ _ _ h => h) (Or.inl ⟨by rfl, ?_⟩) (by assumption) ?_
    rotate_left
    · intro w' hSw; (try dsimp only at hSw); go_simp; (try with_reducible rfl)
    try simp only [Act.put, List.setIfInBounds_toArray, List.set_cons_zero, List.set_cons_succ]
    refine wpAnyH_ready (rs := [4, 6]) (by kernel_rfl) (by simp) ?_
    refine AllReadyH.cons (o := ⟨_, _, _, _, _, _⟩) rfl (fun K9 hK9 => ?_) (AllReadyH.cons (o := ⟨_, _, _, _, _, _⟩) rfl (fun K9 hK9 => ?_) (AllReadyH.nil))
    · go_simp
      go_wp2_with fail
      have B4 := Lib.hid (B2.out.alloc B2.out.size (.cells #[.int .i64 4, .int .i64 0, .int .i64 0, .string ⟨#[]⟩, .string ⟨#[60]⟩, .slice (some ⟨w1.heap.size + 5, 0, none⟩) 2 2, .int .i64 1, .int .i64 2, .int .i64 0, .string ⟨#[100, 111, 110, 101]⟩, .string ⟨#[]⟩, .slice none 0 0, .int .i64 4, .int .i64 0, .int .i64 0, .string ⟨#[]⟩, .string ⟨#[100, 111, 119, 110]⟩, .slice (some ⟨w1.heap.size + 3, 0, none⟩) 1 1] 65))
      have E5 := Lib.hid (heap_alloc_new vv1 (.cells #[.int .i64 4, .int .i64 0, .int .i64 0, .string ⟨#[]⟩, .string ⟨#[60]⟩, .slice (some ⟨w1.heap.size + 5, 0, none⟩) 2 2, .int .i64 1, .int .i64 2, .int .i64 0, .string ⟨#[100, 111, 110, 101]⟩, .string ⟨#[]⟩, .slice none 0 0, .int .i64 4, .int .i64 0, .int .i64 0, .string ⟨#[]⟩, .string ⟨#[100, 111, 119, 110]⟩, .slice (some ⟨w1.heap.size + 3, 0, none⟩) 1 1] 65))
      generalize (vv1).alloc (.cells #[.int .i64 4, .int .i64 0, .int .i64 0, .string ⟨#[]⟩, .string ⟨#[60]⟩, .slice (some ⟨w1.heap.size + 5, 0, none⟩) 2 2, .int .i64 1, .int .i64 2, .int .i64 0, .string ⟨#[100, 111, 110, 101]⟩, .string ⟨#[]⟩, .slice none 0 0, .int .i64 4, .int .i64 0, .int .i64 0, .string ⟨#[]⟩, .string ⟨#[100, 111, 119, 110]⟩, .slice (some ⟨w1.heap.size + 3, 0, none⟩) 1 1] 65) = vv3 at B4 E5 ⊢
      refine hK9.out _ _ (HS.out _ B4.out) (fun hHeld => ?_)
      clear hK9 K9
      try simp only [Act.put, List.setIfInBounds_toArray, List.set_cons_zero, List.set_cons_succ]
      refine wpAnyH_take (i := 5) (oi := ⟨_, _, _, _, _, _⟩) (v := ?_) rfl (by kernel_rfl) (by kernel_rfl) (by kernel_rfl) (fun _ _ _ h => h) (Or.inl ⟨by rfl, ?_⟩) (by assumption) ?_
      rotate_left
      · intro w' hSw; (try dsimp only at hSw); go_simp; (try with_reducible rfl)
      try simp only [Act.put, List.setIfInBounds_toArray, List.set_cons_zero, List.set_cons_succ]
      refine wpAnyH_ready (rs := [6]) (by kernel_rfl) (by simp) ?_
      refine AllReadyH.cons (o := ⟨_, _, _, _, _, _⟩) rfl (fun K9 hK9 => ?_) (AllReadyH.nil)
      · go_simp
        go_wp2_with fail
        have B7 := Lib.hid (B4.out.alloc B4.out.size (.cells #[.int .i64 0, .int .i64 0, .int .i64 0, .string ⟨#[]⟩, .string ⟨#[]⟩, .slice none 0 0] 65))
        have X8 := Lib.hid (heap_alloc_new vv3 (.cells #[.int .i64 0, .int .i64 0, .int .i64 0, .string ⟨#[]⟩, .string ⟨#[]⟩, .slice none 0 0] 65))
        have E9 := Lib.hid ((Below.heap_alloc vv3 (.cells #[.int .i64 0, .int .i64 0, .int .i64 0, .string ⟨#[]⟩, .string ⟨#[]⟩, .slice none 0 0] 65) _ (Array.getElem?_eq_some_iff.1 E5.out).1).trans E5.out)
        have lvv6 := B4.out.size
        generalize (vv3).alloc (.cells #[.int .i64 0, .int .i64 0, .int .i64 0, .string ⟨#[]⟩, .string ⟨#[]⟩, .slice none 0 0] 65) = vv6 at B7 X8 E9 ⊢
        refine hK9.out _ _ (HS.out _ B7.out) (fun hHeld => ?_)
        clear hK9 K9
        try simp only [Act.put, List.setIfInBounds_toArray, List.set_cons_zero, List.set_cons_succ]
        refine wpAnyH_ready (rs := [7]) (by kernel_rfl) (by simp) ?_
        refine AllReadyH.cons (o := ⟨_, _, _, _, _, _⟩) rfl (fun K9 hK9 => ?_) (AllReadyH.nil)
        · have d0 := block_cell (j := 0) X8.out rfl
          have d1 := block_cell (j := 1) X8.out rfl
          have d2 := block_cell (j := 2) X8.out rfl
          have d3 := block_cell (j := 3) X8.out rfl
          have d4 := block_cell (j := 4) X8.out rfl
          have d5 := block_cell (j := 5) X8.out rfl
          have f0 := fun j => block_free (j := j) X8.out
          have hne : (vv1).heap.size ≠ (vv3).heap.size := by
            intro e
            have h1 := E9.out
            rw [e, X8.out] at h1
            simp at h1
          have R9 := Lib.hid (keepNe E9.out (((((((Keep.refl (fun k => k = (vv3).heap.size) vv6).setCell (p := ⟨(vv3).heap.size, 0, none⟩) (.inl rfl) (.int .i64 5)).setCell (p := ⟨(vv3).heap.size, 1, none⟩) (.inl rfl) (.int .i64 0)).setCell (p := ⟨(vv3).heap.size, 2, none⟩) (.inl rfl) (.int .i64 0)).setCell (p := ⟨(vv3).heap.size, 3, none⟩) (.inl rfl) (.string ⟨#[]⟩)).setCell (p := ⟨(vv3).heap.size, 4, none⟩) (.inl rfl) (.string ⟨#[]⟩)).setCell (p := ⟨(vv3).heap.size, 5, none⟩) (.inl rfl) (.slice (some ⟨(vv1).heap.size, 0, none⟩) 3 3)) hne)
          have P9 := Lib.hid (block_set (block_set (block_set (block_set (block_set (block_set X8.out (j := 0) (.int .i64 5)) (j := 1) (.int .i64 0)) (j := 2) (.int .i64 0)) (j := 3) (.string ⟨#[]⟩)) (j := 4) (.string ⟨#[]⟩)) (j := 5) (.slice (some ⟨(vv1).heap.size, 0, none⟩) 3 3))
          have B9 := Lib.hid ((((((B7.out.setCell (p := ⟨(vv3).heap.size, 0, none⟩) (by show _ ≤ (vv3).heap.size; omega) (.int .i64 5)).setCell (p := ⟨(vv3).heap.size, 1, none⟩) (by show _ ≤ (vv3).heap.size; omega) (.int .i64 0)).setCell (p := ⟨(vv3).heap.size, 2, none⟩) (by show _ ≤ (vv3).heap.size; omega) (.int .i64 0)).setCell (p := ⟨(vv3).heap.size, 3, none⟩) (by show _ ≤ (vv3).heap.size; omega) (.string ⟨#[]⟩)).setCell (p := ⟨(vv3).heap.size, 4, none⟩) (by show _ ≤ (vv3).heap.size; omega) (.string ⟨#[]⟩)).setCell (p := ⟨(vv3).heap.size, 5, none⟩) (by show _ ≤ (vv3).heap.size; omega) (.slice (some ⟨(vv1).heap.size, 0, none⟩) 3 3))
          go_simp
          go_wp2_with fail
          generalize ((((((vv6.setCell ⟨(vv3).heap.size, 0, none⟩ (.int .i64 5)).setCell ⟨(vv3).heap.size, 1, none⟩ (.int .i64 0)).setCell ⟨(vv3).heap.size, 2, none⟩ (.int .i64 0)).setCell ⟨(vv3).heap.size, 3, none⟩ (.string ⟨#[]⟩)).setCell ⟨(vv3).heap.size, 4, none⟩ (.string ⟨#[]⟩)).setCell ⟨(vv3).heap.size, 5, none⟩ (.slice (some ⟨(vv1).heap.size, 0, none⟩) 3 3)) = w9 at R9 P9 B9 ⊢
          clear d0 d1 d2 d3 d4 d5 f0 hne
          refine hK9.out _ _ (HS.out _ B9.out) (fun hHeld => ?_)
          clear hK9 K9
          try simp only [Act.put, List.setIfInBounds_toArray, List.set_cons_zero, List.set_cons_succ]
          refine wpAnyH_done (by kernel_rfl) ?_ _
          generalize hq4 : ((vv1).heap.size) = q4 at *
          generalize hp6 : ((vv3).heap.size) = p6 at *
          have z0 := block_cell (j := 0) P9.out rfl
          have z1 := block_cell (j := 1) P9.out rfl
          have z2 := block_cell (j := 2) P9.out rfl
          have z3 := block_cell (j := 3) P9.out rfl
          have z4 := block_cell (j := 4) P9.out rfl
          have z5 := block_cell (j := 5) P9.out rfl
          have lp : p6 < w9.heap.size := (Array.getElem?_eq_some_iff.1 P9.out).1
          clear hHeld
          go_wp2_with fail
          go_ret
          exact chain_end w w1 w5 w9 q4 HT.out B1.out B5.out L1.out HX5.out Y1.out Y3.out Y5.out B9.out R9.out
    · go_simp
      go_wp2_with fail
      have B11 := Lib.hid (B2.out.alloc B2.out.size (.cells #[.int .i64 0, .int .i64 0, .int .i64 0, .string ⟨#[]⟩, .string ⟨#[]⟩, .slice none 0 0] 65))
      have X12 := Lib.hid (heap_alloc_new vv1 (.cells #[.int .i64 0, .int .i64 0, .int .i64 0, .string ⟨#[]⟩, .string ⟨#[]⟩, .slice none 0 0] 65))
      have lvv10 := B2.out.size
      generalize (vv1).alloc (.cells #[.int .i64 0, .int .i64 0, .int .i64 0, .string ⟨#[]⟩, .string ⟨#[]⟩, .slice none 0 0] 65) = vv10 at B11 X12 ⊢
      refine hK9.out _ _ (HS.out _ B11.out) (fun hHeld => ?_)
      clear hK9 K9
      try simp only [Act.put, List.setIfInBounds_toArray, List.set_cons_zero, List.set_cons_succ]
      refine wpAnyH_ready (rs := [4]) (by kernel_rfl) (by simp) ?_
      refine AllReadyH.cons (o := ⟨_, _, _, _, _, _⟩) rfl (fun K9 hK9 => ?_) (AllReadyH.nil)
      · go_simp
        go_wp2_with fail
        have B14 := Lib.hid (B11.out.alloc B11.out.size (.cells #[.int .i64 4, .int .i64 0, .int .i64 0, .string ⟨#[]⟩, .string ⟨#[60]⟩, .slice (some ⟨w1.heap.size + 5, 0, none⟩) 2 2, .int .i64 1, .int .i64 2, .int .i64 0, .string ⟨#[100, 111, 110, 101]⟩, .string ⟨#[]⟩, .slice none 0 0, .int .i64 4, .int .i64 0, .int .i64 0, .string ⟨#[]⟩, .string ⟨#[100, 111, 119, 110]⟩, .slice (some ⟨w1.heap.size + 3, 0, none⟩) 1 1] 65))
        have E15 := Lib.hid (heap_alloc_new vv10 (.cells #[.int .i64 4, .int .i64 0, .int .i64 0, .string ⟨#[]⟩, .string ⟨#[60]⟩, .slice (some ⟨w1.heap.size + 5, 0, none⟩) 2 2, .int .i64 1, .int .i64 2, .int .i64 0, .string ⟨#[100, 111, 110, 101]⟩, .string ⟨#[]⟩, .slice none 0 0, .int .i64 4, .int .i64 0, .int .i64 0, .string ⟨#[]⟩, .string ⟨#[100, 111, 119, 110]⟩, .slice (some ⟨w1.heap.size + 3, 0, none⟩) 1 1] 65))
        have X16 := Lib.hid ((Below.heap_alloc vv10 (.cells #[.int .i64 4, .int .i64 0, .int .i64 0, .string ⟨#[]⟩, .string ⟨#[60]⟩, .slice (some ⟨w1.heap.size + 5, 0, none⟩) 2 2, .int .i64 1, .int .i64 2, .int .i64 0, .string ⟨#[100, 111, 110, 101]⟩, .string ⟨#[]⟩, .slice none 0 0, .int .i64 4, .int .i64 0, .int .i64 0, .string ⟨#[]⟩, .string ⟨#[100, 111, 119, 110]⟩, .slice (some ⟨w1.heap.size + 3, 0, none⟩) 1 1] 65) _ (Array.getElem?_eq_some_iff.1 X12.out).1).trans X12.out)
        generalize (vv10).alloc (.cells #[.int .i64 4, .int .i64 0, .int .i64 0, .string ⟨#[]⟩, .string ⟨#[60]⟩, .slice (some ⟨w1.heap.size + 5, 0, none⟩) 2 2, .int .i64 1, .int .i64 2, .int .i64 0, .string ⟨#[100, 111, 110, 101]⟩, .string ⟨#[]⟩, .slice none 0 0, .int .i64 4, .int .i64 0, .int .i64 0, .string ⟨#[]⟩, .string ⟨#[100, 111, 119, 110]⟩, .slice (some ⟨w1.heap.size + 3, 0, none⟩) 1 1] 65) = vv13 at B14 E15 X16 ⊢
        refine hK9.out _ _ (HS.out _ B14.out) (fun hHeld => ?_)
        clear hK9 K9
        try simp only [Act.put, List.setIfInBounds_toArray, List.set_cons_zero, List.set_cons_succ]
        refine wpAnyH_take (i := 5) (oi := ⟨_, _, _, _, _, _⟩) (v := ?_) rfl (by kernel_rfl) (by kernel_rfl) (by kernel_rfl) (fun _ _ _ h => h) (Or.inl ⟨by rfl, ?_⟩) (by assumption) ?_
        rotate_left
        · intro w' hSw; (try dsimp only at hSw); go_simp; (try with_reducible rfl)
        try simp only [Act.put, List.setIfInBounds_toArray, List.set_cons_zero, List.set_cons_succ]
        refine wpAnyH_ready (rs := [7]) (by kernel_rfl) (by simp) ?_
        refine AllReadyH.cons (o := ⟨_, _, _, _, _, _⟩) rfl (fun K9 hK9 => ?_) (AllReadyH.nil)
        · have d0 := block_cell (j := 0) X16.out rfl
          have d1 := block_cell (j := 1) X16.out rfl
          have d2 := block_cell (j := 2) X16.out rfl
          have d3 := block_cell (j := 3) X16.out rfl
          have d4 := block_cell (j := 4) X16.out rfl
          have d5 := block_cell (j := 5) X16.out rfl
          have f0 := fun j => block_free (j := j) X16.out
          have hne : (vv10).heap.size ≠ (vv1).heap.size := by
            intro e
            have h1 := E15.out
            rw [e, X16.out] at h1
            simp at h1
          have R9 := Lib.hid (keepNe E15.out (((((((Keep.refl (fun k => k = (vv1).heap.size) vv13).setCell (p := ⟨(vv1).heap.size, 0, none⟩) (.inl rfl) (.int .i64 5)).setCell (p := ⟨(vv1).heap.size, 1, none⟩) (.inl rfl) (.int .i64 0)).setCell (p := ⟨(vv1).heap.size, 2, none⟩) (.inl rfl) (.int .i64 0)).setCell (p := ⟨(vv1).heap.size, 3, none⟩) (.inl rfl) (.string ⟨#[]⟩)).setCell (p := ⟨(vv1).heap.size, 4, none⟩) (.inl rfl) (.string ⟨#[]⟩)).setCell (p := ⟨(vv1).heap.size, 5, none⟩) (.inl rfl) (.slice (some ⟨(vv10).heap.size, 0, none⟩) 3 3)) hne)
          have P9 := Lib.hid (block_set (block_set (block_set (block_set (block_set (block_set X16.out (j := 0) (.int .i64 5)) (j := 1) (.int .i64 0)) (j := 2) (.int .i64 0)) (j := 3) (.string ⟨#[]⟩)) (j := 4) (.string ⟨#[]⟩)) (j := 5) (.slice (some ⟨(vv10).heap.size, 0, none⟩) 3 3))
          have B9 := Lib.hid ((((((B14.out.setCell (p := ⟨(vv1).heap.size, 0, none⟩) (by show _ ≤ (vv1).heap.size; omega) (.int .i64 5)).setCell (p := ⟨(vv1).heap.size, 1, none⟩) (by show _ ≤ (vv1).heap.size; omega) (.int .i64 0)).setCell (p := ⟨(vv1).heap.size, 2, none⟩) (by show _ ≤ (vv1).heap.size; omega) (.int .i64 0)).setCell (p := ⟨(vv1).heap.size, 3, none⟩) (by show _ ≤ (vv1).heap.size; omega) (.string ⟨#[]⟩)).setCell (p := ⟨(vv1).heap.size, 4, none⟩) (by show _ ≤ (vv1).heap.size; omega) (.string ⟨#[]⟩)).setCell (p := ⟨(vv1).heap.size, 5, none⟩) (by show _ ≤ (vv1).heap.size; omega) (.slice (some ⟨(vv10).heap.size, 0, none⟩) 3 3))
          go_simp
          go_wp2_with fail
          generalize ((((((vv13.setCell ⟨(vv1).heap.size, 0, none⟩ (.int .i64 5)).setCell ⟨(vv1).heap.size, 1, none⟩ (.int .i64 0)).setCell ⟨(vv1).heap.size, 2, none⟩ (.int .i64 0)).setCell ⟨(vv1).heap.size, 3, none⟩ (.string ⟨#[]⟩)).setCell ⟨(vv1).heap.size, 4, none⟩ (.string ⟨#[]⟩)).setCell ⟨(vv1).heap.size, 5, none⟩ (.slice (some ⟨(vv10).heap.size, 0, none⟩) 3 3)) = w9 at R9 P9 B9 ⊢
          clear d0 d1 d2 d3 d4 d5 f0 hne
          refine hK9.out _ _ (HS.out _ B9.out) (fun hHeld => ?_)
          clear hK9 K9
          try simp only [Act.put, List.setIfInBounds_toArray, List.set_cons_zero, List.set_cons_succ]
          refine wpAnyH_done (by kernel_rfl) ?_ _
          generalize hq4 : ((vv10).heap.size) = q4 at *
          generalize hp6 : ((vv1).heap.size) = p6 at *
          have z0 := block_cell (j := 0) P9.out rfl
          have z1 := block_cell (j := 1) P9.out rfl
          have z2 := block_cell (j := 2) P9.out rfl
          have z3 := block_cell (j := 3) P9.out rfl
          have z4 := block_cell (j := 4) P9.out rfl
          have z5 := block_cell (j := 5) P9.out rfl
          have lp : p6 < w9.heap.size := (Array.getElem?_eq_some_iff.1 P9.out).1
          clear hHeld
          go_wp2_with fail
          go_ret
          exact chain_end w w1 w5 w9 q4 HT.out B1.out B5.out L1.out HX5.out Y1.out Y3.out Y5.out B9.out R9.out
  · go_simp
    go_wp2_with fail
    have B18 := Lib.hid (D5.out.alloc D5.out.size (.cells #[.int .i64 0, .int .i64 0, .int .i64 0, .string ⟨#[]⟩, .string ⟨#[]⟩, .slice none 0 0] 65))
    have X19 := Lib.hid (heap_alloc_new vv0 (.cells #[.int .i64 0, .int .i64 0, .int .i64 0, .string ⟨#[]⟩, .string ⟨#[]⟩, .slice none 0 0] 65))
    have lvv17 := D5.out.size
    generalize (vv0).alloc (.cells #[.int .i64 0, .int .i64 0, .int .i64 0, .string ⟨#[]⟩, .string ⟨#[]⟩, .slice none 0 0] 65) = vv17 at B18 X19 ⊢
    refine hK9.out _ _ (HS.out _ B18.out) (fun hHeld => ?_)
    clear hK9 K9
    try simp only [Act.put, List.setIfInBounds_toArray, List.set_cons_zero, List.set_cons_succ]
    refine wpAnyH_ready (rs := [1]) (by kernel_rfl) (by simp) ?_
    refine AllReadyH.cons (o := ⟨_, _, _, _, _, _⟩) rfl (fun K9 hK9 => ?_) (AllReadyH.nil)
    · go_simp
      (with_reducible refine (rSym_c ⟨#[100, 111, 110, 101]⟩ _).mono ?_)
      rintro e vv20 ⟨rfl, q⟩
      have B21 := Lib.hid (B18.out.trans (q.mono B18.out.size))
      have X22 := Lib.hid (keepB X19.out q)
      clear q
      go_wp2_with fail
      refine hK9.out _ _ (HS.out _ B21.out) (fun hHeld => ?_)
      clear hK9 K9
      try simp only [Act.put, List.setIfInBounds_toArray, List.set_cons_zero, List.set_cons_succ]
      refine wpAnyH_take (i := 2) (oi := ⟨_, _, _, _, _, _⟩) (v := ?_) rfl (by kernel_rfl) (by kernel_rfl) (by kernel_rfl) (fun _ _ _ h => h) (Or.inl ⟨by rfl, ?_⟩) (by assumption) ?_
      rotate_left
      · intro w' hSw; (try dsimp only at hSw); go_simp; (try with_reducible rfl)
      try simp only [Act.put, List.setIfInBounds_toArray, List.set_cons_zero, List.set_cons_succ]
      refine wpAnyH_ready (rs := [4]) (by kernel_rfl) (by simp) ?_
      refine AllReadyH.cons (o := ⟨_, _, _, _, _, _⟩) rfl (fun K9 hK9 => ?_) (AllReadyH.nil)
      · go_simp
        go_wp2_with fail
        have B24 := Lib.hid (B21.out.alloc B21.out.size (.cells #[.int .i64 4, .int .i64 0, .int .i64 0, .string ⟨#[]⟩, .string ⟨#[60]⟩, .slice (some ⟨w1.heap.size + 5, 0, none⟩) 2 2, .int .i64 1, .int .i64 2, .int .i64 0, .string ⟨#[100, 111, 110, 101]⟩, .string ⟨#[]⟩, .slice none 0 0, .int .i64 4, .int .i64 0, .int .i64 0, .string ⟨#[]⟩, .string ⟨#[100, 111, 119, 110]⟩, .slice (some ⟨w1.heap.size + 3, 0, none⟩) 1 1] 65))
        have E25 := Lib.hid (heap_alloc_new vv20 (.cells #[.int .i64 4, .int .i64 0, .int .i64 0, .string ⟨#[]⟩, .string ⟨#[60]⟩, .slice (some ⟨w1.heap.size + 5, 0, none⟩) 2 2, .int .i64 1, .int .i64 2, .int .i64 0, .string ⟨#[100, 111, 110, 101]⟩, .string ⟨#[]⟩, .slice none 0 0, .int .i64 4, .int .i64 0, .int .i64 0, .string ⟨#[]⟩, .string ⟨#[100, 111, 119, 110]⟩, .slice (some ⟨w1.heap.size + 3, 0, none⟩) 1 1] 65))
        have X26 := Lib.hid ((Below.heap_alloc vv20 (.cells #[.int .i64 4, .int .i64 0, .int .i64 0, .string ⟨#[]⟩, .string ⟨#[60]⟩, .slice (some ⟨w1.heap.size + 5, 0, none⟩) 2 2, .int .i64 1, .int .i64 2, .int .i64 0, .string ⟨#[100, 111, 110, 101]⟩, .string ⟨#[]⟩, .slice none 0 0, .int .i64 4, .int .i64 0, .int .i64 0, .string ⟨#[]⟩, .string ⟨#[100, 111, 119, 110]⟩, .slice (some ⟨w1.heap.size + 3, 0, none⟩) 1 1] 65) _ (Array.getElem?_eq_some_iff.1 X22.out).1).trans X22.out)
        generalize (vv20).alloc (.cells #[.int .i64 4, .int .i64 0, .int .i64 0, .string ⟨#[]⟩, .string ⟨#[60]⟩, .slice (some ⟨w1.heap.size + 5, 0, none⟩) 2 2, .int .i64 1, .int .i64 2, .int .i64 0, .string ⟨#[100, 111, 110, 101]⟩, .string ⟨#[]⟩, .slice none 0 0, .int .i64 4, .int .i64 0, .int .i64 0, .string ⟨#[]⟩, .string ⟨#[100, 111, 119, 110]⟩, .slice (some ⟨w1.heap.size + 3, 0, none⟩) 1 1] 65) = vv23 at B24 E25 X26 ⊢
        refine hK9.out _ _ (HS.out _ B24.out) (fun hHeld => ?_)
        clear hK9 K9
        try simp only [Act.put, List.setIfInBounds_toArray, List.set_cons_zero, List.set_cons_succ]
        refine wpAnyH_take (i := 5) (oi := ⟨_, _, _, _, _, _⟩) (v := ?_) rfl (by kernel_rfl) (by kernel_rfl) (by kernel_rfl) (fun _ _ _ h => h) (Or.inl ⟨by rfl, ?_⟩) (by assumption) ?_
        rotate_left
        · intro w' hSw; (try dsimp only at hSw); go_simp; (try with_reducible rfl)
        try simp only [Act.put, List.setIfInBounds_toArray, List.set_cons_zero, List.set_cons_succ]
        refine wpAnyH_ready (rs := [7]) (by kernel_rfl) (by simp) ?_
        refine AllReadyH.cons (o := ⟨_, _, _, _, _, _⟩) rfl (fun K9 hK9 => ?_) (AllReadyH.nil)
        · have d0 := block_cell (j := 0) X26.out rfl
          have d1 := block_cell (j := 1) X26.out rfl
          have d2 := block_cell (j := 2) X26.out rfl
          have d3 := block_cell (j := 3) X26.out rfl
          have d4 := block_cell (j := 4) X26.out rfl
          have d5 := block_cell (j := 5) X26.out rfl
          have f0 := fun j => block_free (j := j) X26.out
          have hne : (vv20).heap.size ≠ (vv0).heap.size := by
            intro e
            have h1 := E25.out
            rw [e, X26.out] at h1
            simp at h1
          have R9 := Lib.hid (keepNe E25.out (((((((Keep.refl (fun k => k = (vv0).heap.size) vv23).setCell (p := ⟨(vv0).heap.size, 0, none⟩) (.inl rfl) (.int .i64 5)).setCell (p := ⟨(vv0).heap.size, 1, none⟩) (.inl rfl) (.int .i64 0)).setCell (p := ⟨(vv0).heap.size, 2, none⟩) (.inl rfl) (.int .i64 0)).setCell (p := ⟨(vv0).heap.size, 3, none⟩) (.inl rfl) (.string ⟨#[]⟩)).setCell (p := ⟨(vv0).heap.size, 4, none⟩) (.inl rfl) (.string ⟨#[]⟩)).setCell (p := ⟨(vv0).heap.size, 5, none⟩) (.inl rfl) (.slice (some ⟨(vv20).heap.size, 0, none⟩) 3 3)) hne)
          have P9 := Lib.hid (block_set (block_set (block_set (block_set (block_set (block_set X26.out (j := 0) (.int .i64 5)) (j := 1) (.int .i64 0)) (j := 2) (.int .i64 0)) (j := 3) (.string ⟨#[]⟩)) (j := 4) (.string ⟨#[]⟩)) (j := 5) (.slice (some ⟨(vv20).heap.size, 0, none⟩) 3 3))
          have B9 := Lib.hid ((((((B24.out.setCell (p := ⟨(vv0).heap.size, 0, none⟩) (by show _ ≤ (vv0).heap.size; omega) (.int .i64 5)).setCell (p := ⟨(vv0).heap.size, 1, none⟩) (by show _ ≤ (vv0).heap.size; omega) (.int .i64 0)).setCell (p := ⟨(vv0).heap.size, 2, none⟩) (by show _ ≤ (vv0).heap.size; omega) (.int .i64 0)).setCell (p := ⟨(vv0).heap.size, 3, none⟩) (by show _ ≤ (vv0).heap.size; omega) (.string ⟨#[]⟩)).setCell (p := ⟨(vv0).heap.size, 4, none⟩) (by show _ ≤ (vv0).heap.size; omega) (.string ⟨#[]⟩)).setCell (p := ⟨(vv0).heap.size, 5, none⟩) (by show _ ≤ (vv0).heap.size; omega) (.slice (some ⟨(vv20).heap.size, 0, none⟩) 3 3))
          go_simp
          go_wp2_with fail
          generalize ((((((vv23.setCell ⟨(vv0).heap.size, 0, none⟩ (.int .i64 5)).setCell ⟨(vv0).heap.size, 1, none⟩ (.int .i64 0)).setCell ⟨(vv0).heap.size, 2, none⟩ (.int .i64 0)).setCell ⟨(vv0).heap.size, 3, none⟩ (.string ⟨#[]⟩)).setCell ⟨(vv0).heap.size, 4, none⟩ (.string ⟨#[]⟩)).setCell ⟨(vv0).heap.size, 5, none⟩ (.slice (some ⟨(vv20).heap.size, 0, none⟩) 3 3)) = w9 at R9 P9 B9 ⊢
          clear d0 d1 d2 d3 d4 d5 f0 hne
          refine hK9.out _ _ (HS.out _ B9.out) (fun hHeld => ?_)
          clear hK9 K9
          try simp only [Act.put, List.setIfInBounds_toArray, List.set_cons_zero, List.set_cons_succ]
          refine wpAnyH_done (by kernel_rfl) ?_ _
          generalize hq4 : ((vv20).heap.size) = q4 at *
          generalize hp6 : ((vv0).heap.size) = p6 at *
          have z0 := block_cell (j := 0) P9.out rfl
          have z1 := block_cell (j := 1) P9.out rfl
          have z2 := block_cell (j := 2) P9.out rfl
          have z3 := block_cell (j := 3) P9.out rfl
          have z4 := block_cell (j := 4) P9.out rfl
          have z5 := block_cell (j := 5) P9.out rfl
          have lp : p6 < w9.heap.size := (Array.getElem?_eq_some_iff.1 P9.out).1
          clear hHeld
          go_wp2_with fail
          go_ret
          exact chain_end w w1 w5 w9 q4 HT.out B1.out B5.out L1.out HX5.out Y1.out Y3.out Y5.out B9.out R9.out
end Go.Proofs.YtmadnehipagakaaGreatDoor
