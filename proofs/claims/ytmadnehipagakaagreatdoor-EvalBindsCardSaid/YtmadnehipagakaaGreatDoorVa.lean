/- Values: what makes them, told plainly; what they are in memory. -/
import Derived.Test.YtmadnehipagakaaGreatDoorProg
import Derived.Below
import Derived.Test.YtmadnehipagakaaGreatDoorKp
import Derived.WalkKit
import Derived.WalkSpells
import Derived.Outline
import Derived.Lib.Hide
import Derived.LoopTactic
import Derived.Deep.QuietTactic
import Derived.BigQuiet
import Derived.Deep.RegionHeld3
namespace Go.Proofs.YtmadnehipagakaaGreatDoor
open Go.RowKit Go.Lib KP
/-- A value: its kind, its number, its text. -/
abbrev Vl := Int × Int × ByteArray
abbrev Vl.cs (v : Vl) : Array Value := #[.int .i64 v.1, .int .i64 v.2.1, .string v.2.2]
abbrev Vl.val (v : Vl) : Value := .agg #[.int .i64 v.1, .int .i64 v.2.1, .string v.2.2]
def sTrue : ByteArray := ⟨#[84, 82, 85, 69]⟩
def sFalse : ByteArray := ⟨#[70, 65, 76, 83, 69]⟩
def sB (b : Bool) : ByteArray := if b then sTrue else sFalse
abbrev vI (n : Int) : Vl := (1, n, ⟨#[]⟩)
abbrev vS (s : ByteArray) : Vl := (2, 0, s)
abbrev vT (s : ByteArray) : Vl := (3, 0, s)
abbrev vB (b : Bool) : Vl := vS (sB b)
abbrev v0 : Vl := (0, 0, ⟨#[]⟩)

theorem ret_int {k : IntKind} {a b : Int} (h : a = b) : Ending.returned (.int k a) = .returned (.int k b) := by rw [h]
theorem ret_bool {a b : Bool} (h : a = b) : Ending.returned (.bool a) = .returned (.bool b) := by rw [h]
theorem ret_str {a b : ByteArray} (h : a = b) : Ending.returned (.string a) = .returned (.string b) := by rw [h]
theorem bel_new {W w1 : World} {o : Obj} (h : Below (W.alloc o).heap.size (W.alloc o) w1) : Below W.heap.size W w1 := ((Below.refl _ _).alloc (Nat.le_refl _) _).trans (h.mono (by simp))
theorem new3 {W w1 : World} {a b c : Value} {T : TypeId} (h : Below (W.alloc (.cells #[a, b, c] T)).heap.size (W.alloc (.cells #[a, b, c] T)) w1) :
    (w1.cell? ⟨W.heap.size, 0, none⟩ = some a ∧ w1.cell? ⟨W.heap.size, 1, none⟩ = some b ∧ w1.cell? ⟨W.heap.size, 2, none⟩ = some c) ∧ (w1.frozen? ⟨W.heap.size, 0, none⟩ = false ∧ w1.frozen? ⟨W.heap.size, 1, none⟩ = false ∧ w1.frozen? ⟨W.heap.size, 2, none⟩ = false) ∧ W.heap.size < w1.heap.size := by
  have e : w1.heap[W.heap.size]? = some (.cells #[a, b, c] T (0, 0)) := (h.block W.heap.size (by simp)).trans (heap_alloc_new W _)
  exact ⟨⟨block_cell e rfl, block_cell e rfl, block_cell e rfl⟩, ⟨block_free e, block_free e, block_free e⟩, by have := h.size; simp at this; omega⟩
theorem put3 {W w1 : World} {a b c : Value} (h : Below W.heap.size W w1) : Below W.heap.size W (((w1.setCell ⟨W.heap.size, 0, none⟩ a).setCell ⟨W.heap.size, 1, none⟩ b).setCell ⟨W.heap.size, 2, none⟩ c) := ((h.setCell (Nat.le_refl _) _).setCell (Nat.le_refl _) _).setCell (Nat.le_refl _) _
theorem ofInt_c (i : Int) (w : World) : Calls Tryz.prog 73 #[.int .i64 i] w fun e w' => e = .returned (Vl.val (vI i)) ∧ Below w.heap.size w w' := by
  go_enter Tryz.func73, Tryz.ntmps73
  go_wp2
  exact bodyPost_ret (v := Vl.val (vI i)) (by simp [results, Tryz.results73, go_sem]) rfl ⟨rfl, (Below.refl _ _).alloc (Nat.le_refl _) _⟩
theorem ofSym_c (s : ByteArray) (w : World) : Calls Tryz.prog 46 #[.string s] w fun e w' => e = .returned (Vl.val (vS s)) ∧ Below w.heap.size w w' := by
  go_enter Tryz.func46, Tryz.ntmps46
  go_wp2
  exact bodyPost_ret (v := Vl.val (vS s)) (by simp [results, Tryz.results46, go_sem]) rfl ⟨rfl, (Below.refl _ _).alloc (Nat.le_refl _) _⟩
theorem ofStr_c (s : ByteArray) (w : World) : Calls Tryz.prog 48 #[.string s] w fun e w' => e = .returned (Vl.val (vT s)) ∧ Below w.heap.size w w' := by
  go_enter Tryz.func48, Tryz.ntmps48
  go_wp2
  exact bodyPost_ret (v := Vl.val (vT s)) (by simp [results, Tryz.results48, go_sem]) rfl ⟨rfl, (Below.refl _ _).alloc (Nat.le_refl _) _⟩
theorem rInt_c (i : Int) (w : World) : Calls Tryz.prog 39 #[.int .i64 i] w fun e w' => e = .returned (Vl.val (vI i)) ∧ Below w.heap.size w w' := by
  go_enter Tryz.func39, Tryz.ntmps39
  go_wp2
  exact bodyPost_ret (v := Vl.val (vI i)) (by simp [results, Tryz.results39, go_sem]) rfl ⟨rfl, (Below.refl _ _).alloc (Nat.le_refl _) _⟩
theorem rSym_c (s : ByteArray) (w : World) : Calls Tryz.prog 40 #[.string s] w fun e w' => e = .returned (Vl.val (vS s)) ∧ Below w.heap.size w w' := by
  go_enter Tryz.func40, Tryz.ntmps40
  go_wp2
  exact bodyPost_ret (v := Vl.val (vS s)) (by simp [results, Tryz.results40, go_sem]) rfl ⟨rfl, (Below.refl _ _).alloc (Nat.le_refl _) _⟩
theorem rStr_c (s : ByteArray) (w : World) : Calls Tryz.prog 56 #[.string s] w fun e w' => e = .returned (Vl.val (vT s)) ∧ Below w.heap.size w w' := by
  go_enter Tryz.func56, Tryz.ntmps56
  go_wp2
  exact bodyPost_ret (v := Vl.val (vT s)) (by simp [results, Tryz.results56, go_sem]) rfl ⟨rfl, (Below.refl _ _).alloc (Nat.le_refl _) _⟩
theorem ofBool_c (b : Bool) (w : World) : Calls Tryz.prog 51 #[.bool b] w fun e w' => e = .returned (Vl.val (vB b)) ∧ Below w.heap.size w w' := by
  cases b
  all_goals
    go_enter Tryz.func51, Tryz.ntmps51
    go_wp2_with fail
    refine (ofSym_c _ _).mono ?_
    rintro e w1 ⟨rfl, b1⟩
    obtain ⟨⟨_, _, _⟩, ⟨_, _, _⟩, _⟩ := new3 b1
    have E1 := Lib.hid (bel_new b1); clear b1
    go_wp2_with fail
    exact bodyPost_ret (v := Vl.val (vB _)) (by simp [results, Tryz.results51, go_sem, *]; rfl) rfl ⟨rfl, put3 E1.out⟩
theorem rBool_c (b : Bool) (w : World) : Calls Tryz.prog 33 #[.bool b] w fun e w' => e = .returned (Vl.val (vB b)) ∧ Below w.heap.size w w' := by
  cases b
  all_goals
    go_enter Tryz.func33, Tryz.ntmps33
    go_wp2_with fail
    refine (rSym_c _ _).mono ?_
    rintro e w1 ⟨rfl, b1⟩
    obtain ⟨⟨_, _, _⟩, ⟨_, _, _⟩, _⟩ := new3 b1
    have E1 := Lib.hid (bel_new b1); clear b1
    go_wp2_with fail
    exact bodyPost_ret (v := Vl.val (vB _)) (by simp [results, Tryz.results33, go_sem, *]; rfl) rfl ⟨rfl, put3 E1.out⟩
end Go.Proofs.YtmadnehipagakaaGreatDoor
