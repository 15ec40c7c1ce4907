/- The names: built.Names, built.Known. -/
import Derived.Test.YtmadnehipagakaaGreatDoorBn
import Derived.Lib.SortBridge
import Derived.Lib.SortBridgeS
namespace Go.Proofs.YtmadnehipagakaaGreatDoor
open Go.RowKit Go.Lib Go.Sort KP
def rawL : List (List UInt8) := [[43], [42], [45], [100, 105, 118], [109, 111, 100], [97, 98, 115], [109, 105, 110], [109, 97, 120], [61], [60, 62], [60], [60, 61], [62], [62, 61], [101, 113], [110, 101, 113], [110, 111, 116], [115, 121, 109, 45, 99, 97, 116], [115, 116, 114, 45, 99, 97, 116], [108, 101, 110, 103, 116, 104], [116, 121, 112, 101]]
def namL : List (List UInt8) := [[42], [43], [45], [60], [60, 61], [60, 62], [61], [62], [62, 61], [97, 98, 115], [100, 105, 118], [101, 113], [108, 101, 110, 103, 116, 104], [109, 97, 120], [109, 105, 110], [109, 111, 100], [110, 101, 113], [110, 111, 116], [115, 116, 114, 45, 99, 97, 116], [115, 121, 109, 45, 99, 97, 116], [116, 121, 112, 101]]
def bs (l : List UInt8) : ByteArray := ⟨l.toArray⟩
def namB : List ByteArray := namL.map bs
theorem namB_at (k : Nat) (h : k < namB.length) : namB[k] = bs (namL.getD k []) := by
  have h1 : namB[k]? = some namB[k] := List.getElem?_eq_getElem h
  have h2 : namB[k]? = (namL[k]?).map bs := by unfold namB; rw [List.getElem?_map]
  rw [List.getD_eq_getElem?_getD]
  cases e : namL[k]? with
  | none => rw [h2, e] at h1; cases h1
  | some x => rw [h2, e] at h1; simp at h1; simp [h1]
def knownB (s : ByteArray) : Bool := Lib.containsS namB s
theorem list_antisymm (a b : List UInt8) (h1 : a ≤ b) (h2 : b ≤ a) : a = b := List.le_antisymm h1 h2
theorem raw_sorted : (rawL.mergeSort fun x y => decide (x ≤ y)) = namL := by
  have h1 : (rawL.mergeSort fun x y => decide (x ≤ y)).Perm namL := (List.mergeSort_perm _ _).trans (by decide +kernel)
  have h2 : (rawL.mergeSort fun x y => decide (x ≤ y)).Pairwise fun x y => decide (x ≤ y) = true := List.pairwise_mergeSort (by intro a b c h1 h2; simp only [decide_eq_true_eq] at *; exact List.le_trans h1 h2) (by intro a b; have := List.le_total a b; simpa using this) _
  have h3 : namL.Pairwise fun x y => decide (x ≤ y) = true := by decide +kernel
  exact h1.eq_of_pairwise (fun a b _ _ h1 h2 => list_antisymm a b (of_decide_eq_true h1) (of_decide_eq_true h2)) h2 h3
def rawV : Array Value := #[.string ⟨#[43]⟩, .string ⟨#[42]⟩, .string ⟨#[45]⟩, .string ⟨#[100, 105, 118]⟩, .string ⟨#[109, 111, 100]⟩, .string ⟨#[97, 98, 115]⟩, .string ⟨#[109, 105, 110]⟩, .string ⟨#[109, 97, 120]⟩, .string ⟨#[61]⟩, .string ⟨#[60, 62]⟩, .string ⟨#[60]⟩, .string ⟨#[60, 61]⟩, .string ⟨#[62]⟩, .string ⟨#[62, 61]⟩, .string ⟨#[101, 113]⟩, .string ⟨#[110, 101, 113]⟩, .string ⟨#[110, 111, 116]⟩, .string ⟨#[115, 121, 109, 45, 99, 97, 116]⟩, .string ⟨#[115, 116, 114, 45, 99, 97, 116]⟩, .string ⟨#[108, 101, 110, 103, 116, 104]⟩, .string ⟨#[116, 121, 112, 101]⟩]
theorem rawV_at (j : Nat) (h : j < 21) : rawV[j]? = some (encStr rawL.toArray[j]!) := by
  have : ∀ j : Fin 21, rawV[j.val]? = some (encStr rawL.toArray[j.val]!) := by
    intro j
    match j with
    | ⟨0, _⟩ => rfl
    | ⟨1, _⟩ => rfl
    | ⟨2, _⟩ => rfl
    | ⟨3, _⟩ => rfl
    | ⟨4, _⟩ => rfl
    | ⟨5, _⟩ => rfl
    | ⟨6, _⟩ => rfl
    | ⟨7, _⟩ => rfl
    | ⟨8, _⟩ => rfl
    | ⟨9, _⟩ => rfl
    | ⟨10, _⟩ => rfl
    | ⟨11, _⟩ => rfl
    | ⟨12, _⟩ => rfl
    | ⟨13, _⟩ => rfl
    | ⟨14, _⟩ => rfl
    | ⟨15, _⟩ => rfl
    | ⟨16, _⟩ => rfl
    | ⟨17, _⟩ => rfl
    | ⟨18, _⟩ => rfl
    | ⟨19, _⟩ => rfl
    | ⟨20, _⟩ => rfl
    | ⟨k + 21, h⟩ => omega
  exact this ⟨j, h⟩
theorem below_grown2 {B : Nat} {W W1 : World} (h : Below B W W1) (os : Array Obj) (hB : B ≤ W1.heap.size) : Below B W (grow W1 os) :=
  ⟨h.os, h.tape, h.output, Nat.le_trans h.size (by simp [grow]), fun k hk => by
    rw [heap_grow_old _ os (by omega)]
    exact h.block k hk⟩
theorem sortRaw_c (W : World) (g B : Nat) (hblk : W.heap[g]? = some (.cells rawV 9 (0, 0))) (hB : B ≤ g) : Calls Tryz.prog 70 #[.slice (some ⟨g, 0, none⟩) 21 21] W fun e w' => e = .returned (.tuple #[]) ∧ RowAt w' Value.string (some ⟨g, 0, none⟩) namB ∧ Below B W w' := by
  have hlt : g < W.heap.size := (Array.getElem?_eq_some_iff.1 hblk).1
  have hH : Holds encStr W g 0 rawL.toArray := by
    intro j hj
    have hj' : j < 21 := hj
    rw [Nat.zero_add]
    exact ⟨block_cell hblk (rawV_at j hj'), block_free hblk⟩
  have hS := slices_Sort_string g 0 21 rawL _ hH hlt (by decide)
  refine hS.mono ?_
  rintro e w' ⟨rfl, n, os, rfl⟩
  rw [raw_sorted]
  have hw := Lib.sorted_world encStr W g 0 n rawL.toArray namL os hH rfl
  rw [hw]
  refine ⟨rfl, ?_, ?_⟩
  · intro k hk
    have hk' : k < 21 := hk
    refine ⟨_, rfl, ?_⟩
    have h4 := Lib.cells_sorted_strs (W := W) (b := g) (off := 0) (n := 21) (m := 21) (q := n) (Sx := fun i => bs rawL.toArray[i]!) (ys := namL) (os := os) (Nat.le_refl _) rfl (fun i hi => by rw [(hH i hi).1]; rfl) k hk'
    have h3 : (⟨g, 0, none⟩ : Addr).add k = ⟨g, 0 + k, none⟩ := by simp [Addr.add]; omega
    rw [h3]
    refine ⟨World.block_lt_of_cell? _ _ h4, h4.trans ?_⟩
    have hk2 : k < namL.length := hk'
    have e := namB_at k hk
    rw [e]
    unfold Lib.strAfter
    rw [if_pos hk2]
    rfl
  · have h5 : Below B W ((W.drewN n).setCells g 0 (namL.map encStr)) := Go.below_setCells hB _ _ _ ⟨rfl, rfl, rfl, Nat.le_refl _, fun _ _ => rfl⟩
    exact below_grown2 h5 os (by have := h5.size; omega)
theorem names_c (w : World) : Calls Tryz.prog 41 #[] w fun e w' => e = .returned (.slice (some ⟨w.heap.size, 0, none⟩) 21 21) ∧ RowAt w' Value.string (some ⟨w.heap.size, 0, none⟩) namB ∧ Below w.heap.size w w' := by
  have hS := Lib.hid (sortRaw_c (w.alloc (.cells rawV 9)) w.heap.size w.heap.size (heap_alloc_new w _) (Nat.le_refl _))
  have h0 : Hid (Below w.heap.size w (w.alloc (.cells rawV 9))) := Lib.hid ((Below.refl _ _).alloc (Nat.le_refl _) _)
  go_enter Tryz.func41, Tryz.ntmps41
  go_wp2_with fail
  refine hS.out.mono ?_
  rintro e w1 ⟨rfl, hr, b1⟩
  have E1 := Lib.hid (h0.out.trans b1); clear b1
  have R1 := Lib.hid hr; clear hr
  go_wp2_with fail
  go_ret
  exact ⟨rfl, R1.out, E1.out⟩
theorem known_c (s : ByteArray) (w : World) : Calls Tryz.prog 18 #[.string s] w fun e w' => e = .returned (.bool (knownB s)) ∧ Below w.heap.size w w' := by
  go_enter Tryz.func18, Tryz.ntmps18
  go_wp2_with fail
  refine (names_c _).mono ?_
  rintro e w1 ⟨rfl, hr, b1⟩
  have E1 := Lib.hid b1; clear b1
  have hc : ∀ j, j < namB.length → w1.cell? ⟨w.heap.size, 0 + j, none⟩ = some (.string (namB.getD j ByteArray.empty)) := by
    intro j hj
    obtain ⟨ad, e, _, hc⟩ := hr j hj
    injection e with e
    subst e
    rw [List.getD_eq_getElem?_getD, List.getElem?_eq_getElem hj]
    show _ = some (Value.string namB[j])
    rw [← hc]
    have h3 : (⟨w.heap.size, 0, none⟩ : Addr).add j = ⟨w.heap.size, 0 + j, none⟩ := by simp [Addr.add]; omega
    rw [h3]
  have CC := Lib.hid (slices_Contains_string w.heap.size 0 21 21 namB s w1 (Nat.le_refl _) (by omega) hc)
  rw [show Lib.containsS (namB.take 21) s = knownB s by rfl] at CC
  clear hr hc
  go_wp2_with fail
  refine CC.out.mono ?_
  rintro e w2 ⟨rfl, rfl⟩
  go_wp2_with fail
  go_ret
  exact ⟨rfl, E1.out⟩
end Go.Proofs.YtmadnehipagakaaGreatDoor
