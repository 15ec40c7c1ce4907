/- wm.Memory: Find. -/
import Derived.Test.YtoaepnidlddmjaaDoorWg
namespace Go.Proofs.YtoaepnidlddmjaaDoor
open Go.RowKit Go.Lib KP MR RW
/-- The number of a fact. -/
def findO (T : List Ft) (t : ByteArray) (l : List Vl) : Option Int := (T.find? fun f => decide (f.2.1 = t ∧ f.2.2 = l)).map (·.1)
theorem lk_find (xs : List Fs) (t : ByteArray) (l : List Vl) : lk (xs.map Fs.p) (keyB t l) = findO (xs.map (·.1)) t l := by
  unfold lk findO
  rw [List.find?_map, List.find?_map, Option.map_map, Option.map_map]
  have : ((fun p : ByteArray × Int => decide (p.1 = keyB t l)) ∘ Fs.p) = ((fun f : Ft => decide (f.2.1 = t ∧ f.2.2 = l)) ∘ (·.1)) := by
    funext x
    exact decide_eq_decide.2 ⟨keyB_inj, fun h => by show keyB x.1.2.1 x.1.2.2 = _; rw [h.1, h.2]⟩
  rw [this]
  rfl
theorem find_none {T : List Ft} {t : ByteArray} {l : List Vl} (h : findO T t l = none) : ∀ f ∈ T, ¬ (f.2.1 = t ∧ f.2.2 = l) := by
  intro f hf e
  unfold findO at h
  rw [Option.map_eq_none_iff, List.find?_eq_none] at h
  exact h f hf (decide_eq_true e)
section
variable {B : Nat} {F : Nat → Prop} {g m : Nat} {v : Value} {xs : List Fs} {nx : Int} {W W' : World} {T : List Ft} {w0 : World}
theorem zeroI (w : World) : (zeroValue 3).run Tryd.prog w = .ok (.int .i64 0) w := by kernel_rfl
theorem Mem.look (h : Mem B F g m v xs nx W) (hb : Below W.heap.size W W') (t : ByteArray) (l : List Vl) :
    (Instr.lookup 59 (.map (some m)) (.string (keyB t l)) true).run Tryd.prog W' = .ok (.tuple #[.int .i64 ((findO (xs.map (·.1)) t l).getD 0), .bool (findO (xs.map (·.1)) t l).isSome]) W' := by
  have := (h.grow hb).map.lookup (P := Tryd.prog) inj_str key_str Tryd.underlying59 Tryd.underlying9 (zeroI W') (keyB t l) true
  rw [lk_find] at this
  rw [this]
  cases findO (xs.map (·.1)) t l <;> rfl
end
set_option maxRecDepth 100000 in
set_option maxHeartbeats 2000000 in
theorem find_c {B : Nat} {F : Nat → Prop} {g : Nat} {T : List Ft} {nx : Int} {w0 W : World} (t : ByteArray) (ht : t.size ≤ 100000) (A : Option Addr) (c : Nat) (l : List Vl) (hI : Inv B w0 F g T nx W) (ha : ArgV (fun _ => False) W A c l) (htab : Tab W) :
    Calls Tryd.prog 20 #[.pointer (some ⟨g, 0, none⟩), .string t, .slice A l.length c] W fun e w' => e = .returned (.tuple #[.int .i64 ((findO T t l).getD 0), .bool (findO T t l).isSome]) ∧ Below W.heap.size W w' := by
  obtain ⟨m, v, xs, e, hm, h0⟩ := hI
  have HS : Hid (∀ w', Below W.heap.size W w' → (w'.cell? ⟨g, 1, none⟩ = some (.map (some m)) ∧ (Instr.lookup 59 (.map (some m)) (.string (keyB t l)) true).run Tryd.prog w' = .ok (.tuple #[.int .i64 ((findO T t l).getD 0), .bool (findO T t l).isSome]) w')) :=
    Lib.hid (fun w' hb => ⟨block_cell (j := 1) (hm.grow hb).blk rfl, by rw [← e]; exact hm.look hb t l⟩)
  have HA := Lib.hid (fun w' (hb : Below W.heap.size W w') => ha.below hb)
  have HT := Lib.hid (fun w' (hb : Below W.heap.size W w') => htab.b hb)
  have D0 : Hid (Below W.heap.size W W.drew) := Lib.hid ⟨rfl, rfl, rfl, Nat.le_refl _, fun _ _ => rfl⟩
  clear hm h0 e ha htab
  generalize (findO T t l).getD 0 = r at *
  generalize (findO T t l).isSome = b at *
  have h00 := HS.out _ D0.out
  go_enter Tryd.func20, Tryd.ntmps20
  go_wp2_with fail
  refine wp_region_held_drew (S := (fun w' => w'.cell? ⟨g, 1, none⟩ = some (.map (some m)) ∧ (Instr.lookup 59 (.map (some m)) (.string (keyB t l)) true).run Tryd.prog w' = .ok (.tuple #[.int .i64 r, .bool b]) w')) (by kernel_rfl) (HS.out _ D0.out) (fun hHeld => ?_)
  refine wpAnyH_take (i := 0) (oi := ⟨_, _, _, _, _, _⟩) (v := ?_) rfl (by kernel_rfl) (by kernel_rfl) (by kernel_rfl) (fun _ _ _ h => h) (Or.inl ⟨by rfl, ?_⟩) (by assumption) ?_
  rotate_left
  · intro w' hSw; (try dsimp only at hSw); go_simp; (try with_reducible rfl)
  try simp only [Act.put, List.setIfInBounds_toArray, List.set_cons_zero, List.set_cons_succ]
  refine wpAnyH_take (i := 1) (oi := ⟨_, _, _, _, _, _⟩) (v := ?_) rfl (by kernel_rfl) (by kernel_rfl) (by kernel_rfl) (fun _ _ _ h => h) (Or.inl ⟨by rfl, ?_⟩) (by assumption) ?_
  rotate_left
  · intro w' hSw; (try dsimp only at hSw); go_simp; (try with_reducible rfl)
  try simp only [Act.put, List.setIfInBounds_toArray, List.set_cons_zero, List.set_cons_succ]
  refine wpAnyH_take (i := 2) (oi := ⟨_, _, _, _, _, _⟩) (v := ?_) rfl (by kernel_rfl) (by kernel_rfl) (by kernel_rfl) (fun _ _ _ h => h) (Or.inl ⟨by rfl, ?_⟩) (by assumption) ?_
  rotate_left
  · intro w' hSw; (try dsimp only at hSw); go_simp; (try with_reducible rfl)
  try simp only [Act.put, List.setIfInBounds_toArray, List.set_cons_zero, List.set_cons_succ]
  refine wpAnyH_take (i := 3) (oi := ⟨_, _, _, _, _, _⟩) (v := ?_) rfl (by kernel_rfl) (by kernel_rfl) (by kernel_rfl) (fun _ _ _ h => h) (Or.inl ⟨by rfl, ?_⟩) (by assumption) ?_
  rotate_left
  · intro w' hSw; (try dsimp only at hSw); go_simp; (try with_reducible rfl)
  try simp only [Act.put, List.setIfInBounds_toArray, List.set_cons_zero, List.set_cons_succ]
  refine wpAnyH_take (i := 4) (oi := ⟨_, _, _, _, _, _⟩) (v := ?_) rfl (by kernel_rfl) (by kernel_rfl) (by kernel_rfl) (fun _ _ _ h => h) (Or.inl ⟨by rfl, ?_⟩) (by assumption) ?_
  rotate_left
  · intro w' hSw; (try dsimp only at hSw); go_simp; (try with_reducible rfl)
  try simp only [Act.put, List.setIfInBounds_toArray, List.set_cons_zero, List.set_cons_succ]
  refine wpAnyH_take (i := 5) (oi := ⟨_, _, _, _, _, _⟩) (v := ?_) rfl (by kernel_rfl) (by kernel_rfl) (by kernel_rfl) (fun _ _ _ h => h) (Or.inl ⟨by rfl, ?_⟩) (by assumption) ?_
  rotate_left
  · intro w' hSw; (try dsimp only at hSw); go_simp; (try with_reducible rfl)
  try simp only [Act.put, List.setIfInBounds_toArray, List.set_cons_zero, List.set_cons_succ]
  refine wpAnyH_ready (rs := [6]) (by kernel_rfl) (by simp) ?_
  refine AllReadyH.cons (o := ⟨_, _, _, _, _, _⟩) rfl (fun K9 hK9 => ?_) AllReadyH.nil
  go_simp
  (with_reducible refine (key_c t ht A c l _ (HA.out _ D0.out) (HT.out _ D0.out)).mono ?_)
  rintro e w1 ⟨rfl, b1⟩
  have E1 := Lib.hid (D0.out.trans (b1.mono D0.out.size))
  clear b1
  go_wp2_with fail
  refine hK9.out _ _ (HS.out _ E1.out) (fun hHeld => ?_)
  clear hK9 K9
  try simp only [Act.put, List.setIfInBounds_toArray, List.set_cons_zero, List.set_cons_succ]
  refine wpAnyH_take (i := 7) (oi := ⟨_, _, _, _, _, _⟩) (v := ?_) rfl (by kernel_rfl) (by kernel_rfl) (by kernel_rfl) (fun _ _ _ h => h) (Or.inl ⟨by rfl, ?_⟩) (by assumption) ?_
  rotate_left
  · intro w' hSw; (try dsimp only at hSw); go_simp; (try with_reducible rfl)
  try simp only [Act.put, List.setIfInBounds_toArray, List.set_cons_zero, List.set_cons_succ]
  refine wpAnyH_take (i := 8) (oi := ⟨_, _, _, _, _, _⟩) (v := ?_) rfl (by kernel_rfl) (by kernel_rfl) (by kernel_rfl) (fun _ _ _ h => h) (Or.inl ⟨by rfl, ?_⟩) (by assumption) ?_
  rotate_left
  · intro w' hSw; (try dsimp only at hSw); go_simp; (try with_reducible rfl)
  try simp only [Act.put, List.setIfInBounds_toArray, List.set_cons_zero, List.set_cons_succ]
  refine wpAnyH_take (i := 9) (oi := ⟨_, _, _, _, _, _⟩) (v := ?_) rfl (by kernel_rfl) (by kernel_rfl) (by kernel_rfl) (fun _ _ _ h => h) (Or.inl ⟨by rfl, ?_⟩) (by assumption) ?_
  rotate_left
  · intro w' hSw; (try dsimp only at hSw); go_simp; (try with_reducible rfl)
  try simp only [Act.put, List.setIfInBounds_toArray, List.set_cons_zero, List.set_cons_succ]
  refine wpAnyH_take (i := 10) (oi := ⟨_, _, _, _, _, _⟩) (v := ?_) rfl (by kernel_rfl) (by kernel_rfl) (by kernel_rfl) (fun _ _ _ h => h) (Or.inl ⟨by rfl, ?_⟩) (by assumption) ?_
  rotate_left
  · intro w' hSw; (try dsimp only at hSw); go_simp; (try with_reducible rfl)
  try simp only [Act.put, List.setIfInBounds_toArray, List.set_cons_zero, List.set_cons_succ]
  refine wpAnyH_take (i := 11) (oi := ⟨_, _, _, _, _, _⟩) (v := ?_) rfl (by kernel_rfl) (by kernel_rfl) (by kernel_rfl) (fun _ _ _ h => h) (Or.inl ⟨by rfl, ?_⟩) (by assumption) ?_
  rotate_left
  · intro w' hSw; (try dsimp only at hSw); go_simp; (try with_reducible rfl)
  try simp only [Act.put, List.setIfInBounds_toArray, List.set_cons_zero, List.set_cons_succ]
  refine wpAnyH_take (i := 12) (oi := ⟨_, _, _, _, _, _⟩) (v := ?_) rfl (by kernel_rfl) (by kernel_rfl) (by kernel_rfl) (fun _ _ _ h => h) (Or.inl ⟨by rfl, ?_⟩) (by assumption) ?_
  rotate_left
  · intro w' hSw; (try dsimp only at hSw); go_simp; (try with_reducible rfl)
  try simp only [Act.put, List.setIfInBounds_toArray, List.set_cons_zero, List.set_cons_succ]
  refine wpAnyH_done (by kernel_rfl) ?_ _
  clear hHeld
  go_wp2_with fail
  go_ret2
  exact ⟨rfl, E1.out⟩
end Go.Proofs.YtoaepnidlddmjaaDoor
