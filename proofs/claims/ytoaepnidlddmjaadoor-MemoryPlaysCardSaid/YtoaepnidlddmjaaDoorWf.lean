/- slices.Delete at facts. -/
import Derived.Test.YtoaepnidlddmjaaDoorWe
namespace Go.Proofs.YtoaepnidlddmjaaDoor
open Go.RowKit Go.Lib Go.Sort KP RW
theorem ret_slice {a : Option Addr} {n c c' : Nat} (h : c = c') : Ending.returned (.slice a n c) = .returned (.slice a n c') := by rw [h]
theorem fxc_flat {x : Fx} (hv : x.v.oneCell' = true) : ∀ u ∈ fxc x, u.oneCell' = true := by
  intro u hu
  simp at hu
  rcases hu with rfl | rfl | rfl
  · rfl
  · rfl
  · exact hv
/-- A fact's values lie in a slice. -/
abbrev Fs := Ft × Option Addr × Nat
abbrev fsx (x : Fs) : Fx := ⟨x.1, .slice x.2.1 x.1.2.2.length x.2.2⟩
abbrev fsc (x : Fs) : List Value := [.int .i64 x.1.1, .string x.1.2.1, .slice x.2.1 x.1.2.2.length x.2.2]
theorem fsc_len (x : Fs) : (fsc x).length = 3 := rfl
theorem fsc_flat (x : Fs) : ∀ u ∈ fsc x, u.oneCell' = true := by
  intro u hu
  simp at hu
  rcases hu with rfl | rfl | rfl <;> rfl
theorem zeroF (w : World) : (zeroValue 55).run Tryd.prog w = .ok zF w := by kernel_rfl
theorem zF_flat : ∀ u ∈ zF.cells, u.oneCell' = true := by
  intro u hu
  have : u ∈ ([.int .i64 0, .string ⟨#[]⟩, .slice none 0 0] : List Value) := by simpa [zF, Value.cells] using hu
  simp at this
  rcases this with rfl | rfl | rfl <;> rfl
set_option maxRecDepth 100000 in
set_option maxHeartbeats 2000000 in
theorem delete_c (B g cap n k : Nat) (xs : List Fs) (w : World) (ho : OwnW w B 55 3 (.slice (some ⟨g, 0, none⟩) n cap) n (xs.flatMap fsc)) (hk : k < n) (hn : n ≤ 100000) :
    Calls Tryd.prog 26 #[.slice (some ⟨g, 0, none⟩) n cap, .int .i64 (k : Nat), .int .i64 ((k : Int) + 1)] w fun e w' => e = .returned (.slice (some ⟨g, 0, none⟩) (n - 1 : Nat) cap) ∧ OwnW w' B 55 3 (.slice (some ⟨g, 0, none⟩) (n - 1) cap) (n - 1) ((xs.eraseIdx k).flatMap fsc) ∧ Keep (fun j => j = g) w w' := by
  obtain ⟨i0, hi, hz0, hz1, hz2⟩ := info_parts infoF
  have hcap : n ≤ cap ∧ cap ≤ 9223372036854775807 := by
    rcases ho.2 with ⟨e, _⟩ | ⟨_, _, _, e, _, _, h, h2, _⟩
    · cases e
    · injection e with _ _ e; subst e; unfold maxLen at h2; exact ⟨h, by omega⟩
  obtain ⟨hnc, hcm⟩ := hcap
  have HOd := Lib.hid (ho.below (w1 := w.drew) ⟨rfl, rfl, rfl, Nat.le_refl _, fun _ _ => rfl⟩)
  clear ho
  have h1 : (k : Int) < (n : Int) := by omega
  have h2 : (n : Int) ≤ (cap : Int) := by omega
  have h3 : (n : Int) ≤ 100000 := by omega
  have h4 : (cap : Int) ≤ 9223372036854775807 := by omega
  obtain ⟨w1, hrun, ho1, hg1, hs1⟩ := run_delW (P := Tryd.prog) w.drew (f := fsc) fsc_len fsc_flat (by decide) 40 40 B 55 i0 Tryd.underlying40 hi hz1 g cap n xs HOd.out k hk (if cap = k + 1 then ⟨g, 0, none⟩ else ⟨g, (k + 1) * 3, none⟩) (cap - (k + 1)) (by split; exact .inr (by omega); exact .inl rfl)
  obtain ⟨w2, hrun2, ho2, hg2, hs2⟩ := run_clearW (P := Tryd.prog) w1 (f := fsc) (m := 3) 40 0 B 55 zF Tryd.underlying40 zeroF rfl zF_flat g cap (n - 1) _ ⟨g, (n - 1) * 3, none⟩ rfl ho1 (by omega)
  have HR := Lib.hid (show (Builtin.append_ #[40, 40] 40 #[.slice (some ⟨g, 0, none⟩) k cap, .slice (if cap = k + 1 then some ⟨g, 0, none⟩ else some ⟨g, (k + 1) * 3, none⟩) (n - (k + 1)) (cap - (k + 1))]).run Tryd.prog w.drew = .ok (.slice (some ⟨g, 0, none⟩) (n - 1) cap) w1 by rw [← hrun]; split <;> rfl)
  have HR2 := Lib.hid hrun2
  have HO2 := Lib.hid ho2
  have HK := Lib.hid (((Keep.refl (fun j => j = g) w).drew.grown hg1 (fun j hj => .inl (by injection hj with hj; exact hj.symm))).grown hg2 (fun j hj => .inl (by injection hj with hj; exact hj.symm)))
  clear hrun hrun2 ho1 ho2 hg1 hg2 hs1 hs2 HOd
  go_enter Tryd.func26, Tryd.ntmps26
  go_wp2_with fail
  refine wp_region_held_drew (S := (fun _ => True)) (by kernel_rfl) trivial (fun hHeld => ?_)
  refine wpAnyH_take (i := 0) (oi := ⟨_, _, _, _, _, _⟩) (v := ?_) rfl (by kernel_rfl) (by kernel_rfl) (by kernel_rfl) (fun _ _ _ h => h) (Or.inl ⟨by rfl, ?_⟩) (by assumption) ?_
  rotate_left
  · intro w' hSw; (try dsimp only at hSw); go_simp; (try with_reducible rfl)
  try simp only [Act.put, List.setIfInBounds_toArray, List.set_cons_zero, List.set_cons_succ]
  refine wpAnyH_take (i := 1) (oi := ⟨_, _, _, _, _, _⟩) (v := ?_) rfl (by kernel_rfl) (by kernel_rfl) (by kernel_rfl) (fun _ _ _ h => h) (Or.inl ⟨by rfl, ?_⟩) (by assumption) ?_
  rotate_left
  · intro w' hSw; (try dsimp only at hSw); go_simp; (try with_reducible rfl)
  try simp only [Act.put, List.setIfInBounds_toArray, List.set_cons_zero, List.set_cons_succ]
  refine wpAnyH_take (i := 2) (oi := ⟨_, _, _, _, _, _⟩) (v := ?_) rfl (by kernel_rfl) (by kernel_rfl) (by kernel_rfl) (fun _ _ _ h => h) (Or.inl ⟨by rfl, ?_⟩) (by assumption) ?_
  rotate_left
  · intro w' hSw; (try dsimp only at hSw); go_simp; (try rw [if_pos (by omega)]); (try rw [if_neg (by omega)]); (try with_reducible rfl)
  try simp only [Act.put, List.setIfInBounds_toArray, List.set_cons_zero, List.set_cons_succ]
  refine wpAnyH_take (i := 3) (oi := ⟨_, _, _, _, _, _⟩) (v := ?_) rfl (by kernel_rfl) (by kernel_rfl) (by kernel_rfl) (fun _ _ _ h => h) (Or.inl ⟨by rfl, ?_⟩) (by assumption) ?_
  rotate_left
  · intro w' hSw; (try dsimp only at hSw); go_simp; (try with_reducible rfl)
  try simp only [Act.put, List.setIfInBounds_toArray, List.set_cons_zero, List.set_cons_succ]
  refine wpAnyH_take (i := 4) (oi := ⟨_, _, _, _, _, _⟩) (v := ?_) rfl (by kernel_rfl) (by kernel_rfl) (by kernel_rfl) (fun _ _ _ h => h) (Or.inl ⟨by rfl, ?_⟩) (by assumption) ?_
  rotate_left
  · intro w' hSw; (try dsimp only at hSw); go_simp; (try with_reducible rfl)
  try simp only [Act.put, List.setIfInBounds_toArray, List.set_cons_zero, List.set_cons_succ]
  refine wpAnyH_take (i := 5) (oi := ⟨_, _, _, _, _, _⟩) (v := ?_) rfl (by kernel_rfl) (by kernel_rfl) (by kernel_rfl) (fun _ _ _ h => h) (Or.inl ⟨by rfl, ?_⟩) (by assumption) ?_
  rotate_left
  · intro w' hSw; (try dsimp only at hSw); go_simp; (try rw [if_pos (by omega)]); (try rw [if_neg (by omega)]); (try with_reducible rfl)
  try simp only [Act.put, List.setIfInBounds_toArray, List.set_cons_zero, List.set_cons_succ]
  refine wpAnyH_ready (rs := [6]) (by kernel_rfl) (by simp) ?_
  refine AllReadyH.cons (o := ⟨_, _, _, _, _, _⟩) rfl (fun K9 hK9 => ?_) AllReadyH.nil
  refine step_append_run (vs := .slice (some ⟨g, 0, none⟩) k cap) (vx := .slice (if cap = k + 1 then some ⟨g, 0, none⟩ else some ⟨g, (k + 1) * 3, none⟩) (n - (k + 1)) (cap - (k + 1))) (v' := .slice (some ⟨g, 0, none⟩) (n - 1) cap) (w' := w1) rfl (.tmp 22) (.tmp 25) 40 rfl rfl rfl HR.out ?_
  refine hK9.out _ _ trivial (fun hHeld => ?_)
  clear hK9 K9
  try simp only [Act.put, List.setIfInBounds_toArray, List.set_cons_zero, List.set_cons_succ]
  refine wpAnyH_take (i := 7) (oi := ⟨_, _, _, _, _, _⟩) (v := ?_) rfl (by kernel_rfl) (by kernel_rfl) (by kernel_rfl) (fun _ _ _ h => h) (Or.inl ⟨by rfl, ?_⟩) (by assumption) ?_
  rotate_left
  · intro w' hSw; (try dsimp only at hSw); go_simp; (try with_reducible rfl)
  try simp only [Act.put, List.setIfInBounds_toArray, List.set_cons_zero]
  refine wpAnyH_done (by kernel_rfl) ?_ _
  go_wp2_with fail
  all_goals
    rw [show n - (n - 1) = 1 by omega, HR2.out]
    simp only [Result.andThen]
    rw [Oper.upon_value]
    go_wp2_with fail
    go_ret
    exact ⟨(by first | rfl | exact ret_slice (by omega)), HO2.out, HK.out⟩
end Go.Proofs.YtoaepnidlddmjaaDoor
