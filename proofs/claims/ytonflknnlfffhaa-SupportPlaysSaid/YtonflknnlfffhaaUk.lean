/- tms.Table: sweep. -/
import Derived.Test.YtonflknnlfffhaaUj
namespace Go.Proofs.Ytonflknnlfffhaa
open Go.RowKit Go.Lib KP MR RW
section
variable {B : Nat} {F : Nat → Prop} {g m : Nat} {cv : Value} {cs : List Wf} {N : Tb} {W : World}
set_option maxRecDepth 100000 in
set_option maxHeartbeats 4000000 in
theorem sweep1_c (b : Nat) (y : Wf) (W : World) (h : TR g m N W) (hy : ArgY W y) (hb : W.cell? ⟨b, 0, none⟩ = some (.pointer (some ⟨g, 0, none⟩))) : Calls Try.prog 61 #[y.val, .pointer (some ⟨b, 0, none⟩)] W fun e w' => e = .returned (.bool (!usedB N y.1)) ∧ Below W.heap.size W w' := by
  obtain ⟨⟨y1, y2, y3⟩, yA, yc⟩ := y
  have DA := Lib.hid ((Below.refl W.heap.size W).alloc (Nat.le_refl _) (.cells (whyc ((y1, y2, y3), yA, yc)).toArray 50))
  have HU := Lib.hid (used_c ((y1, y2, y3), yA, yc) (h.below DA.out) (hy.below DA.out))
  have HBX := heap_alloc_new W (.cells (whyc ((y1, y2, y3), yA, yc)).toArray 50)
  have b0 := block_cell (j := 0) HBX rfl
  have b1 := block_cell (j := 1) HBX rfl
  have b2 := block_cell (j := 2) HBX rfl
  have hb2 := (DA.out.cell (World.block_lt_of_cell? _ _ hb)).trans hb
  obtain ⟨r, HR⟩ : ∃ r, Hid (r = usedB N ((y1, y2, y3), yA, yc).1) := ⟨_, Lib.hid rfl⟩
  rw [← HR.out] at HU
  clear h hy HBX
  go_enter Try.func61, Try.ntmps61
  go_wp2_with fail
  refine HU.out.mono ?_
  rintro e w1 ⟨rfl, bb⟩
  have E1 := Lib.hid (DA.out.trans (bb.mono DA.out.size))
  clear bb b0 b1 b2 hb2 HU
  go_wp2_with fail
  go_ret
  exact ⟨ret_bool (by rw [HR.out]), E1.out⟩
def SwR (B : Nat) (F : Nat → Prop) (g m : Nat) (cs : List Wf) (N : Tb) (W w' : World) : Prop := ∃ cv', TS B F g m cv' (cs.filter fun y => usedB N y.1) N w' ∧ Keep F W w'
set_option maxRecDepth 100000 in
set_option maxHeartbeats 4000000 in
theorem sweep_c (h : TS B F g m cv cs N W) : Calls Try.prog 50 #[.pointer (some ⟨g, 0, none⟩)] W fun e w' => e = .returned (.tuple #[]) ∧ SwR B F g m cs N W w' := by
  have DA := Lib.hid (((Below.refl W.heap.size W).alloc (Nat.le_refl _) (.cells #[.pointer (some ⟨g, 0, none⟩)] 47)).drew)
  have T1 := Lib.hid (h.grow DA.out)
  obtain ⟨A, c, ev, -, -, -⟩ := OwnY.row T1.out.cown
  have HLT : Hid (W.heap.size ≠ g ∧ cv.ownBlock ≠ some W.heap.size) := Lib.hid ⟨by have := (h.lt g h.Fg).2; omega, fun e => by have := (h.lt _ (h.Fcv _ e)).2; omega⟩
  have EV := Lib.hid ev
  have HBX := heap_alloc_new W (.cells #[.pointer (some ⟨g, 0, none⟩)] 47)
  have HX0 : Hid ((W.alloc (.cells #[.pointer (some ⟨g, 0, none⟩)] 47)).drew.cell? ⟨W.heap.size, 0, none⟩ = some (.pointer (some ⟨g, 0, none⟩))) := Lib.hid (block_cell (j := 0) HBX rfl)
  have HS2 : Hid (∀ w', Keep (fun k => cv.ownBlock = some k) (W.alloc (.cells #[.pointer (some ⟨g, 0, none⟩)] 47)).drew w' → (fun w' : World => w'.cell? ⟨W.heap.size, 0, none⟩ = some (.pointer (some ⟨g, 0, none⟩))) w') := Lib.hid (fun w' hk => hk.cell HX0.out HLT.out.2)
  have HLK : Hid (∀ w', Keep (fun k => cv.ownBlock = some k) (W.alloc (.cells #[.pointer (some ⟨g, 0, none⟩)] 47)).drew w' → w'.cell? ⟨g, 1, none⟩ = some (.slice A cs.length c) ∧ w'.frozen? ⟨g, 1, none⟩ = false) := Lib.hid (fun w' hk => by
    have hn := (hk.block g (T1.out.lt g T1.out.Fg).2 T1.out.cg).trans T1.out.blk
    rw [EV.out] at hn
    exact ⟨block_cell (j := 1) hn rfl, block_free hn⟩)
  have HSF : Hid (∀ (w' : World) (v : Value), w'.cell? ⟨W.heap.size, 0, none⟩ = some (.pointer (some ⟨g, 0, none⟩)) → (w'.setCell ⟨g, 1, none⟩ v).cell? ⟨W.heap.size, 0, none⟩ = some (.pointer (some ⟨g, 0, none⟩))) := Lib.hid (fun w' v hs => by
    have kb : Keep (fun k => k = g) w' (w'.setCell ⟨g, 1, none⟩ v) := (Keep.refl (fun k => k = g) w').setCell (p := ⟨g, 1, none⟩) (.inl rfl) _
    exact kb.cell hs HLT.out.1)
  have HD : Hid (Calls Try.prog 52 #[.slice A cs.length c, .func (.func 61) #[] #[.pointer (some ⟨W.heap.size, 0, none⟩)]] (W.alloc (.cells #[.pointer (some ⟨g, 0, none⟩)] 47)).drew (fun e w' => ∃ v', e = .returned v' ∧ OwnY w' B v' (cs.filter fun y => usedB N y.1) ∧ v'.ownBlock = cv.ownBlock ∧ Keep (fun k => cv.ownBlock = some k) (W.alloc (.cells #[.pointer (some ⟨g, 0, none⟩)] 47)).drew w')) := Lib.hid (by
    rw [← EV.out]
    refine Calls.mono (R := DelR cs (fun y => !usedB N y.1) cv B (W.alloc (.cells #[.pointer (some ⟨g, 0, none⟩)] 47)).drew) ?_ (fun e w' ⟨v', h1, h2, h3, h4⟩ => ⟨v', h1, by simpa only [Bool.not_not] using h2, h3, h4⟩)
    exact delS_c B W.heap.size cv cs (fun y => !usedB N y.1) (fun w' => Keep (fun k => cv.ownBlock = some k) (W.alloc (.cells #[.pointer (some ⟨g, 0, none⟩)] 47)).drew w') _ T1.out.cown (Keep.refl _ _) (fun w1 w2 h1 h2 => h1.trans h2 (fun k hk => .inl hk)) (fun W' y hy hiv => sweep1_c _ y W' (T1.out.trk hiv) (T1.out.argk hiv hy) (HS2.out _ hiv)) (by have := h.cf; omega))
  have HB : Hid (B ≤ (W.alloc (.cells #[.pointer (some ⟨g, 0, none⟩)] 47)).drew.heap.size) := Lib.hid (by have := T1.out.lt g T1.out.Fg; omega)
  have hcf : cs.length ≤ 10000 := h.cf
  clear h ev HBX
  go_enter Try.func50, Try.ntmps50
  go_wp2_with fail
  refine wp_region_held_drew (S := (fun w' : World => w'.cell? ⟨W.heap.size, 0, none⟩ = some (.pointer (some ⟨g, 0, none⟩)))) (by kernel_rfl) (HS2.out _ (Keep.refl _ _)) (fun hHeld => ?_)
  refine wpAnyH_take (i := 0) (oi := ⟨_, _, _, _, _, _⟩) (v := ?_) rfl (by kernel_rfl) (by kernel_rfl) (by kernel_rfl) (fun _ _ _ h => h) (Or.inl ⟨by rfl, ?_⟩) (by assumption) ?_
  rotate_left
  · intro w' hSw; (try dsimp only at hSw); go_simp; (try with_reducible rfl)
  try simp only [Act.put, List.setIfInBounds_toArray, List.set_cons_zero, List.set_cons_succ]
  refine wpAnyH_take (i := 1) (oi := ⟨_, _, _, _, _, _⟩) (v := ?_) rfl (by kernel_rfl) (by kernel_rfl) (by kernel_rfl) (fun _ _ _ h => h) (Or.inl ⟨by rfl, ?_⟩) (by assumption) ?_
  rotate_left
  · intro w' hSw; (try dsimp only at hSw); go_simp; (try with_reducible rfl)
  try simp only [Act.put, List.setIfInBounds_toArray, List.set_cons_zero, List.set_cons_succ]
  refine wpAnyH_take (i := 2) (oi := ⟨_, _, _, _, _, _⟩) (v := ?_) rfl (by kernel_rfl) (by kernel_rfl) (by kernel_rfl) (fun _ _ _ h => h) (Or.inl ⟨by rfl, ?_⟩) (by assumption) ?_
  rotate_left
  · intro w' hSw; (try dsimp only at hSw); go_simp; (try with_reducible rfl)
  try simp only [Act.put, List.setIfInBounds_toArray, List.set_cons_zero, List.set_cons_succ]
  refine wpAnyH_take (i := 3) (oi := ⟨_, _, _, _, _, _⟩) (v := ?_) rfl (by kernel_rfl) (by kernel_rfl) (by kernel_rfl) (fun _ _ _ h => h) (Or.inl ⟨by rfl, ?_⟩) (by assumption) ?_
  rotate_left
  · intro w' hSw; (try dsimp only at hSw); go_simp; (try with_reducible rfl)
  try simp only [Act.put, List.setIfInBounds_toArray, List.set_cons_zero, List.set_cons_succ]
  refine wpAnyH_take (i := 5) (oi := ⟨_, _, _, _, _, _⟩) (v := ?_) rfl (by kernel_rfl) (by kernel_rfl) (by kernel_rfl) (fun _ _ _ h => h) (Or.inl ⟨by rfl, ?_⟩) (by assumption) ?_
  rotate_left
  · intro w' hSw; (try dsimp only at hSw); go_simp; (try with_reducible rfl)
  try simp only [Act.put, List.setIfInBounds_toArray, List.set_cons_zero, List.set_cons_succ]
  refine wpAnyH_ready (rs := [4]) (by kernel_rfl) (by simp) ?_
  refine AllReadyH.cons (o := ⟨_, _, _, _, _, _⟩) rfl (fun K9 hK9 => ?_) AllReadyH.nil
  have hc4 := (HLK.out _ (Keep.refl _ _)).1
  go_simp
  clear hc4
  refine hK9.out _ _ (HS2.out _ (Keep.refl _ _)) (fun hHeld => ?_)
  clear hK9 K9
  try simp only [Act.put, List.setIfInBounds_toArray, List.set_cons_zero, List.set_cons_succ]
  refine wpAnyH_ready (rs := [6]) (by kernel_rfl) (by simp) ?_
  refine AllReadyH.cons (o := ⟨_, _, _, _, _, _⟩) rfl (fun K9 hK9 => ?_) AllReadyH.nil
  go_simp
  (with_reducible refine (HD.out).mono ?_)
  rintro e p2 ⟨v', rfl, o2, ob2, k2⟩
  have K2 := Lib.hid k2
  have O2 := Lib.hid o2
  have OB := Lib.hid ob2
  clear k2 o2 ob2
  obtain ⟨A9, c9, ev9, -, -, -⟩ := OwnY.row O2.out
  subst ev9
  go_wp2_with fail
  refine hK9.out _ _ (HS2.out _ K2.out) (fun hHeld => ?_)
  clear hK9 K9
  try simp only [Act.put, List.setIfInBounds_toArray, List.set_cons_zero, List.set_cons_succ]
  refine wpAnyH_take (i := 7) (oi := ⟨_, _, _, _, _, _⟩) (v := ?_) rfl (by kernel_rfl) (by kernel_rfl) (by kernel_rfl) (fun _ _ _ h => h) (Or.inl ⟨by rfl, ?_⟩) (by assumption) ?_
  rotate_left
  · intro w' hSw; (try dsimp only at hSw); go_simp; (try with_reducible rfl)
  try simp only [Act.put, List.setIfInBounds_toArray, List.set_cons_zero, List.set_cons_succ]
  refine wpAnyH_take (i := 8) (oi := ⟨_, _, _, _, _, _⟩) (v := ?_) rfl (by kernel_rfl) (by kernel_rfl) (by kernel_rfl) (fun _ _ _ h => h) (Or.inl ⟨by rfl, ?_⟩) (by assumption) ?_
  rotate_left
  · intro w' hSw; (try dsimp only at hSw); go_simp; (try with_reducible rfl)
  try simp only [Act.put, List.setIfInBounds_toArray, List.set_cons_zero, List.set_cons_succ]
  refine wpAnyH_ready (rs := [9]) (by kernel_rfl) (by simp) ?_
  refine AllReadyH.cons (o := ⟨_, _, _, _, _, _⟩) rfl (fun K9 hK9 => ?_) AllReadyH.nil
  obtain ⟨hc11, hf11⟩ := HLK.out _ K2.out
  go_simp
  clear hc11 hf11
  refine hK9.out _ _ (HSF.out _ _ (HS2.out _ K2.out)) (fun hHeld => ?_)
  clear hK9 K9
  try simp only [Act.put, List.setIfInBounds_toArray, List.set_cons_zero, List.set_cons_succ]
  refine wpAnyH_done (by kernel_rfl) ?_ _
  clear hHeld
  have HE : Hid (SwR B F g m cs N W (p2.setCell ⟨g, 1, none⟩ (.slice A9 (cs.filter fun y => usedB N y.1).length c9))) := Lib.hid (by
    have kb : Keep (fun k => k = g) p2 (p2.setCell ⟨g, 1, none⟩ (.slice A9 (cs.filter fun y => usedB N y.1).length c9)) := (Keep.refl (fun k => k = g) p2).setCell (p := ⟨g, 1, none⟩) (.inl rfl) _
    have k9 := (K2.out.mono (G := fun k => k = g ∨ cv.ownBlock = some k) (fun k hk => .inr hk)).trans kb (fun k hk => .inl (.inl hk))
    have hn := (K2.out.block g (T1.out.lt g T1.out.Fg).2 T1.out.cg).trans T1.out.blk
    have hvg : (Value.slice A9 (cs.filter fun y => usedB N y.1).length c9).ownBlock ≠ some g := by rw [OB.out]; exact T1.out.cg
    have O9 := O2.out.keep kb (fun k hk e => hvg (by rw [← e]; exact hk))
    have t9 := T1.out.setC (F' := F) (v := .slice A9 (cs.filter fun y => usedB N y.1).length c9) k9 (by have := block_set hn (j := 1) (.slice A9 (cs.filter fun y => usedB N y.1).length c9); simpa using this) O9 (fun k hk => .inl (by rw [← OB.out]; exact hk)) (fun _ h => h) (fun k hk => T1.out.Fcv k (by rw [← OB.out]; exact hk)) (fun k hk => .inl hk) (Nat.le_trans (List.length_filter_le _ _) hcf) HB.out (fun y hy => .inl (List.mem_filter.1 hy).1)
    refine ⟨.slice A9 (cs.filter fun y => usedB N y.1).length c9, t9, ?_⟩
    exact (Keep.of_below DA.out F).trans k9 (fun k hk => .inl (by
      rcases hk with rfl | hk
      · exact T1.out.Fg
      · exact T1.out.Fcv k hk)))
  clear HS2 HLK HSF HD O2 OB K2
  generalize (p2.setCell ⟨g, 1, none⟩ (.slice A9 (cs.filter fun y => usedB N y.1).length c9)) = w9 at HE ⊢
  go_wp2_with fail
  go_end0
  exact ⟨rfl, HE.out⟩
end
end Go.Proofs.Ytonflknnlfffhaa
