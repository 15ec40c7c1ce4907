/- The law's find, rows. -/
import Derived.Test.YtonflknnlfffhaaUp
namespace Go.Proofs.Ytonflknnlfffhaa
open Go.RowKit Go.Lib KP MR RW
/-- A support's place, from the start; -1: none. -/
def PosIs (l : List Wy) (w : Wy) (i : Int) : Prop := (i = -1 ∧ w ∉ l) ∨ ∃ pre post, l = pre ++ w :: post ∧ w ∉ pre ∧ i = (pre.length : Int)
def FindR (l : List Wy) (w : Wy) (W : World) (e : Ending) (w' : World) : Prop := ∃ i, e = .returned (.int .i64 i) ∧ PosIs l w i ∧ Below W.heap.size W w'
theorem pos_at {l : List Wy} {w : Wy} {k : Nat} (h : k < l.length) (e : l[k] = w) (hn : ∀ j (h : j < l.length), j < k → l[j] ≠ w) : PosIs l w k := by
  refine .inr ⟨l.take k, l.drop (k + 1), ?_, fun hm => ?_, by rw [List.length_take]; omega⟩
  · rw [← e, List.getElem_cons_drop, List.take_append_drop]
  · obtain ⟨j, hj, e2⟩ := List.getElem_of_mem hm
    rw [List.getElem_take] at e2
    rw [List.length_take] at hj
    exact hn j (by omega) (by omega) e2
set_option maxRecDepth 100000 in
set_option maxHeartbeats 4000000 in
theorem find_c (A : Option Addr) (c : Nat) (L : List Wf) (y : Wf) (W : World) (hI : RowsAt whyc 3 (fun _ => False) W A L) (hL : ∀ x ∈ L, ArgY W x) (hy : ArgY W y) (hl : L.length ≤ 100000) :
    Calls Try.prog 22 #[.slice A L.length c, y.val] W (FindR (L.map (·.1)) y.1 W) := by
  obtain ⟨⟨y1, y2, y3⟩, yA, yc⟩ := y
  have DA := Lib.hid ((Below.refl W.heap.size W).alloc (Nat.le_refl _) (.cells (whyc ((y1, y2, y3), yA, yc)).toArray 50))
  have HBX := heap_alloc_new W (.cells (whyc ((y1, y2, y3), yA, yc)).toArray 50)
  have HX0 : Hid (∀ w', Below (W.heap.size + 1) (W.alloc (.cells (whyc ((y1, y2, y3), yA, yc)).toArray 50)) w' → (fun w' : World => w'.cell? ⟨W.heap.size, 0, none⟩ = some (.int .i64 y1) ∧ w'.cell? ⟨W.heap.size, 1, none⟩ = some (.int .i64 y2) ∧ w'.cell? ⟨W.heap.size, 2, none⟩ = some (.slice yA y3.length yc)) w') := Lib.hid (fun w' hb => ⟨(hb.cell (p := ⟨W.heap.size, 0, none⟩) (Nat.lt_succ_self _)).trans (block_cell (j := 0) HBX rfl), (hb.cell (p := ⟨W.heap.size, 1, none⟩) (Nat.lt_succ_self _)).trans (block_cell (j := 1) HBX rfl), (hb.cell (p := ⟨W.heap.size, 2, none⟩) (Nat.lt_succ_self _)).trans (block_cell (j := 2) HBX rfl)⟩)
  have HM : Hid (∀ w', Below (W.heap.size + 1) (W.alloc (.cells (whyc ((y1, y2, y3), yA, yc)).toArray 50)) w' → RowsAt whyc 3 (fun _ => False) w' A L ∧ (∀ x ∈ L, ArgY w' x) ∧ ArgY w' ((y1, y2, y3), yA, yc)) := Lib.hid (fun w' hb => by
    have hb2 := DA.out.trans (hb.mono (Nat.le_succ _))
    exact ⟨hI.below hb2, fun x hx => (hL x hx).below hb2, hy.below hb2⟩)
  have hlI : (L.length : Int) ≤ 100000 := by omega
  have HSZ : Hid ((W.alloc (.cells (whyc ((y1, y2, y3), yA, yc)).toArray 50)).heap.size = W.heap.size + 1) := Lib.hid (by simp)
  have D0 : Hid (Below (W.heap.size + 1) (W.alloc (.cells (whyc ((y1, y2, y3), yA, yc)).toArray 50)) (W.alloc (.cells (whyc ((y1, y2, y3), yA, yc)).toArray 50))) := Lib.hid (Below.refl _ _)
  clear hI hL hy HBX
  go_enter Try.func22, Try.ntmps22
  go_wp2_with fail
  go_loopw [5] (fun i wr => ∃ k : Nat, k ≤ L.length ∧ i = .int .i64 k ∧ Hid (∀ j (h : j < (L.map (·.1)).length), j < k → (L.map (·.1))[j] ≠ ((y1, y2, y3), yA, yc).1) ∧ Hid (Below (W.heap.size + 1) (W.alloc (.cells (whyc ((y1, y2, y3), yA, yc)).toArray 50)) wr) ∧ Hid (W.heap.size + 1 ≤ wr.heap.size)) (fun i _ => L.length - (RowKit.intOf i).toNat)
  case atStart => exact ⟨0, by omega, rfl, Lib.hid (fun _ _ h => by omega), D0, Lib.hid (by rw [HSZ.out]; exact Nat.le_refl _)⟩
  case round =>
    obtain ⟨k, hk, rfl, hE, hB, hZ⟩ := hrel
    by_cases hlt : k < L.length
    · obtain ⟨hr, ha, hy⟩ := HM.out _ hB.out
      have hkI : (k : Int) < (L.length : Int) := by omega
      obtain ⟨ad, rfl, -, c0, c1, c2⟩ := whys_at hr hlt
      have hx := ha L[k] (List.getElem_mem hlt)
      have hkm : k < (L.map (·.1)).length := by rw [List.length_map]; exact hlt
      have he : (L.map (·.1))[k] = L[k].1 := by simp
      obtain ⟨r, HR⟩ : ∃ r, Hid (r = decide (L[k].1 = ((y1, y2, y3), yA, yc).1)) := ⟨_, Lib.hid rfl⟩
      have HY : Hid (r = true → PosIs (L.map (·.1)) ((y1, y2, y3), yA, yc).1 k) := Lib.hid (fun h => pos_at hkm (by rw [he]; exact of_decide_eq_true (HR.out.symm.trans h)) hE.out)
      have HNO : Hid (r = false → ∀ j (h : j < (L.map (·.1)).length), j < k + 1 → (L.map (·.1))[j] ≠ ((y1, y2, y3), yA, yc).1) := Lib.hid (fun h j h1 h2 => by
        by_cases e : j = k
        · subst e; rw [he]; exact of_decide_eq_false (HR.out.symm.trans h)
        · exact hE.out j h1 (by omega))
      have HSAME : Hid (∀ w', Below wr.heap.size wr w' → Calls Try.prog 48 #[Wf.val L[k], Wf.val ((y1, y2, y3), yA, yc)] w' fun e w'' => e = .returned (.bool r) ∧ Below w'.heap.size w' w'') := Lib.hid (fun w' hb => by
        rw [HR.out]
        exact sameL_c L[k] ((y1, y2, y3), yA, yc) w' (hx.below hb) (hy.below hb))
      clear hr ha hy hx hkm he HR
      generalize L[k] = x at *
      obtain ⟨⟨x1, x2, x3⟩, xA, xc⟩ := x
      dsimp only at c0 c1 c2 HSAME
      have HS2 : Hid (∀ w', Below wr.heap.size wr w' → (fun w' : World => (w'.cell? (ad.add (k * 3)) = some (.int .i64 x1) ∧ w'.cell? ⟨(ad.add (k * 3)).block, (ad.add (k * 3)).off + 1, none⟩ = some (.int .i64 x2) ∧ w'.cell? ⟨(ad.add (k * 3)).block, (ad.add (k * 3)).off + 2, none⟩ = some (.slice xA x3.length xc)) ∧ w'.cell? ⟨W.heap.size, 0, none⟩ = some (.int .i64 y1) ∧ w'.cell? ⟨W.heap.size, 1, none⟩ = some (.int .i64 y2) ∧ w'.cell? ⟨W.heap.size, 2, none⟩ = some (.slice yA y3.length yc)) w') := Lib.hid (fun w' hb => ⟨⟨(hb.cell (World.block_lt_of_cell? _ _ c0)).trans c0, (hb.cell (World.block_lt_of_cell? _ _ c1)).trans c1, (hb.cell (World.block_lt_of_cell? _ _ c2)).trans c2⟩, HX0.out w' (hB.out.trans (hb.mono hZ.out))⟩)
      have ED := Lib.hid ((Below.refl wr.heap.size wr).drew)
      clear c0 c1 c2
      go_wp2_with fail
      refine wp_region_held_drew (S := (fun w' : World => (w'.cell? (ad.add (k * 3)) = some (.int .i64 x1) ∧ w'.cell? ⟨(ad.add (k * 3)).block, (ad.add (k * 3)).off + 1, none⟩ = some (.int .i64 x2) ∧ w'.cell? ⟨(ad.add (k * 3)).block, (ad.add (k * 3)).off + 2, none⟩ = some (.slice xA x3.length xc)) ∧ w'.cell? ⟨W.heap.size, 0, none⟩ = some (.int .i64 y1) ∧ w'.cell? ⟨W.heap.size, 1, none⟩ = some (.int .i64 y2) ∧ w'.cell? ⟨W.heap.size, 2, none⟩ = some (.slice yA y3.length yc))) (by kernel_rfl) (HS2.out _ ED.out) (fun hHeld => ?_)
      refine wpAnyH_take (i := 0) (oi := ⟨_, _, _, _, _, _⟩) (v := ?_) rfl (by kernel_rfl) (by kernel_rfl) (by kernel_rfl) (fun _ _ _ h => h) (Or.inl ⟨by rfl, ?_⟩) (by assumption) ?_
      rotate_left
      · intro w' hSw; (try dsimp only at hSw); go_simp; (try with_reducible rfl)
      try simp only [Act.put, List.setIfInBounds_toArray, List.set_cons_zero, List.set_cons_succ]
      refine wpAnyH_take (i := 1) (oi := ⟨_, _, _, _, _, _⟩) (v := ?_) rfl (by kernel_rfl) (by kernel_rfl) (by kernel_rfl) (fun _ _ _ h => h) (Or.inl ⟨by rfl, ?_⟩) (by assumption) ?_
      rotate_left
      · intro w' hSw; (try dsimp only at hSw); go_simp; (try with_reducible rfl)
      try simp only [Act.put, List.setIfInBounds_toArray, List.set_cons_zero, List.set_cons_succ]
      refine wpAnyH_take (i := 2) (oi := ⟨_, _, _, _, _, _⟩) (v := ?_) rfl (by kernel_rfl) (by kernel_rfl) (by kernel_rfl) (fun _ _ _ h => h) (Or.inl ⟨by rfl, ?_⟩) (by assumption) ?_
      rotate_left
      · intro w' hSw; (try dsimp only at hSw); go_simp; (try with_reducible rfl)
      try simp only [Act.put, List.setIfInBounds_toArray, List.set_cons_zero, List.set_cons_succ]
      refine wpAnyH_take (i := 3) (oi := ⟨_, _, _, _, _, _⟩) (v := ?_) rfl (by kernel_rfl) (by kernel_rfl) (by kernel_rfl) (fun _ _ _ h => h) (Or.inl ⟨by rfl, ?_⟩) (by assumption) ?_
      rotate_left
      · intro w' hSw; (try dsimp only at hSw); go_simp; (try with_reducible rfl)
      try simp only [Act.put, List.setIfInBounds_toArray, List.set_cons_zero, List.set_cons_succ]
      refine wpAnyH_take (i := 4) (oi := ⟨_, _, _, _, _, _⟩) (v := ?_) rfl (by kernel_rfl) (by kernel_rfl) (by kernel_rfl) (fun _ _ _ h => h) (Or.inl ⟨by rfl, ?_⟩) (by assumption) ?_
      rotate_left
      · intro w' hSw; (try dsimp only at hSw); go_simp; (try with_reducible rfl)
      try simp only [Act.put, List.setIfInBounds_toArray, List.set_cons_zero, List.set_cons_succ]
      refine wpAnyH_ready (rs := [5]) (by kernel_rfl) (by simp) ?_
      refine AllReadyH.cons (o := ⟨_, _, _, _, _, _⟩) rfl (fun K9 hK9 => ?_) AllReadyH.nil
      go_simp
      (with_reducible refine (HSAME.out _ ED.out).mono ?_)
      rintro e p2 ⟨rfl, bb2⟩
      have E2 := Lib.hid (ED.out.trans (bb2.mono ED.out.size))
      clear bb2
      go_wp2_with fail
      refine hK9.out _ _ (HS2.out _ E2.out) (fun hHeld => ?_)
      clear hK9 K9
      try simp only [Act.put, List.setIfInBounds_toArray, List.set_cons_zero, List.set_cons_succ]
      refine wpAnyH_done (by kernel_rfl) ?_ _
      clear hHeld HS2 HSAME
      have B2 := Lib.hid (hB.out.trans (E2.out.mono hZ.out))
      have Z2 := Lib.hid (Nat.le_trans hZ.out E2.out.size)
      cases r with
      | true =>
        have HD : Hid (FindR (L.map (·.1)) ((y1, y2, y3), yA, yc).1 W (.returned (.int .i64 k)) p2) := Lib.hid ⟨k, rfl, HY.out rfl, DA.out.trans (B2.out.mono (Nat.le_succ _))⟩
        go_wp2_with fail
        go_ret
        exact HD.out
      | false =>
        have HN := Lib.hid (HNO.out rfl)
        clear HY HNO
        go_wp2_with fail
        go_roundw
        case rel => exact ⟨k + 1, by omega, by go_num, HN, B2, Z2⟩
        case measure => first | (simp [RowKit.intOf]; done) | (simp [RowKit.intOf]; omega)
    · obtain rfl : k = L.length := by omega
      have HD : Hid (FindR (L.map (·.1)) ((y1, y2, y3), yA, yc).1 W (.returned (.int .i64 (-1))) wr) := Lib.hid ⟨-1, rfl, .inl ⟨rfl, fun hm => by
        obtain ⟨j, hj, e⟩ := List.getElem_of_mem hm
        exact hE.out j hj (by rw [List.length_map] at hj; exact hj) e⟩, DA.out.trans (hB.out.mono (Nat.le_succ _))⟩
      clear hE
      go_wp2_with fail
      go_ret
      exact HD.out
set_option maxRecDepth 100000 in
set_option maxHeartbeats 4000000 in
theorem rows_c (A : Option Addr) (c : Nat) (L : List Wf) (A2 : Option Addr) (c2 : Nat) (M : List Wf) (W : World) (hI : RowsAt whyc 3 (fun _ => False) W A L) (hL : ∀ x ∈ L, ArgY W x) (hI2 : RowsAt whyc 3 (fun _ => False) W A2 M) (hM : ∀ x ∈ M, ArgY W x) (hl : L.length ≤ 100000) :
    Calls Try.prog 24 #[.slice A L.length c, .slice A2 M.length c2] W fun e w' => e = .returned (.bool (decide (L.map (·.1) = M.map (·.1)))) ∧ Below W.heap.size W w' := by
  by_cases hlen : L.length = M.length
  · have HM : Hid (∀ w', Below W.heap.size W w' → (RowsAt whyc 3 (fun _ => False) w' A L ∧ ∀ x ∈ L, ArgY w' x) ∧ RowsAt whyc 3 (fun _ => False) w' A2 M ∧ ∀ x ∈ M, ArgY w' x) := Lib.hid (fun w' hb => ⟨⟨hI.below hb, fun x hx => (hL x hx).below hb⟩, hI2.below hb, fun x hx => (hM x hx).below hb⟩)
    have HLEN := Lib.hid hlen
    have hlI : (L.length : Int) ≤ 100000 := by omega
    rw [← hlen]
    clear hI hL hI2 hM hlen
    go_enter Try.func24, Try.ntmps24
    go_wp2_with fail
    go_loopw [5] (fun i wr => ∃ k : Nat, k ≤ L.length ∧ i = .int .i64 k ∧ Hid ((L.map (·.1)).take k = (M.map (·.1)).take k) ∧ Hid (Below W.heap.size W wr)) (fun i _ => L.length - (RowKit.intOf i).toNat)
    case atStart => exact ⟨0, by omega, rfl, Lib.hid rfl, Lib.hid (Below.refl _ _)⟩
    case round =>
      obtain ⟨k, hk, rfl, hE, hB⟩ := hrel
      by_cases hlt : k < L.length
      · obtain ⟨⟨hr, ha⟩, hr2, ha2⟩ := HM.out _ hB.out
        have hkI : (k : Int) < (L.length : Int) := by omega
        have hlt2 : k < M.length := by rw [← HLEN.out]; exact hlt
        obtain ⟨ad, rfl, -, c0, c1, c3⟩ := whys_at hr hlt
        obtain ⟨bd, rfl, -, d0, d1, d3⟩ := whys_at hr2 hlt2
        have hx := ha L[k] (List.getElem_mem hlt)
        have hz := ha2 M[k] (List.getElem_mem hlt2)
        have ht : (L.map (·.1)).take (k + 1) = (L.map (·.1)).take k ++ [L[k].1] := by
          rw [List.take_succ_eq_append_getElem (by rw [List.length_map]; exact hlt)]; simp
        have ht2 : (M.map (·.1)).take (k + 1) = (M.map (·.1)).take k ++ [M[k].1] := by
          rw [List.take_succ_eq_append_getElem (by rw [List.length_map]; exact hlt2)]; simp
        obtain ⟨r, HR⟩ : ∃ r, Hid (r = decide (L[k].1 = M[k].1)) := ⟨_, Lib.hid rfl⟩
        have HY : Hid (r = true → (L.map (·.1)).take (k + 1) = (M.map (·.1)).take (k + 1)) := Lib.hid (fun h => by
          rw [ht, ht2, hE.out, of_decide_eq_true (HR.out.symm.trans h)])
        have HNO : Hid (r = false → false = decide (L.map (·.1) = M.map (·.1))) := Lib.hid (fun h => by
          symm
          refine decide_eq_false (fun e => of_decide_eq_false (HR.out.symm.trans h) ?_)
          have := congrArg (fun l => l[k]?) e
          simpa [List.getElem?_map, List.getElem?_eq_getElem hlt, List.getElem?_eq_getElem hlt2] using this)
        have HSAME : Hid (∀ w', Below wr.heap.size wr w' → Calls Try.prog 48 #[Wf.val L[k], Wf.val M[k]] w' fun e w'' => e = .returned (.bool r) ∧ Below w'.heap.size w' w'') := Lib.hid (fun w' hb => by
          rw [HR.out]
          exact sameL_c L[k] M[k] w' (hx.below hb) (hz.below hb))
        clear hr ha hr2 ha2 hx hz ht ht2 HR
        generalize L[k] = x at *
        generalize M[k] = z at *
        obtain ⟨⟨x1, x2, x3⟩, xA, xc⟩ := x
        obtain ⟨⟨z1, z2, z3⟩, zA, zc⟩ := z
        dsimp only at c0 c1 c3 d0 d1 d3 HSAME
        have HS2 : Hid (∀ w', Below wr.heap.size wr w' → (fun w' : World => (w'.cell? (ad.add (k * 3)) = some (.int .i64 x1) ∧ w'.cell? ⟨(ad.add (k * 3)).block, (ad.add (k * 3)).off + 1, none⟩ = some (.int .i64 x2) ∧ w'.cell? ⟨(ad.add (k * 3)).block, (ad.add (k * 3)).off + 2, none⟩ = some (.slice xA x3.length xc)) ∧ w'.cell? (bd.add (k * 3)) = some (.int .i64 z1) ∧ w'.cell? ⟨(bd.add (k * 3)).block, (bd.add (k * 3)).off + 1, none⟩ = some (.int .i64 z2) ∧ w'.cell? ⟨(bd.add (k * 3)).block, (bd.add (k * 3)).off + 2, none⟩ = some (.slice zA z3.length zc)) w') := Lib.hid (fun w' hb => ⟨⟨(hb.cell (World.block_lt_of_cell? _ _ c0)).trans c0, (hb.cell (World.block_lt_of_cell? _ _ c1)).trans c1, (hb.cell (World.block_lt_of_cell? _ _ c3)).trans c3⟩, (hb.cell (World.block_lt_of_cell? _ _ d0)).trans d0, (hb.cell (World.block_lt_of_cell? _ _ d1)).trans d1, (hb.cell (World.block_lt_of_cell? _ _ d3)).trans d3⟩)
        have ED := Lib.hid ((Below.refl wr.heap.size wr).drew)
        clear c0 c1 c3 d0 d1 d3
        go_wp2_with fail
        refine wp_region_held_drew (S := (fun w' : World => (w'.cell? (ad.add (k * 3)) = some (.int .i64 x1) ∧ w'.cell? ⟨(ad.add (k * 3)).block, (ad.add (k * 3)).off + 1, none⟩ = some (.int .i64 x2) ∧ w'.cell? ⟨(ad.add (k * 3)).block, (ad.add (k * 3)).off + 2, none⟩ = some (.slice xA x3.length xc)) ∧ w'.cell? (bd.add (k * 3)) = some (.int .i64 z1) ∧ w'.cell? ⟨(bd.add (k * 3)).block, (bd.add (k * 3)).off + 1, none⟩ = some (.int .i64 z2) ∧ w'.cell? ⟨(bd.add (k * 3)).block, (bd.add (k * 3)).off + 2, none⟩ = some (.slice zA z3.length zc))) (by kernel_rfl) (HS2.out _ ED.out) (fun hHeld => ?_)
        refine wpAnyH_take (i := 0) (oi := ⟨_, _, _, _, _, _⟩) (v := ?_) rfl (by kernel_rfl) (by kernel_rfl) (by kernel_rfl) (fun _ _ _ h => h) (Or.inl ⟨by rfl, ?_⟩) (by assumption) ?_
        rotate_left
        · intro w' hSw; (try dsimp only at hSw); go_simp; (try with_reducible rfl)
        try simp only [Act.put, List.setIfInBounds_toArray, List.set_cons_zero, List.set_cons_succ]
        refine wpAnyH_take (i := 1) (oi := ⟨_, _, _, _, _, _⟩) (v := ?_) rfl (by kernel_rfl) (by kernel_rfl) (by kernel_rfl) (fun _ _ _ h => h) (Or.inl ⟨by rfl, ?_⟩) (by assumption) ?_
        rotate_left
        · intro w' hSw; (try dsimp only at hSw); go_simp; (try with_reducible rfl)
        try simp only [Act.put, List.setIfInBounds_toArray, List.set_cons_zero, List.set_cons_succ]
        refine wpAnyH_take (i := 2) (oi := ⟨_, _, _, _, _, _⟩) (v := ?_) rfl (by kernel_rfl) (by kernel_rfl) (by kernel_rfl) (fun _ _ _ h => h) (Or.inl ⟨by rfl, ?_⟩) (by assumption) ?_
        rotate_left
        · intro w' hSw; (try dsimp only at hSw); go_simp; (try with_reducible rfl)
        try simp only [Act.put, List.setIfInBounds_toArray, List.set_cons_zero, List.set_cons_succ]
        refine wpAnyH_take (i := 3) (oi := ⟨_, _, _, _, _, _⟩) (v := ?_) rfl (by kernel_rfl) (by kernel_rfl) (by kernel_rfl) (fun _ _ _ h => h) (Or.inl ⟨by rfl, ?_⟩) (by assumption) ?_
        rotate_left
        · intro w' hSw; (try dsimp only at hSw); go_simp; (try with_reducible rfl)
        try simp only [Act.put, List.setIfInBounds_toArray, List.set_cons_zero, List.set_cons_succ]
        refine wpAnyH_take (i := 4) (oi := ⟨_, _, _, _, _, _⟩) (v := ?_) rfl (by kernel_rfl) (by kernel_rfl) (by kernel_rfl) (fun _ _ _ h => h) (Or.inl ⟨by rfl, ?_⟩) (by assumption) ?_
        rotate_left
        · intro w' hSw; (try dsimp only at hSw); go_simp; (try with_reducible rfl)
        try simp only [Act.put, List.setIfInBounds_toArray, List.set_cons_zero, List.set_cons_succ]
        refine wpAnyH_take (i := 5) (oi := ⟨_, _, _, _, _, _⟩) (v := ?_) rfl (by kernel_rfl) (by kernel_rfl) (by kernel_rfl) (fun _ _ _ h => h) (Or.inl ⟨by rfl, ?_⟩) (by assumption) ?_
        rotate_left
        · intro w' hSw; (try dsimp only at hSw); go_simp; (try with_reducible rfl)
        try simp only [Act.put, List.setIfInBounds_toArray, List.set_cons_zero, List.set_cons_succ]
        refine wpAnyH_take (i := 6) (oi := ⟨_, _, _, _, _, _⟩) (v := ?_) rfl (by kernel_rfl) (by kernel_rfl) (by kernel_rfl) (fun _ _ _ h => h) (Or.inl ⟨by rfl, ?_⟩) (by assumption) ?_
        rotate_left
        · intro w' hSw; (try dsimp only at hSw); go_simp; (try with_reducible rfl)
        try simp only [Act.put, List.setIfInBounds_toArray, List.set_cons_zero, List.set_cons_succ]
        refine wpAnyH_take (i := 7) (oi := ⟨_, _, _, _, _, _⟩) (v := ?_) rfl (by kernel_rfl) (by kernel_rfl) (by kernel_rfl) (fun _ _ _ h => h) (Or.inl ⟨by rfl, ?_⟩) (by assumption) ?_
        rotate_left
        · intro w' hSw; (try dsimp only at hSw); go_simp; (try with_reducible rfl)
        try simp only [Act.put, List.setIfInBounds_toArray, List.set_cons_zero, List.set_cons_succ]
        refine wpAnyH_ready (rs := [8]) (by kernel_rfl) (by simp) ?_
        refine AllReadyH.cons (o := ⟨_, _, _, _, _, _⟩) rfl (fun K9 hK9 => ?_) AllReadyH.nil
        go_simp
        (with_reducible refine (HSAME.out _ ED.out).mono ?_)
        rintro e p2 ⟨rfl, bb2⟩
        have E2 := Lib.hid (ED.out.trans (bb2.mono ED.out.size))
        clear bb2
        go_wp2_with fail
        refine hK9.out _ _ (HS2.out _ E2.out) (fun hHeld => ?_)
        clear hK9 K9
        try simp only [Act.put, List.setIfInBounds_toArray, List.set_cons_zero, List.set_cons_succ]
        refine wpAnyH_take (i := 9) (oi := ⟨_, _, _, _, _, _⟩) (v := ?_) rfl (by kernel_rfl) (by kernel_rfl) (by kernel_rfl) (fun _ _ _ h => h) (Or.inl ⟨by rfl, ?_⟩) (by assumption) ?_
        rotate_left
        · intro w' hSw; (try dsimp only at hSw); go_simp; (try with_reducible rfl)
        try simp only [Act.put, List.setIfInBounds_toArray, List.set_cons_zero, List.set_cons_succ]
        refine wpAnyH_done (by kernel_rfl) ?_ _
        clear hHeld HS2 HSAME
        have B2 := Lib.hid (hB.out.trans (E2.out.mono hB.out.size))
        cases r with
        | true =>
          have HN := Lib.hid (HY.out rfl)
          clear HY HNO
          go_wp2_with fail
          go_roundw
          case rel => exact ⟨k + 1, by omega, by go_num, HN, B2⟩
          case measure => first | (simp [RowKit.intOf]; done) | (simp [RowKit.intOf]; omega)
        | false =>
          have HD := Lib.hid (HNO.out rfl)
          clear HY HNO
          go_wp2_with fail
          go_ret
          exact ⟨ret_bool HD.out, B2.out⟩
      · obtain rfl : k = L.length := by omega
        have HD : Hid (true = decide (L.map (·.1) = M.map (·.1))) := Lib.hid (by
          symm
          refine decide_eq_true ?_
          have := hE.out
          rwa [List.take_of_length_le (by simp), List.take_of_length_le (by rw [List.length_map, HLEN.out]; exact Nat.le_refl _)] at this)
        clear hE
        go_wp2_with fail
        go_ret
        exact ⟨ret_bool HD.out, hB.out⟩
  · have HD : Hid (false = decide (L.map (·.1) = M.map (·.1))) := Lib.hid (by
      symm
      refine decide_eq_false (fun e => hlen ?_)
      have := congrArg List.length e
      simpa using this)
    have hne : ¬ (L.length : Int) = (M.length : Int) := by omega
    clear hI hL hI2 hM
    go_enter Try.func24, Try.ntmps24
    go_wp2_with fail
    go_ret
    exact ⟨ret_bool HD.out, Below.refl _ _⟩
end Go.Proofs.Ytonflknnlfffhaa
