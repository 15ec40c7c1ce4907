/- tms.Table: All, Why. -/
import Derived.Test.YtonflknnlfffhaaUk
namespace Go.Proofs.Ytonflknnlfffhaa
open Go.RowKit Go.Lib KP MR RW
/-- A support whose facts lie in a row of the call's own. -/
structure FreshY (B : Nat) (W : World) (y : Wf) : Prop where
  own : OwnI W B y.sl y.1.2.2
  few : y.1.2.2.length ≤ 1000
theorem FreshY.below {B : Nat} {W W' : World} {y : Wf} (h : FreshY B W y) (hb : Below W.heap.size W W') : FreshY B W' y := ⟨OwnW.below h.own hb, h.few⟩
theorem FreshY.keep {B : Nat} {F : Nat → Prop} {W W' : World} {y : Wf} (h : FreshY B W y) (hk : Keep F W W') (hd : ∀ k, y.sl.ownBlock = some k → ¬ F k) : FreshY B W' y := ⟨OwnW.keep h.own hk hd, h.few⟩
theorem FreshY.arg {B : Nat} {W : World} {y : Wf} (h : FreshY B W y) : ArgY W y := ArgY.of h.own h.few
/-- Supports told in a row of the call's own. -/
def ToldY (W : World) (T : List Wy) (e : Ending) (w' : World) : Prop :=
  ∃ (A : Option Addr) (ys : List Wf), e = .returned (.slice A T.length T.length) ∧ ys.map (·.1) = T ∧ OwnW w' W.heap.size 50 3 (.slice A T.length T.length) T.length (ys.flatMap whyc) ∧ (∀ y ∈ ys, FreshY W.heap.size w' y) ∧ Below W.heap.size W w'
section
variable {B : Nat} {F : Nat → Prop} {g m : Nat} {cv : Value} {cs : List Wf} {N : Tb} {W : World} {id : Int}
set_option maxRecDepth 100000 in
set_option maxHeartbeats 8000000 in
theorem all_c (h : TS B F g m cv cs N W) : Calls Try.prog 25 #[.pointer (some ⟨g, 0, none⟩)] W (ToldY W (cs.map (·.1))) := by
  obtain ⟨i0, hi, hz0, hz1, hz2⟩ := info_parts infoW
  obtain ⟨A0, c9, ec, -, -, -⟩ := OwnY.row h.cown
  have hblk := h.blk
  rw [ec] at hblk
  have hcell := block_cell (j := 1) hblk rfl
  have HM : Hid (∀ w', Below W.heap.size W w' → RowsAt whyc 3 (fun _ => False) w' A0 cs ∧ ∀ x ∈ cs, ArgY w' x) := Lib.hid (fun w' hb => by
    obtain ⟨A', c', ev', hr, _, _⟩ := OwnY.row (h.grow hb).cown
    rw [ec] at ev'
    injection ev' with e1 _ _
    rw [e1]
    exact ⟨hr, fun x hx => ((h.grow hb).facts x (.inl hx)).arg⟩)
  have hlI := h.cf
  clear h hblk ec
  generalize cs = L at *
  have hnI : (L.length : Int) ≤ 10000 := by omega
  go_enter Try.func25, Try.ntmps25
  go_wp2_with fail
  go_loopw [3, 11] (fun v i wr => ∃ (k : Nat) (ys : List Wf) (vo : Value), k ≤ L.length ∧ i = .int .i64 k ∧ vo = v ∧ ys.length ≤ k ∧ Hid (ys.map (·.1) = (L.map (·.1)).take k) ∧ Hid (OwnW wr W.heap.size 50 3 vo ys.length (ys.flatMap whyc)) ∧ Hid (∀ y ∈ ys, FreshY W.heap.size wr y) ∧ Hid (Below W.heap.size W wr)) (fun _ i _ => L.length - (RowKit.intOf i).toNat)
  case atStart => exact ⟨0, [], _, by omega, rfl, rfl, by simp, Lib.hid (by simp), Lib.hid (OwnW.nil _ _ _ _), Lib.hid (fun _ h => by cases h), Lib.hid (Below.refl _ _)⟩
  case round =>
    obtain ⟨k, ys, vo, hk, rfl, rfl, hyk, hYS, hO, hFr, hB⟩ := hrel
    clear hcell
    by_cases hlt : k < L.length
    · obtain ⟨hrow, harg⟩ := HM.out _ hB.out
      obtain ⟨ad, rfl, -, c0, c1, c2⟩ := whys_at hrow hlt
      have HV := Lib.hid (harg L[k] (List.getElem_mem hlt))
      have hkI : (k : Int) < (L.length : Int) := by omega
      have HT1 := Lib.hid (show (L.map (·.1)).take (k + 1) = (L.map (·.1)).take k ++ [L[k].1] by
        have hT : k < (L.map (·.1)).length := by rw [List.length_map]; exact hlt
        rw [List.take_succ_eq_append_getElem hT]
        simp)
      clear hrow harg
      generalize L[k] = x at *
      obtain ⟨⟨x1, x2, l⟩, xA, xc⟩ := x
      dsimp only at c0 c1 c2 HV HT1
      have YN := Lib.hid (fun (y : Wf) (hy : y.1 = (x1, x2, l)) => (show (ys ++ [y]).map (·.1) = (L.map (·.1)).take (k + 1) by
        rw [HT1.out, List.map_append, hYS.out]; simp [hy]))
      clear HT1
      have E5 := Lib.hid (hB.out.alloc hB.out.size (.cells #[.int .i64 x1, .int .i64 x2, .slice xA l.length xc] 50))
      have D5 := Lib.hid ((Below.refl wr.heap.size wr).alloc (Nat.le_refl _) (.cells #[.int .i64 x1, .int .i64 x2, .slice xA l.length xc] 50))
      go_wp2_with fail
      refine (apart_c ((x1, x2, l), xA, xc) _ (HV.out.below D5.out)).mono ?_
      rintro e w6 ⟨⟨⟨z1, z2, zl⟩, A', c'⟩, rfl, hz1, hf, b6⟩
      have E6 := Lib.hid (E5.out.trans (b6.mono E5.out.size))
      have D6 := Lib.hid (D5.out.trans (b6.mono D5.out.size))
      have HF6 := Lib.hid (show FreshY W.heap.size w6 ((z1, z2, zl), A', c') from ⟨hf.mono E5.out.size, by have e : zl = l := congrArg (fun p : Wy => p.2.2) hz1; show zl.length ≤ 1000; rw [e]; exact HV.out.few⟩)
      have HZ := Lib.hid hz1
      clear hf b6 c0 c1 c2 hz1
      have O7 := Lib.hid ((hO.out.below D6.out).below ((Below.refl w6.heap.size w6).alloc (Nat.le_refl _) (.cells #[.int .i64 z1, .int .i64 z2, .slice A' zl.length c'] 50)))
      have N7 := Lib.hid (new_one (f := whyc) (m := 3) (N := fun _ => False) w6 ((z1, z2, zl), A', c') 50 (fun h => h))
      have E7 := Lib.hid (E6.out.alloc E6.out.size (.cells #[.int .i64 z1, .int .i64 z2, .slice A' zl.length c'] 50))
      have F7 : Hid (∀ y ∈ ys ++ [((z1, z2, zl), A', c')], FreshY W.heap.size (w6.alloc (.cells #[.int .i64 z1, .int .i64 z2, .slice A' zl.length c'] 50)) y) := Lib.hid (fun y hy => by
        rcases List.mem_append.1 hy with hy | hy
        · exact ((hFr.out y hy).below D6.out).below ((Below.refl w6.heap.size w6).alloc (Nat.le_refl _) _)
        · obtain rfl := List.mem_singleton.1 hy
          exact HF6.out.below ((Below.refl w6.heap.size w6).alloc (Nat.le_refl _) _))
      go_wp2_with (at_builtin; (refine wpList_append_ownW (f := whyc) whyc_len whyc_flat (by decide) rfl (.tmp 15) (.tmp 18) 46 rfl W.heap.size 50 i0 zW 40 Try.underlying46 hi hz0 hz1 hz2 rfl vo ys.length ys rfl O7.out (some ⟨w6.heap.size, 0, none⟩) 1 [((z1, z2, zl), A', c')] (fun h => by cases h) N7.out rfl (by unfold maxLen; simp; omega) (by simp; omega) E7.out.size ?_))
      intro v8 w8 ho8 hg8 _
      have E8 := Lib.hid (E7.out.grown hg8 E7.out.size (fun q hq => (O7.out.lt hq).1))
      have O8 := Lib.hid (show OwnW w8 W.heap.size 50 3 v8 (ys ++ [((z1, z2, zl), A', c')]).length ((ys ++ [((z1, z2, zl), A', c')]).flatMap whyc) by rw [List.length_append, List.flatMap_append, List.flatMap_singleton]; exact ho8)
      have K8 := Lib.hid ((Keep.refl (fun k => vo.ownBlock = some k) _).grown hg8 (fun q hq => .inl hq))
      have F8 : Hid (∀ y ∈ ys ++ [((z1, z2, zl), A', c')], FreshY W.heap.size w8 y) := Lib.hid (fun y hy => (F7.out y hy).keep K8.out (fun q hq hv => own_apart (F7.out y hy).own O7.out (by decide) q hq hv))
      clear ho8 hg8
      go_wp2_with fail
      go_roundw
      case rel => exact ⟨k + 1, ys ++ [((z1, z2, zl), A', c')], _, by omega, by go_num, rfl, by simp; omega, Lib.hid (YN.out _ HZ.out), O8, F8, E8⟩
      case measure => first | (simp [RowKit.intOf]; done) | (simp [RowKit.intOf]; omega)
    · obtain rfl : k = L.length := by omega
      have HN := Lib.hid (show ys.map (·.1) = L.map (·.1) by
        rw [hYS.out, List.take_of_length_le (by rw [List.length_map]; exact Nat.le_refl _)])
      obtain ⟨A, c, hv, _, _, hle, _⟩ := hO.out.rows (N := fun _ => False) whyc_len (by decide) (fun _ _ h => h)
      subst hv
      have HC := Lib.hid hO.out.clip
      clear hlt hYS
      go_wp2_with fail
      refine (clipW_c A ys.length c _ hle).mono ?_
      rintro e w9 ⟨rfl, rfl⟩
      go_wp2_with fail
      go_ret
      have hyl : ys.length = (L.map (·.1)).length := by rw [← HN.out, List.length_map]
      exact ⟨A, ys, by rw [← hyl]; rfl, HN.out, by rw [← hyl]; exact HC.out, hFr.out, hB.out⟩

/-- Supports told, and whether the fact is free. -/
def ToldW (W : World) (T : List Wy) (f : Bool) (e : Ending) (w' : World) : Prop := ∃ v, e = .returned (.tuple #[v, .bool f]) ∧ ToldY W T (.returned v) w'
theorem told_nil (W : World) : ToldY W [] (.returned (.slice none 0 0)) W := ⟨none, [], rfl, rfl, OwnW.nil _ _ _ _, (fun _ h => by cases h), Below.refl _ _⟩
set_option maxRecDepth 100000 in
set_option maxHeartbeats 8000000 in
theorem why_no (h : TS B F g m cv cs N W) (hl : lk N id = none) : Calls Try.prog 23 #[.pointer (some ⟨g, 0, none⟩), .int .i64 id] W fun e w' => e = .returned (.tuple #[.slice none 0 0, .bool false]) ∧ W = w' := by
  have hc0 := block_cell (j := 0) h.blk rfl
  have hlk := h.look_no hl
  clear h hl
  go_enter Try.func23, Try.ntmps23
  go_wp2_with fail
  go_ret2
  exact ⟨rfl, rfl⟩
set_option maxRecDepth 100000 in
set_option maxHeartbeats 8000000 in
theorem why_yes {nb : Nat} {nf : Bool} {nv : Value} {L : List Wf} (h : TS B F g m cv cs N W) (hl : lk N id = some ⟨nb, nf, nv, L⟩) : Calls Try.prog 23 #[.pointer (some ⟨g, 0, none⟩), .int .i64 id] W (ToldW W (L.map (·.1)) nf) := by
  obtain ⟨i0, hi, hz0, hz1, hz2⟩ := info_parts infoW
  have hmem := lk_some hl
  obtain ⟨A0, c9, ec, -, -, -⟩ := OwnY.row (h.own _ hmem)
  have hblk := h.node _ hmem
  dsimp only at hblk ec
  rw [ec] at hblk
  have hcell := block_cell (j := 1) hblk rfl
  have hg0 := block_cell (j := 0) h.blk rfl
  have hlk := h.look_yes hl
  have HC1 := Lib.hid (block_cell (j := 0) hblk rfl)
  have HM : Hid (∀ w', Below W.heap.size W w' → RowsAt whyc 3 (fun _ => False) w' A0 L ∧ ∀ x ∈ L, ArgY w' x) := Lib.hid (fun w' hb => by
    obtain ⟨A', c', ev', hr, _, _⟩ := OwnY.row ((h.grow hb).own _ hmem)
    dsimp only at ev' hr
    rw [ec] at ev'
    injection ev' with e1 _ _
    rw [e1]
    exact ⟨hr, fun x hx => ((h.grow hb).facts x (.inr ⟨_, hmem, hx⟩)).arg⟩)
  have hlI := h.lf _ hmem
  dsimp only at hlI hlk
  have hnI : (L.length : Int) ≤ 10000 := by omega
  clear h hblk ec hmem hl
  go_enter Try.func23, Try.ntmps23
  go_wp2_with fail
  go_loopw [7, 23] (fun v i wr => ∃ (k : Nat) (ys : List Wf) (vo : Value), k ≤ L.length ∧ i = .int .i64 k ∧ vo = v ∧ ys.length ≤ k ∧ Hid (ys.map (·.1) = (L.map (·.1)).take k) ∧ Hid (OwnW wr W.heap.size 50 3 vo ys.length (ys.flatMap whyc)) ∧ Hid (∀ y ∈ ys, FreshY W.heap.size wr y) ∧ Hid (Below W.heap.size W wr)) (fun _ i _ => L.length - (RowKit.intOf i).toNat)
  case atStart => exact ⟨0, [], _, by omega, rfl, rfl, by simp, Lib.hid (by simp), Lib.hid (OwnW.nil _ _ _ _), Lib.hid (fun _ h => by cases h), Lib.hid (Below.refl _ _)⟩
  case round =>
    obtain ⟨k, ys, vo, hk, rfl, rfl, hyk, hYS, hO, hFr, hB⟩ := hrel
    clear hcell hg0 hlk
    by_cases hlt : k < L.length
    · obtain ⟨hrow, harg⟩ := HM.out _ hB.out
      obtain ⟨ad, rfl, -, c0, c1, c2⟩ := whys_at hrow hlt
      have HV := Lib.hid (harg L[k] (List.getElem_mem hlt))
      have hkI : (k : Int) < (L.length : Int) := by omega
      have HT1 := Lib.hid (show (L.map (·.1)).take (k + 1) = (L.map (·.1)).take k ++ [L[k].1] by
        have hT : k < (L.map (·.1)).length := by rw [List.length_map]; exact hlt
        rw [List.take_succ_eq_append_getElem hT]
        simp)
      clear hrow harg
      generalize L[k] = x at *
      obtain ⟨⟨x1, x2, l⟩, xA, xc⟩ := x
      dsimp only at c0 c1 c2 HV HT1
      have YN := Lib.hid (fun (y : Wf) (hy : y.1 = (x1, x2, l)) => (show (ys ++ [y]).map (·.1) = (L.map (·.1)).take (k + 1) by
        rw [HT1.out, List.map_append, hYS.out]; simp [hy]))
      clear HT1
      have E5 := Lib.hid (hB.out.alloc hB.out.size (.cells #[.int .i64 x1, .int .i64 x2, .slice xA l.length xc] 50))
      have D5 := Lib.hid ((Below.refl wr.heap.size wr).alloc (Nat.le_refl _) (.cells #[.int .i64 x1, .int .i64 x2, .slice xA l.length xc] 50))
      go_wp2_with fail
      refine (apart_c ((x1, x2, l), xA, xc) _ (HV.out.below D5.out)).mono ?_
      rintro e w6 ⟨⟨⟨z1, z2, zl⟩, A', c'⟩, rfl, hz1, hf, b6⟩
      have E6 := Lib.hid (E5.out.trans (b6.mono E5.out.size))
      have D6 := Lib.hid (D5.out.trans (b6.mono D5.out.size))
      have HF6 := Lib.hid (show FreshY W.heap.size w6 ((z1, z2, zl), A', c') from ⟨hf.mono E5.out.size, by have e : zl = l := congrArg (fun p : Wy => p.2.2) hz1; show zl.length ≤ 1000; rw [e]; exact HV.out.few⟩)
      have HZ := Lib.hid hz1
      clear hf b6 c0 c1 c2 hz1
      have O7 := Lib.hid ((hO.out.below D6.out).below ((Below.refl w6.heap.size w6).alloc (Nat.le_refl _) (.cells #[.int .i64 z1, .int .i64 z2, .slice A' zl.length c'] 50)))
      have N7 := Lib.hid (new_one (f := whyc) (m := 3) (N := fun _ => False) w6 ((z1, z2, zl), A', c') 50 (fun h => h))
      have E7 := Lib.hid (E6.out.alloc E6.out.size (.cells #[.int .i64 z1, .int .i64 z2, .slice A' zl.length c'] 50))
      have F7 : Hid (∀ y ∈ ys ++ [((z1, z2, zl), A', c')], FreshY W.heap.size (w6.alloc (.cells #[.int .i64 z1, .int .i64 z2, .slice A' zl.length c'] 50)) y) := Lib.hid (fun y hy => by
        rcases List.mem_append.1 hy with hy | hy
        · exact ((hFr.out y hy).below D6.out).below ((Below.refl w6.heap.size w6).alloc (Nat.le_refl _) _)
        · obtain rfl := List.mem_singleton.1 hy
          exact HF6.out.below ((Below.refl w6.heap.size w6).alloc (Nat.le_refl _) _))
      go_wp2_with (at_builtin; (refine wpList_append_ownW (f := whyc) whyc_len whyc_flat (by decide) rfl (.tmp 27) (.tmp 30) 46 rfl W.heap.size 50 i0 zW 40 Try.underlying46 hi hz0 hz1 hz2 rfl vo ys.length ys rfl O7.out (some ⟨w6.heap.size, 0, none⟩) 1 [((z1, z2, zl), A', c')] (fun h => by cases h) N7.out rfl (by unfold maxLen; simp; omega) (by simp; omega) E7.out.size ?_))
      intro v8 w8 ho8 hg8 _
      have E8 := Lib.hid (E7.out.grown hg8 E7.out.size (fun q hq => (O7.out.lt hq).1))
      have O8 := Lib.hid (show OwnW w8 W.heap.size 50 3 v8 (ys ++ [((z1, z2, zl), A', c')]).length ((ys ++ [((z1, z2, zl), A', c')]).flatMap whyc) by rw [List.length_append, List.flatMap_append, List.flatMap_singleton]; exact ho8)
      have K8 := Lib.hid ((Keep.refl (fun k => vo.ownBlock = some k) _).grown hg8 (fun q hq => .inl hq))
      have F8 : Hid (∀ y ∈ ys ++ [((z1, z2, zl), A', c')], FreshY W.heap.size w8 y) := Lib.hid (fun y hy => (F7.out y hy).keep K8.out (fun q hq hv => own_apart (F7.out y hy).own O7.out (by decide) q hq hv))
      clear ho8 hg8
      go_wp2_with fail
      go_roundw
      case rel => exact ⟨k + 1, ys ++ [((z1, z2, zl), A', c')], _, by omega, by go_num, rfl, by simp; omega, Lib.hid (YN.out _ HZ.out), O8, F8, E8⟩
      case measure => first | (simp [RowKit.intOf]; done) | (simp [RowKit.intOf]; omega)
    · obtain rfl : k = L.length := by omega
      have HN := Lib.hid (show ys.map (·.1) = L.map (·.1) by
        rw [hYS.out, List.take_of_length_le (by rw [List.length_map]; exact Nat.le_refl _)])
      obtain ⟨A, c, hv, _, _, hle, _⟩ := hO.out.rows (N := fun _ => False) whyc_len (by decide) (fun _ _ h => h)
      subst hv
      have HC := Lib.hid hO.out.clip
      clear hlt hYS
      go_wp2_with fail
      have HS2 : Hid (∀ w', Below W.heap.size W w' → (fun w' : World => w'.cell? ⟨nb, 0, none⟩ = some (.bool nf)) w') := Lib.hid (fun w' hb => (hb.cell (World.block_lt_of_cell? _ _ HC1.out)).trans HC1.out)
      have ED := Lib.hid (hB.out.drew)
      have hle2 := hle
      refine wp_region_held_drew (S := (fun w' : World => w'.cell? ⟨nb, 0, none⟩ = some (.bool nf))) (by kernel_rfl) (HS2.out _ ED.out) (fun hHeld => ?_)
      refine wpAnyH_take (i := 0) (oi := ⟨_, _, _, _, _, _⟩) (v := ?_) rfl (by kernel_rfl) (by kernel_rfl) (by kernel_rfl) (fun _ _ _ h => h) (Or.inl ⟨by rfl, ?_⟩) (by assumption) ?_
      rotate_left
      · intro w' hSw; (try dsimp only at hSw); go_simp; (try with_reducible rfl)
      try simp only [Act.put, List.setIfInBounds_toArray, List.set_cons_zero, List.set_cons_succ]
      refine wpAnyH_take (i := 2) (oi := ⟨_, _, _, _, _, _⟩) (v := ?_) rfl (by kernel_rfl) (by kernel_rfl) (by kernel_rfl) (fun _ _ _ h => h) (Or.inl ⟨by rfl, ?_⟩) (by assumption) ?_
      rotate_left
      · intro w' hSw; (try dsimp only at hSw); go_simp; (try with_reducible rfl)
      try simp only [Act.put, List.setIfInBounds_toArray, List.set_cons_zero, List.set_cons_succ]
      refine wpAnyH_take (i := 3) (oi := ⟨_, _, _, _, _, _⟩) (v := ?_) rfl (by kernel_rfl) (by kernel_rfl) (by kernel_rfl) (fun _ _ _ h => h) (Or.inl ⟨by rfl, ?_⟩) (by assumption) ?_
      rotate_left
      · intro w' hSw; (try dsimp only at hSw); go_simp; (try with_reducible rfl)
      try simp only [Act.put, List.setIfInBounds_toArray, List.set_cons_zero, List.set_cons_succ]
      refine wpAnyH_take (i := 4) (oi := ⟨_, _, _, _, _, _⟩) (v := ?_) rfl (by kernel_rfl) (by kernel_rfl) (by kernel_rfl) (fun _ _ _ h => h) (Or.inl ⟨by rfl, ?_⟩) (by assumption) ?_
      rotate_left
      · intro w' hSw; (try dsimp only at hSw); go_simp; (try with_reducible rfl)
      try simp only [Act.put, List.setIfInBounds_toArray, List.set_cons_zero, List.set_cons_succ]
      refine wpAnyH_take (i := 5) (oi := ⟨_, _, _, _, _, _⟩) (v := ?_) rfl (by kernel_rfl) (by kernel_rfl) (by kernel_rfl) (fun _ _ _ h => h) (Or.inl ⟨by rfl, ?_⟩) (by assumption) ?_
      rotate_left
      · intro w' hSw; (try dsimp only at hSw); go_simp; (try with_reducible rfl)
      try simp only [Act.put, List.setIfInBounds_toArray, List.set_cons_zero, List.set_cons_succ]
      refine wpAnyH_ready (rs := [1]) (by kernel_rfl) (by simp) ?_
      refine AllReadyH.cons (o := ⟨_, _, _, _, _, _⟩) rfl (fun K9 hK9 => ?_) AllReadyH.nil
      go_simp
      (with_reducible refine (clipW_c A ys.length c _ hle2).mono ?_)
      rintro e p1 ⟨rfl, rfl⟩
      go_wp2_with fail
      refine hK9.out _ _ (HS2.out _ ED.out) (fun hHeld => ?_)
      clear hK9 K9
      try simp only [Act.put, List.setIfInBounds_toArray, List.set_cons_zero, List.set_cons_succ]
      refine wpAnyH_take (i := 6) (oi := ⟨_, _, _, _, _, _⟩) (v := ?_) rfl (by kernel_rfl) (by kernel_rfl) (by kernel_rfl) (fun _ _ _ h => h) (Or.inl ⟨by rfl, ?_⟩) (by assumption) ?_
      rotate_left
      · intro w' hSw; (try dsimp only at hSw); go_simp; (try with_reducible rfl)
      try simp only [Act.put, List.setIfInBounds_toArray, List.set_cons_zero, List.set_cons_succ]
      refine wpAnyH_take (i := 7) (oi := ⟨_, _, _, _, _, _⟩) (v := ?_) rfl (by kernel_rfl) (by kernel_rfl) (by kernel_rfl) (fun _ _ _ h => h) (Or.inl ⟨by rfl, ?_⟩) (by assumption) ?_
      rotate_left
      · intro w' hSw; (try dsimp only at hSw); go_simp; (try with_reducible rfl)
      try simp only [Act.put, List.setIfInBounds_toArray, List.set_cons_zero, List.set_cons_succ]
      refine wpAnyH_done (by kernel_rfl) ?_ _
      clear hHeld HS2
      have HOUT : Hid (ToldY W (L.map (·.1)) (.returned (.slice A ys.length ys.length)) wr.drew) := Lib.hid (by
        have hyl : ys.length = (L.map (·.1)).length := by rw [← HN.out, List.length_map]
        exact ⟨A, ys, by rw [← hyl], HN.out, by rw [← hyl]; exact HC.out.below (Below.refl _ _).drew, fun y hy => (hFr.out y hy).below (Below.refl _ _).drew, hB.out.drew⟩)
      clear HC hO hFr HN
      go_wp2_with fail
      go_ret2
      exact ⟨_, rfl, HOUT.out⟩

end
end Go.Proofs.Ytonflknnlfffhaa
