/- TokenPlays. -/
import Derived.Test.YtonflknnlfffhaaLh
namespace Go.Proofs.Ytonflknnlfffhaa
open Go.RowKit Go.Lib KP MR RW
set_option maxRecDepth 100000 in
set_option maxHeartbeats 16000000 in
theorem tokenPlays_good (A : Option Addr) (c : Nat) (l : List Tk) (w : World) (hT : ToksAt (fun _ => False) w A l) (hl : l.length ≤ 80) : Calls Try.prog 3 #[.slice A l.length c] w fun e w' => e = .returned (.bool true) ∧ Below w.heap.size w w' := by
  obtain ⟨i0, hi, hz0, hz1, hz2⟩ := info_parts infoI
  obtain ⟨i0K, hiK, hz0K, hz1K, hz2K⟩ := info_parts infoK
  have HT := Lib.hid (fun w' (h : Below w.heap.size w w') => RowsAt.below hT h)
  have hlI : (l.length : Int) ≤ 80 := by omega
  clear hT
  go_enter Try.func3, Try.ntmps3
  go_wp2_with fail
  refine (known_c w).mono ?_
  rintro e w1 ⟨rfl, b1⟩
  have E1 := Lib.hid b1; clear b1
  go_wp2_with fail
  refine (new_t w1).mono ?_
  rintro e w2 ⟨g, F2, rfl, t2, _⟩
  have S2 : Hid (Sp w1 g F2 [] 1 (.slice none 0 0) 0 w2) := Lib.hid ⟨t2, OwnW.nil _ _ _ _, (fun k h => by cases h), by simp, by simp⟩
  clear t2
  go_wp2_with fail
  go_loopw [4, 5, 6] (fun v n iv wr => ∃ (i : Nat) (F : Nat → Prop) (T : List Tk) (nx : Int) (vo : Value), i ≤ l.length ∧ iv = .int .i64 i ∧ vo = v ∧ n = .int .i64 nx ∧ Hid (Sp w1 g F T nx vo i wr)) (fun _ _ iv _ => l.length - (RowKit.intOf iv).toNat)
  case atStart => exact ⟨0, F2, [], 1, _, by omega, rfl, rfl, rfl, S2⟩
  case round =>
    obtain ⟨i, F, T, nx, vo, hin, rfl, rfl, rfl, HP⟩ := hrel
    clear S2
    obtain ⟨RA, rc, ev, -, hRA, -⟩ := HP.out.row
    subst ev
    have HRA := Lib.hid hRA
    clear hRA
    by_cases hlt : i < l.length
    · have hiI : (i : Int) < (l.length : Int) := by omega
      obtain ⟨ad, rfl, -, c0, c1, c2⟩ := ToksAt.at (HT.out _ (E1.out.trans (HP.out.tree.below.mono E1.out.size))) hlt
      generalize l[i].1 = op at *
      generalize l[i].2.1 = aA at *
      generalize l[i].2.2 = aB at *
      go_upto_region 12 with (fail)
      have DB := (Below.refl wr.heap.size wr).alloc (Nat.le_refl _) (.cells #[.int .i64 op, .int .i64 aA, .int .i64 aB] 28)
      have SB := Lib.hid (HP.out.below DB)
      have CB : Hid (∀ j v, (tokc (op, aA, aB))[j]? = some v → (wr.alloc (.cells #[.int .i64 op, .int .i64 aA, .int .i64 aB] 28)).cell? ⟨wr.heap.size, j, none⟩ = some v) := Lib.hid (fun j v hv => block_cell (heap_alloc_new wr _) (by simpa using hv))
      have NFB : Hid (¬ F wr.heap.size) := Lib.hid (fun hF => by have := (HP.out.tree.lt _ hF).2; omega)
      clear DB HP
      generalize hwB : wr.alloc (.cells #[.int .i64 op, .int .i64 aA, .int .i64 aB] 28) = wB at *
      generalize hbA : wr.heap.size = bA at *
      clear hwB hbA c0 c1 c2
      have TB := Lib.hid SB.out.tree
      have RB : Hid (ToksAt (fun _ => False) wB RA T) := Lib.hid (by
        obtain ⟨A', c', ev, hr, _, _⟩ := SB.out.row
        injection ev with ev1 _ ev2
        subst ev1 ev2
        exact hr)
      have cO := CB.out 0 _ rfl
      have cA := CB.out 1 _ rfl
      have cB := CB.out 2 _ rfl
      by_cases h1 : op = 1
      · have e1 : (op == 1) = true := by simp [h1]
        as_aux_lemma =>
          subst h1
          have hnx0 := TB.out.nx1
          have hnxI : nx ≤ 100 := by have := SB.out.nx; omega
          have HBA : Hid (∀ w', Keep F wB w' → w'.cell? ⟨bA, 1, none⟩ = some (.int .i64 aA) ∧ w'.cell? ⟨bA, 2, none⟩ = some (.int .i64 aB)) := Lib.hid (fun w' hk => ⟨hk.cell (CB.out 1 _ rfl) NFB.out, hk.cell (CB.out 2 _ rfl) NFB.out⟩)
          by_cases hp : aA = 0 ∨ ∃ t ∈ T, t.1 = aA
          · go_wp2_with fail
            refine (add_t TB.out aA aB hp (by have := SB.out.len; omega) (by have := SB.out.nx; omega)).mono ?_
            rintro e w3 ⟨rfl, F3, t3, f31, f32, k3⟩
            have T3d := Lib.hid t3
            have HS3 := HBA.out w3 k3
            have O3 := Lib.hid (SB.out.rowKeep k3)
            have T3 : Hid (TreeT w1.heap.size w1 F3 g (T ++ [(nx, aA, aB)]) (nx + 1) w3.drew) := Lib.hid (t3.grow ((Below.refl _ w3).drew))
            have L3 : Hid (∀ k, F3 k → k < w3.drew.heap.size) := Lib.hid (fun k hF => (t3.lt k hF).2)
            have Q3 : Hid (w1.heap.size ≤ w3.drew.heap.size) := Lib.hid t3.size
            have LN : Hid ((T ++ [(nx, aA, aB)]).length = T.length + 1) := Lib.hid (by simp)
            have hr3 : ToksAt (fun _ => False) w3 RA T := by
              obtain ⟨A', c', ev, hr, _, _, _⟩ := OwnW.rows (N := fun _ => False) tokc_len (by decide) O3.out (fun _ _ h => h)
              injection ev with ev1 _ ev2
              subst ev1 ev2
              exact hr
            have RK : Hid (ToksAt (fun _ => False) w3.drew RA T) := Lib.hid (hr3.below ((Below.refl _ w3).drew))
            have E0 := Lib.hid (Below.refl w3.drew.heap.size w3.drew)
            have HS20 : Hid (∀ w', Below w3.drew.heap.size w3.drew w' → (fun w' : World => w'.cell? ⟨bA, 1, none⟩ = some (.int .i64 aA) ∧ w'.cell? ⟨bA, 2, none⟩ = some (.int .i64 aB)) w') := Lib.hid (fun w' h => ⟨(h.cell (p := ⟨bA, 1, none⟩) (World.block_lt_of_cell? _ _ HS3.1)).trans HS3.1, (h.cell (p := ⟨bA, 2, none⟩) (World.block_lt_of_cell? _ _ HS3.2)).trans HS3.2⟩)
            clear cO cA cB
            obtain ⟨cA, cB⟩ := HS3
            have HCA := Lib.hid (at_c RA rc T aA w3 hr3 (by have := SB.out.len; omega))
            have hTl : T.length ≤ 80 := by have := SB.out.len; omega
            clear t3 f31 f32 k3 hr3 HBA
            by_cases hz : aA = 0
            · have ez : (aA != 0) = false := by simp [hz]
              clear hz hp
              go_wp2_with fail
              refine wp_region_held_drew (S := (fun w' : World => w'.cell? ⟨bA, 1, none⟩ = some (.int .i64 aA) ∧ w'.cell? ⟨bA, 2, none⟩ = some (.int .i64 aB))) (by kernel_rfl) (HS20.out _ E0.out) (fun hHeld => ?_)
              refine wpAnyH_take (i := 1) (oi := ⟨_, _, _, _, _, _⟩) (v := ?_) rfl (by kernel_rfl) (by kernel_rfl) (by kernel_rfl) (fun _ _ _ h => h) (Or.inl ⟨by rfl, ?_⟩) (by assumption) ?_
              rotate_left
              · intro w' hSw; (try dsimp only at hSw); go_simp; (try with_reducible rfl)
              try simp only [Act.put, List.setIfInBounds_toArray, List.set_cons_zero, List.set_cons_succ]
              refine wpAnyH_take (i := 3) (oi := ⟨_, _, _, _, _, _⟩) (v := ?_) rfl (by kernel_rfl) (by kernel_rfl) (by kernel_rfl) (fun _ _ _ h => h) (Or.inl ⟨by rfl, ?_⟩) (by assumption) ?_
              rotate_left
              · intro w' hSw; (try dsimp only at hSw); go_simp; (try with_reducible rfl)
              try simp only [Act.put, List.setIfInBounds_toArray, List.set_cons_zero, List.set_cons_succ]
              refine wpAnyH_take (i := 4) (oi := ⟨_, _, _, _, _, _⟩) (v := ?_) rfl (by kernel_rfl) (by kernel_rfl) (by kernel_rfl) (fun _ _ _ h => h) (Or.inl ⟨by rfl, ?_⟩) (by assumption) ?_
              rotate_left
              · intro w' hSw; (try dsimp only at hSw); go_simp; (try with_reducible rfl)
              try simp only [Act.put, List.setIfInBounds_toArray, List.set_cons_zero, List.set_cons_succ]
              refine wpAnyH_take (i := 5) (oi := ⟨_, _, _, _, _, _⟩) (v := ?_) rfl (by kernel_rfl) (by kernel_rfl) (by kernel_rfl) (fun _ _ _ h => h) (Or.inl ⟨by rfl, ?_⟩) (by assumption) ?_
              rotate_left
              · intro w' hSw; (try dsimp only at hSw); go_simp; (try with_reducible rfl)
              try simp only [Act.put, List.setIfInBounds_toArray, List.set_cons_zero, List.set_cons_succ]
              refine wpAnyH_take (i := 6) (oi := ⟨_, _, _, _, _, _⟩) (v := ?_) rfl (by kernel_rfl) (by kernel_rfl) (by kernel_rfl) (fun _ _ _ h => h) (Or.inl ⟨by rfl, ?_⟩) (by assumption) ?_
              rotate_left
              · intro w' hSw; (try dsimp only at hSw); go_simp; (try with_reducible rfl)
              try simp only [Act.put, List.setIfInBounds_toArray, List.set_cons_zero, List.set_cons_succ]
              refine wpAnyH_take (i := 7) (oi := ⟨_, _, _, _, _, _⟩) (v := ?_) rfl (by kernel_rfl) (by kernel_rfl) (by kernel_rfl) (fun _ _ _ h => h) (Or.inl ⟨by rfl, ?_⟩) (by assumption) ?_
              rotate_left
              · intro w' hSw; (try dsimp only at hSw); go_simp; (try with_reducible rfl)
              try simp only [Act.put, List.setIfInBounds_toArray, List.set_cons_zero, List.set_cons_succ]
              refine wpAnyH_take (i := 8) (oi := ⟨_, _, _, _, _, _⟩) (v := ?_) rfl (by kernel_rfl) (by kernel_rfl) (by kernel_rfl) (fun _ _ _ h => h) (Or.inl ⟨by rfl, ?_⟩) (by assumption) ?_
              rotate_left
              · intro w' hSw; (try dsimp only at hSw); go_simp; (try with_reducible rfl)
              try simp only [Act.put, List.setIfInBounds_toArray, List.set_cons_zero, List.set_cons_succ]
              refine wpAnyH_ready (rs := [0, 9]) (by kernel_rfl) (by simp) ?_
              refine (AllReadyH.cons (o := ⟨_, _, _, _, _, _⟩) rfl (fun K9 hK9 => ?_) (AllReadyH.cons (o := ⟨_, _, _, _, _, _⟩) rfl (fun K9 hK9 => ?_) AllReadyH.nil))
              · refine step_build0 rfl 26 rfl 34 i0K 3 _ Try.underlying26 hiK (Nat.le_refl _) ?_
                intro va p1 ho hb
                have E1 := Lib.hid (E0.out.trans (hb.mono E0.out.size))
                have OA := Lib.hid (ho.mono E0.out.size)
                clear ho hb
                refine hK9.out _ _ (HS20.out _ E1.out) (fun hHeld => ?_)
                clear hK9 K9
                try simp only [Act.put, List.setIfInBounds_toArray, List.set_cons_zero, List.set_cons_succ]
                refine wpAnyH_ready (rs := [2, 9]) (by kernel_rfl) (by simp) ?_
                refine (AllReadyH.cons (o := ⟨_, _, _, _, _, _⟩) rfl (fun K9 hK9 => ?_) (AllReadyH.cons (o := ⟨_, _, _, _, _, _⟩) rfl (fun K9 hK9 => ?_) AllReadyH.nil))
                · refine step_append_ownN (f := tokc) tokc_len tokc_flat (by decide) rfl (.tmp 74) (.tmp 75) 26 rfl w3.drew.heap.size 34 i0K zK 24 Try.underlying26 hiK hz0K hz1K hz2K rfl va 0 [] rfl OA.out RA rc T T.length rfl HRA.out (RowsAt.below RK.out E1.out) rfl (by unfold maxLen; omega) (by omega) E1.out.size ?_
                  intro v2 p2 ho hg _
                  have E2 := Lib.hid (E1.out.grown hg E1.out.size (fun q hq => (OA.out.lt hq).1))
                  have O2 : Hid (OwnW p2 w3.drew.heap.size 34 3 v2 T.length (T.flatMap tokc)) := Lib.hid (by have h := ho; rw [Nat.zero_add, List.nil_append] at h; exact h)
                  clear ho hg
                  refine hK9.out _ _ (HS20.out _ E2.out) (fun hHeld => ?_)
                  clear hK9 K9
                  try simp only [Act.put, List.setIfInBounds_toArray, List.set_cons_zero, List.set_cons_succ]
                  refine wpAnyH_ready (rs := [9]) (by kernel_rfl) (by simp) ?_
                  refine AllReadyH.cons (o := ⟨_, _, _, _, _, _⟩) rfl (fun K9 hK9 => ?_) AllReadyH.nil
                  refine step_build1 (f := tokc) (m := 3) rfl 26 (.tmp 82) rfl 34 i0K zK Try.underlying26 hiK hz0K hz1K (by decide) (by decide) (nx, aA, aB) _ rfl (fillK (nx, aA, aB)) ?_
                  intro gb p3 nb hb hg1 hg2
                  have E3 := Lib.hid (E2.out.trans (hb.mono E2.out.size))
                  have NB := Lib.hid nb
                  have GB := Lib.hid hg2
                  have O2 := Lib.hid (OwnW.below O2.out hb)
                  clear nb hb hg1 hg2
                  refine hK9.out _ _ (HS20.out _ E3.out) (fun hHeld => ?_)
                  clear hK9 K9
                  try simp only [Act.put, List.setIfInBounds_toArray, List.set_cons_zero, List.set_cons_succ]
                  refine wpAnyH_ready (rs := [10]) (by kernel_rfl) (by simp) ?_
                  refine AllReadyH.cons (o := ⟨_, _, _, _, _, _⟩) rfl (fun K9 hK9 => ?_) AllReadyH.nil
                  refine step_append_ownN (f := tokc) tokc_len tokc_flat (by decide) rfl (.tmp 76) (.tmp 83) 26 rfl w3.drew.heap.size 34 i0K zK 24 Try.underlying26 hiK hz0K hz1K hz2K rfl v2 T.length T rfl O2.out (some ⟨gb, 0, none⟩) 1 [(nx, aA, aB)] 1 rfl (fun h => by cases h) (NB.out.mono (fun _ h => h.elim)) rfl (by unfold maxLen; omega) (by omega) E3.out.size ?_
                  intro v9 w9 ho hg _
                  have EZ := Lib.hid (E3.out.grown hg E3.out.size (fun q hq => (O2.out.lt hq).1))
                  have OZ := Lib.hid ho
                  clear ho hg
                  refine hK9.out _ _ (HS20.out _ EZ.out) (fun hHeld => ?_)
                  clear hK9 K9
                  try simp only [Act.put, List.setIfInBounds_toArray, List.set_cons_zero, List.set_cons_succ]
                  refine wpAnyH_take (i := 11) (oi := ⟨_, _, _, _, _, _⟩) (v := ?_) rfl (by kernel_rfl) (by kernel_rfl) (by kernel_rfl) (fun _ _ _ h => h) (Or.inl ⟨by rfl, ?_⟩) (by assumption) ?_
                  rotate_left
                  · intro w' hSw; (try dsimp only at hSw); go_simp; (try with_reducible rfl)
                  try simp only [Act.put, List.setIfInBounds_toArray, List.set_cons_zero, List.set_cons_succ]
                  refine wpAnyH_done (by kernel_rfl) ?_ _
                  clear hHeld
                  obtain ⟨A9, c9, ev9, -, -, -, -⟩ := OwnW.rows (l := T ++ [(nx, aA, aB)]) (N := fun _ => False) tokc_len (by decide) OZ.out (fun _ _ h => h)
                  rw [LN.out] at ev9
                  subst ev9
                  have SN : Hid (Sp w1 g F3 (T ++ [(nx, aA, aB)]) (nx + 1) (.slice A9 (T.length + 1) c9) (i + 1) w9) := Lib.hid (Sp.new (T3.out.grow (EZ.out)) (by have h := OZ.out; unfold OwnK; rw [LN.out]; exact h) L3.out Q3.out (by have := SB.out.len; simp; omega) (by have := SB.out.nx; omega))
                  clear OZ EZ
                  go_wp2_with fail
                  refine (len_t SN.out.tree).mono ?_
                  rintro e w10 ⟨rfl, rfl⟩
                  rw [LN.out]
                  go_wp2_with fail
                  go_roundw
                  case rel => exact ⟨i + 1, F3, T ++ [(nx, aA, aB)], nx + 1, _, by omega, by go_num, rfl, rfl, SN⟩
                  case measure => first | (simp [RowKit.intOf]; done) | (simp [RowKit.intOf]; omega)
                · refine step_build1 (f := tokc) (m := 3) rfl 26 (.tmp 82) rfl 34 i0K zK Try.underlying26 hiK hz0K hz1K (by decide) (by decide) (nx, aA, aB) _ rfl (fillK (nx, aA, aB)) ?_
                  intro gb p5 nb hb hg1 hg2
                  have E5 := Lib.hid (E1.out.trans (hb.mono E1.out.size))
                  have NB := Lib.hid nb
                  have GB := Lib.hid hg2
                  have APN : Hid (∀ k, va.ownBlock = some k → k ≠ gb) := Lib.hid (fun k hk e => by have h1 := (OA.out.lt hk).2; omega)
                  have OA := Lib.hid (OwnW.below OA.out hb)
                  clear nb hb hg1 hg2
                  refine hK9.out _ _ (HS20.out _ E5.out) (fun hHeld => ?_)
                  clear hK9 K9
                  try simp only [Act.put, List.setIfInBounds_toArray, List.set_cons_zero, List.set_cons_succ]
                  refine wpAnyH_ready (rs := [2]) (by kernel_rfl) (by simp) ?_
                  refine AllReadyH.cons (o := ⟨_, _, _, _, _, _⟩) rfl (fun K9 hK9 => ?_) AllReadyH.nil
                  refine step_append_ownN (f := tokc) tokc_len tokc_flat (by decide) rfl (.tmp 74) (.tmp 75) 26 rfl w3.drew.heap.size 34 i0K zK 24 Try.underlying26 hiK hz0K hz1K hz2K rfl va 0 [] rfl OA.out RA rc T T.length rfl HRA.out (RowsAt.below RK.out E5.out) rfl (by unfold maxLen; omega) (by omega) E5.out.size ?_
                  intro v2 p6 ho hg _
                  have E6 := Lib.hid (E5.out.grown hg E5.out.size (fun q hq => (OA.out.lt hq).1))
                  have O2 : Hid (OwnW p6 w3.drew.heap.size 34 3 v2 T.length (T.flatMap tokc)) := Lib.hid (by have h := ho; rw [Nat.zero_add, List.nil_append] at h; exact h)
                  have NB := Lib.hid (RowsAt.keep (F := fun k => va.ownBlock = some k) NB.out ((Keep.refl _ _).grown hg (fun q hq => .inl hq)) (fun k hk => APN.out k hk))
                  clear ho hg
                  refine hK9.out _ _ (HS20.out _ E6.out) (fun hHeld => ?_)
                  clear hK9 K9
                  try simp only [Act.put, List.setIfInBounds_toArray, List.set_cons_zero, List.set_cons_succ]
                  refine wpAnyH_ready (rs := [10]) (by kernel_rfl) (by simp) ?_
                  refine AllReadyH.cons (o := ⟨_, _, _, _, _, _⟩) rfl (fun K9 hK9 => ?_) AllReadyH.nil
                  refine step_append_ownN (f := tokc) tokc_len tokc_flat (by decide) rfl (.tmp 76) (.tmp 83) 26 rfl w3.drew.heap.size 34 i0K zK 24 Try.underlying26 hiK hz0K hz1K hz2K rfl v2 T.length T rfl O2.out (some ⟨gb, 0, none⟩) 1 [(nx, aA, aB)] 1 rfl (fun h => by cases h) (NB.out.mono (fun _ h => h.elim)) rfl (by unfold maxLen; omega) (by omega) E6.out.size ?_
                  intro v9 w9 ho hg _
                  have EZ := Lib.hid (E6.out.grown hg E6.out.size (fun q hq => (O2.out.lt hq).1))
                  have OZ := Lib.hid ho
                  clear ho hg
                  refine hK9.out _ _ (HS20.out _ EZ.out) (fun hHeld => ?_)
                  clear hK9 K9
                  try simp only [Act.put, List.setIfInBounds_toArray, List.set_cons_zero, List.set_cons_succ]
                  refine wpAnyH_take (i := 11) (oi := ⟨_, _, _, _, _, _⟩) (v := ?_) rfl (by kernel_rfl) (by kernel_rfl) (by kernel_rfl) (fun _ _ _ h => h) (Or.inl ⟨by rfl, ?_⟩) (by assumption) ?_
                  rotate_left
                  · intro w' hSw; (try dsimp only at hSw); go_simp; (try with_reducible rfl)
                  try simp only [Act.put, List.setIfInBounds_toArray, List.set_cons_zero, List.set_cons_succ]
                  refine wpAnyH_done (by kernel_rfl) ?_ _
                  clear hHeld
                  obtain ⟨A9, c9, ev9, -, -, -, -⟩ := OwnW.rows (l := T ++ [(nx, aA, aB)]) (N := fun _ => False) tokc_len (by decide) OZ.out (fun _ _ h => h)
                  rw [LN.out] at ev9
                  subst ev9
                  have SN : Hid (Sp w1 g F3 (T ++ [(nx, aA, aB)]) (nx + 1) (.slice A9 (T.length + 1) c9) (i + 1) w9) := Lib.hid (Sp.new (T3.out.grow (EZ.out)) (by have h := OZ.out; unfold OwnK; rw [LN.out]; exact h) L3.out Q3.out (by have := SB.out.len; simp; omega) (by have := SB.out.nx; omega))
                  clear OZ EZ
                  go_wp2_with fail
                  refine (len_t SN.out.tree).mono ?_
                  rintro e w10 ⟨rfl, rfl⟩
                  rw [LN.out]
                  go_wp2_with fail
                  go_roundw
                  case rel => exact ⟨i + 1, F3, T ++ [(nx, aA, aB)], nx + 1, _, by omega, by go_num, rfl, rfl, SN⟩
                  case measure => first | (simp [RowKit.intOf]; done) | (simp [RowKit.intOf]; omega)
              · refine step_build1 (f := tokc) (m := 3) rfl 26 (.tmp 82) rfl 34 i0K zK Try.underlying26 hiK hz0K hz1K (by decide) (by decide) (nx, aA, aB) _ rfl (fillK (nx, aA, aB)) ?_
                intro gb p8 nb hb hg1 hg2
                have E8 := Lib.hid (E0.out.trans (hb.mono E0.out.size))
                have NB := Lib.hid nb
                have GB := Lib.hid hg2
                clear nb hb hg1 hg2
                refine hK9.out _ _ (HS20.out _ E8.out) (fun hHeld => ?_)
                clear hK9 K9
                try simp only [Act.put, List.setIfInBounds_toArray, List.set_cons_zero, List.set_cons_succ]
                refine wpAnyH_ready (rs := [0]) (by kernel_rfl) (by simp) ?_
                refine AllReadyH.cons (o := ⟨_, _, _, _, _, _⟩) rfl (fun K9 hK9 => ?_) AllReadyH.nil
                refine step_build0 rfl 26 rfl 34 i0K 3 _ Try.underlying26 hiK (Nat.le_refl _) ?_
                intro va p9 ho hb
                have E9 := Lib.hid (E8.out.trans (hb.mono E8.out.size))
                have OA := Lib.hid (ho.mono E8.out.size)
                have APN : Hid (∀ k, va.ownBlock = some k → k ≠ gb) := Lib.hid (fun k hk e => by have h1 := (OwnW.lt ho hk).1; have h2 := GB.out; omega)
                have NB := Lib.hid (RowsAt.below NB.out hb)
                clear ho hb
                refine hK9.out _ _ (HS20.out _ E9.out) (fun hHeld => ?_)
                clear hK9 K9
                try simp only [Act.put, List.setIfInBounds_toArray, List.set_cons_zero, List.set_cons_succ]
                refine wpAnyH_ready (rs := [2]) (by kernel_rfl) (by simp) ?_
                refine AllReadyH.cons (o := ⟨_, _, _, _, _, _⟩) rfl (fun K9 hK9 => ?_) AllReadyH.nil
                refine step_append_ownN (f := tokc) tokc_len tokc_flat (by decide) rfl (.tmp 74) (.tmp 75) 26 rfl w3.drew.heap.size 34 i0K zK 24 Try.underlying26 hiK hz0K hz1K hz2K rfl va 0 [] rfl OA.out RA rc T T.length rfl HRA.out (RowsAt.below RK.out E9.out) rfl (by unfold maxLen; omega) (by omega) E9.out.size ?_
                intro v2 p10 ho hg _
                have E10 := Lib.hid (E9.out.grown hg E9.out.size (fun q hq => (OA.out.lt hq).1))
                have O2 : Hid (OwnW p10 w3.drew.heap.size 34 3 v2 T.length (T.flatMap tokc)) := Lib.hid (by have h := ho; rw [Nat.zero_add, List.nil_append] at h; exact h)
                have NB := Lib.hid (RowsAt.keep (F := fun k => va.ownBlock = some k) NB.out ((Keep.refl _ _).grown hg (fun q hq => .inl hq)) (fun k hk => APN.out k hk))
                clear ho hg
                refine hK9.out _ _ (HS20.out _ E10.out) (fun hHeld => ?_)
                clear hK9 K9
                try simp only [Act.put, List.setIfInBounds_toArray, List.set_cons_zero, List.set_cons_succ]
                refine wpAnyH_ready (rs := [10]) (by kernel_rfl) (by simp) ?_
                refine AllReadyH.cons (o := ⟨_, _, _, _, _, _⟩) rfl (fun K9 hK9 => ?_) AllReadyH.nil
                refine step_append_ownN (f := tokc) tokc_len tokc_flat (by decide) rfl (.tmp 76) (.tmp 83) 26 rfl w3.drew.heap.size 34 i0K zK 24 Try.underlying26 hiK hz0K hz1K hz2K rfl v2 T.length T rfl O2.out (some ⟨gb, 0, none⟩) 1 [(nx, aA, aB)] 1 rfl (fun h => by cases h) (NB.out.mono (fun _ h => h.elim)) rfl (by unfold maxLen; omega) (by omega) E10.out.size ?_
                intro v9 w9 ho hg _
                have EZ := Lib.hid (E10.out.grown hg E10.out.size (fun q hq => (O2.out.lt hq).1))
                have OZ := Lib.hid ho
                clear ho hg
                refine hK9.out _ _ (HS20.out _ EZ.out) (fun hHeld => ?_)
                clear hK9 K9
                try simp only [Act.put, List.setIfInBounds_toArray, List.set_cons_zero, List.set_cons_succ]
                refine wpAnyH_take (i := 11) (oi := ⟨_, _, _, _, _, _⟩) (v := ?_) rfl (by kernel_rfl) (by kernel_rfl) (by kernel_rfl) (fun _ _ _ h => h) (Or.inl ⟨by rfl, ?_⟩) (by assumption) ?_
                rotate_left
                · intro w' hSw; (try dsimp only at hSw); go_simp; (try with_reducible rfl)
                try simp only [Act.put, List.setIfInBounds_toArray, List.set_cons_zero, List.set_cons_succ]
                refine wpAnyH_done (by kernel_rfl) ?_ _
                clear hHeld
                obtain ⟨A9, c9, ev9, -, -, -, -⟩ := OwnW.rows (l := T ++ [(nx, aA, aB)]) (N := fun _ => False) tokc_len (by decide) OZ.out (fun _ _ h => h)
                rw [LN.out] at ev9
                subst ev9
                have SN : Hid (Sp w1 g F3 (T ++ [(nx, aA, aB)]) (nx + 1) (.slice A9 (T.length + 1) c9) (i + 1) w9) := Lib.hid (Sp.new (T3.out.grow (EZ.out)) (by have h := OZ.out; unfold OwnK; rw [LN.out]; exact h) L3.out Q3.out (by have := SB.out.len; simp; omega) (by have := SB.out.nx; omega))
                clear OZ EZ
                go_wp2_with fail
                refine (len_t SN.out.tree).mono ?_
                rintro e w10 ⟨rfl, rfl⟩
                rw [LN.out]
                go_wp2_with fail
                go_roundw
                case rel => exact ⟨i + 1, F3, T ++ [(nx, aA, aB)], nx + 1, _, by omega, by go_num, rfl, rfl, SN⟩
                case measure => first | (simp [RowKit.intOf]; done) | (simp [RowKit.intOf]; omega)
            · have ez : (aA != 0) = true := by simp [hz]
              have HPP := Lib.hid (hp.resolve_left hz)
              clear hz hp
              go_wp2_with fail
              refine HCA.out.mono ?_
              rintro e w4 ⟨a, rfl, hat, rfl⟩
              rcases hat with ⟨rfl, hn⟩ | ⟨j, hj, rfl, ej⟩
              · obtain ⟨t, ht, e⟩ := HPP.out
                exact absurd e (hn t ht)
              · have hjI : ¬ ((j : Int) < 0) := by omega
                clear ej HCA
                go_wp2_with fail
                refine wp_region_held_drew (S := (fun w' : World => w'.cell? ⟨bA, 1, none⟩ = some (.int .i64 aA) ∧ w'.cell? ⟨bA, 2, none⟩ = some (.int .i64 aB))) (by kernel_rfl) (HS20.out _ E0.out) (fun hHeld => ?_)
                refine wpAnyH_take (i := 1) (oi := ⟨_, _, _, _, _, _⟩) (v := ?_) rfl (by kernel_rfl) (by kernel_rfl) (by kernel_rfl) (fun _ _ _ h => h) (Or.inl ⟨by rfl, ?_⟩) (by assumption) ?_
                rotate_left
                · intro w' hSw; (try dsimp only at hSw); go_simp; (try with_reducible rfl)
                try simp only [Act.put, List.setIfInBounds_toArray, List.set_cons_zero, List.set_cons_succ]
                refine wpAnyH_take (i := 3) (oi := ⟨_, _, _, _, _, _⟩) (v := ?_) rfl (by kernel_rfl) (by kernel_rfl) (by kernel_rfl) (fun _ _ _ h => h) (Or.inl ⟨by rfl, ?_⟩) (by assumption) ?_
                rotate_left
                · intro w' hSw; (try dsimp only at hSw); go_simp; (try with_reducible rfl)
                try simp only [Act.put, List.setIfInBounds_toArray, List.set_cons_zero, List.set_cons_succ]
                refine wpAnyH_take (i := 4) (oi := ⟨_, _, _, _, _, _⟩) (v := ?_) rfl (by kernel_rfl) (by kernel_rfl) (by kernel_rfl) (fun _ _ _ h => h) (Or.inl ⟨by rfl, ?_⟩) (by assumption) ?_
                rotate_left
                · intro w' hSw; (try dsimp only at hSw); go_simp; (try with_reducible rfl)
                try simp only [Act.put, List.setIfInBounds_toArray, List.set_cons_zero, List.set_cons_succ]
                refine wpAnyH_take (i := 5) (oi := ⟨_, _, _, _, _, _⟩) (v := ?_) rfl (by kernel_rfl) (by kernel_rfl) (by kernel_rfl) (fun _ _ _ h => h) (Or.inl ⟨by rfl, ?_⟩) (by assumption) ?_
                rotate_left
                · intro w' hSw; (try dsimp only at hSw); go_simp; (try with_reducible rfl)
                try simp only [Act.put, List.setIfInBounds_toArray, List.set_cons_zero, List.set_cons_succ]
                refine wpAnyH_take (i := 6) (oi := ⟨_, _, _, _, _, _⟩) (v := ?_) rfl (by kernel_rfl) (by kernel_rfl) (by kernel_rfl) (fun _ _ _ h => h) (Or.inl ⟨by rfl, ?_⟩) (by assumption) ?_
                rotate_left
                · intro w' hSw; (try dsimp only at hSw); go_simp; (try with_reducible rfl)
                try simp only [Act.put, List.setIfInBounds_toArray, List.set_cons_zero, List.set_cons_succ]
                refine wpAnyH_take (i := 7) (oi := ⟨_, _, _, _, _, _⟩) (v := ?_) rfl (by kernel_rfl) (by kernel_rfl) (by kernel_rfl) (fun _ _ _ h => h) (Or.inl ⟨by rfl, ?_⟩) (by assumption) ?_
                rotate_left
                · intro w' hSw; (try dsimp only at hSw); go_simp; (try with_reducible rfl)
                try simp only [Act.put, List.setIfInBounds_toArray, List.set_cons_zero, List.set_cons_succ]
                refine wpAnyH_take (i := 8) (oi := ⟨_, _, _, _, _, _⟩) (v := ?_) rfl (by kernel_rfl) (by kernel_rfl) (by kernel_rfl) (fun _ _ _ h => h) (Or.inl ⟨by rfl, ?_⟩) (by assumption) ?_
                rotate_left
                · intro w' hSw; (try dsimp only at hSw); go_simp; (try with_reducible rfl)
                try simp only [Act.put, List.setIfInBounds_toArray, List.set_cons_zero, List.set_cons_succ]
                refine wpAnyH_ready (rs := [0, 9]) (by kernel_rfl) (by simp) ?_
                refine (AllReadyH.cons (o := ⟨_, _, _, _, _, _⟩) rfl (fun K9 hK9 => ?_) (AllReadyH.cons (o := ⟨_, _, _, _, _, _⟩) rfl (fun K9 hK9 => ?_) AllReadyH.nil))
                · refine step_build0 rfl 26 rfl 34 i0K 3 _ Try.underlying26 hiK (Nat.le_refl _) ?_
                  intro va p1 ho hb
                  have E1 := Lib.hid (E0.out.trans (hb.mono E0.out.size))
                  have OA := Lib.hid (ho.mono E0.out.size)
                  clear ho hb
                  refine hK9.out _ _ (HS20.out _ E1.out) (fun hHeld => ?_)
                  clear hK9 K9
                  try simp only [Act.put, List.setIfInBounds_toArray, List.set_cons_zero, List.set_cons_succ]
                  refine wpAnyH_ready (rs := [2, 9]) (by kernel_rfl) (by simp) ?_
                  refine (AllReadyH.cons (o := ⟨_, _, _, _, _, _⟩) rfl (fun K9 hK9 => ?_) (AllReadyH.cons (o := ⟨_, _, _, _, _, _⟩) rfl (fun K9 hK9 => ?_) AllReadyH.nil))
                  · refine step_append_ownN (f := tokc) tokc_len tokc_flat (by decide) rfl (.tmp 74) (.tmp 75) 26 rfl w3.drew.heap.size 34 i0K zK 24 Try.underlying26 hiK hz0K hz1K hz2K rfl va 0 [] rfl OA.out RA rc T T.length rfl HRA.out (RowsAt.below RK.out E1.out) rfl (by unfold maxLen; omega) (by omega) E1.out.size ?_
                    intro v2 p2 ho hg _
                    have E2 := Lib.hid (E1.out.grown hg E1.out.size (fun q hq => (OA.out.lt hq).1))
                    have O2 : Hid (OwnW p2 w3.drew.heap.size 34 3 v2 T.length (T.flatMap tokc)) := Lib.hid (by have h := ho; rw [Nat.zero_add, List.nil_append] at h; exact h)
                    clear ho hg
                    refine hK9.out _ _ (HS20.out _ E2.out) (fun hHeld => ?_)
                    clear hK9 K9
                    try simp only [Act.put, List.setIfInBounds_toArray, List.set_cons_zero, List.set_cons_succ]
                    refine wpAnyH_ready (rs := [9]) (by kernel_rfl) (by simp) ?_
                    refine AllReadyH.cons (o := ⟨_, _, _, _, _, _⟩) rfl (fun K9 hK9 => ?_) AllReadyH.nil
                    refine step_build1 (f := tokc) (m := 3) rfl 26 (.tmp 82) rfl 34 i0K zK Try.underlying26 hiK hz0K hz1K (by decide) (by decide) (nx, aA, aB) _ rfl (fillK (nx, aA, aB)) ?_
                    intro gb p3 nb hb hg1 hg2
                    have E3 := Lib.hid (E2.out.trans (hb.mono E2.out.size))
                    have NB := Lib.hid nb
                    have GB := Lib.hid hg2
                    have O2 := Lib.hid (OwnW.below O2.out hb)
                    clear nb hb hg1 hg2
                    refine hK9.out _ _ (HS20.out _ E3.out) (fun hHeld => ?_)
                    clear hK9 K9
                    try simp only [Act.put, List.setIfInBounds_toArray, List.set_cons_zero, List.set_cons_succ]
                    refine wpAnyH_ready (rs := [10]) (by kernel_rfl) (by simp) ?_
                    refine AllReadyH.cons (o := ⟨_, _, _, _, _, _⟩) rfl (fun K9 hK9 => ?_) AllReadyH.nil
                    refine step_append_ownN (f := tokc) tokc_len tokc_flat (by decide) rfl (.tmp 76) (.tmp 83) 26 rfl w3.drew.heap.size 34 i0K zK 24 Try.underlying26 hiK hz0K hz1K hz2K rfl v2 T.length T rfl O2.out (some ⟨gb, 0, none⟩) 1 [(nx, aA, aB)] 1 rfl (fun h => by cases h) (NB.out.mono (fun _ h => h.elim)) rfl (by unfold maxLen; omega) (by omega) E3.out.size ?_
                    intro v9 w9 ho hg _
                    have EZ := Lib.hid (E3.out.grown hg E3.out.size (fun q hq => (O2.out.lt hq).1))
                    have OZ := Lib.hid ho
                    clear ho hg
                    refine hK9.out _ _ (HS20.out _ EZ.out) (fun hHeld => ?_)
                    clear hK9 K9
                    try simp only [Act.put, List.setIfInBounds_toArray, List.set_cons_zero, List.set_cons_succ]
                    refine wpAnyH_take (i := 11) (oi := ⟨_, _, _, _, _, _⟩) (v := ?_) rfl (by kernel_rfl) (by kernel_rfl) (by kernel_rfl) (fun _ _ _ h => h) (Or.inl ⟨by rfl, ?_⟩) (by assumption) ?_
                    rotate_left
                    · intro w' hSw; (try dsimp only at hSw); go_simp; (try with_reducible rfl)
                    try simp only [Act.put, List.setIfInBounds_toArray, List.set_cons_zero, List.set_cons_succ]
                    refine wpAnyH_done (by kernel_rfl) ?_ _
                    clear hHeld
                    obtain ⟨A9, c9, ev9, -, -, -, -⟩ := OwnW.rows (l := T ++ [(nx, aA, aB)]) (N := fun _ => False) tokc_len (by decide) OZ.out (fun _ _ h => h)
                    rw [LN.out] at ev9
                    subst ev9
                    have SN : Hid (Sp w1 g F3 (T ++ [(nx, aA, aB)]) (nx + 1) (.slice A9 (T.length + 1) c9) (i + 1) w9) := Lib.hid (Sp.new (T3.out.grow (EZ.out)) (by have h := OZ.out; unfold OwnK; rw [LN.out]; exact h) L3.out Q3.out (by have := SB.out.len; simp; omega) (by have := SB.out.nx; omega))
                    clear OZ EZ
                    go_wp2_with fail
                    refine (len_t SN.out.tree).mono ?_
                    rintro e w10 ⟨rfl, rfl⟩
                    rw [LN.out]
                    go_wp2_with fail
                    go_roundw
                    case rel => exact ⟨i + 1, F3, T ++ [(nx, aA, aB)], nx + 1, _, by omega, by go_num, rfl, rfl, SN⟩
                    case measure => first | (simp [RowKit.intOf]; done) | (simp [RowKit.intOf]; omega)
                  · refine step_build1 (f := tokc) (m := 3) rfl 26 (.tmp 82) rfl 34 i0K zK Try.underlying26 hiK hz0K hz1K (by decide) (by decide) (nx, aA, aB) _ rfl (fillK (nx, aA, aB)) ?_
                    intro gb p5 nb hb hg1 hg2
                    have E5 := Lib.hid (E1.out.trans (hb.mono E1.out.size))
                    have NB := Lib.hid nb
                    have GB := Lib.hid hg2
                    have APN : Hid (∀ k, va.ownBlock = some k → k ≠ gb) := Lib.hid (fun k hk e => by have h1 := (OA.out.lt hk).2; omega)
                    have OA := Lib.hid (OwnW.below OA.out hb)
                    clear nb hb hg1 hg2
                    refine hK9.out _ _ (HS20.out _ E5.out) (fun hHeld => ?_)
                    clear hK9 K9
                    try simp only [Act.put, List.setIfInBounds_toArray, List.set_cons_zero, List.set_cons_succ]
                    refine wpAnyH_ready (rs := [2]) (by kernel_rfl) (by simp) ?_
                    refine AllReadyH.cons (o := ⟨_, _, _, _, _, _⟩) rfl (fun K9 hK9 => ?_) AllReadyH.nil
                    refine step_append_ownN (f := tokc) tokc_len tokc_flat (by decide) rfl (.tmp 74) (.tmp 75) 26 rfl w3.drew.heap.size 34 i0K zK 24 Try.underlying26 hiK hz0K hz1K hz2K rfl va 0 [] rfl OA.out RA rc T T.length rfl HRA.out (RowsAt.below RK.out E5.out) rfl (by unfold maxLen; omega) (by omega) E5.out.size ?_
                    intro v2 p6 ho hg _
                    have E6 := Lib.hid (E5.out.grown hg E5.out.size (fun q hq => (OA.out.lt hq).1))
                    have O2 : Hid (OwnW p6 w3.drew.heap.size 34 3 v2 T.length (T.flatMap tokc)) := Lib.hid (by have h := ho; rw [Nat.zero_add, List.nil_append] at h; exact h)
                    have NB := Lib.hid (RowsAt.keep (F := fun k => va.ownBlock = some k) NB.out ((Keep.refl _ _).grown hg (fun q hq => .inl hq)) (fun k hk => APN.out k hk))
                    clear ho hg
                    refine hK9.out _ _ (HS20.out _ E6.out) (fun hHeld => ?_)
                    clear hK9 K9
                    try simp only [Act.put, List.setIfInBounds_toArray, List.set_cons_zero, List.set_cons_succ]
                    refine wpAnyH_ready (rs := [10]) (by kernel_rfl) (by simp) ?_
                    refine AllReadyH.cons (o := ⟨_, _, _, _, _, _⟩) rfl (fun K9 hK9 => ?_) AllReadyH.nil
                    refine step_append_ownN (f := tokc) tokc_len tokc_flat (by decide) rfl (.tmp 76) (.tmp 83) 26 rfl w3.drew.heap.size 34 i0K zK 24 Try.underlying26 hiK hz0K hz1K hz2K rfl v2 T.length T rfl O2.out (some ⟨gb, 0, none⟩) 1 [(nx, aA, aB)] 1 rfl (fun h => by cases h) (NB.out.mono (fun _ h => h.elim)) rfl (by unfold maxLen; omega) (by omega) E6.out.size ?_
                    intro v9 w9 ho hg _
                    have EZ := Lib.hid (E6.out.grown hg E6.out.size (fun q hq => (O2.out.lt hq).1))
                    have OZ := Lib.hid ho
                    clear ho hg
                    refine hK9.out _ _ (HS20.out _ EZ.out) (fun hHeld => ?_)
                    clear hK9 K9
                    try simp only [Act.put, List.setIfInBounds_toArray, List.set_cons_zero, List.set_cons_succ]
                    refine wpAnyH_take (i := 11) (oi := ⟨_, _, _, _, _, _⟩) (v := ?_) rfl (by kernel_rfl) (by kernel_rfl) (by kernel_rfl) (fun _ _ _ h => h) (Or.inl ⟨by rfl, ?_⟩) (by assumption) ?_
                    rotate_left
                    · intro w' hSw; (try dsimp only at hSw); go_simp; (try with_reducible rfl)
                    try simp only [Act.put, List.setIfInBounds_toArray, List.set_cons_zero, List.set_cons_succ]
                    refine wpAnyH_done (by kernel_rfl) ?_ _
                    clear hHeld
                    obtain ⟨A9, c9, ev9, -, -, -, -⟩ := OwnW.rows (l := T ++ [(nx, aA, aB)]) (N := fun _ => False) tokc_len (by decide) OZ.out (fun _ _ h => h)
                    rw [LN.out] at ev9
                    subst ev9
                    have SN : Hid (Sp w1 g F3 (T ++ [(nx, aA, aB)]) (nx + 1) (.slice A9 (T.length + 1) c9) (i + 1) w9) := Lib.hid (Sp.new (T3.out.grow (EZ.out)) (by have h := OZ.out; unfold OwnK; rw [LN.out]; exact h) L3.out Q3.out (by have := SB.out.len; simp; omega) (by have := SB.out.nx; omega))
                    clear OZ EZ
                    go_wp2_with fail
                    refine (len_t SN.out.tree).mono ?_
                    rintro e w10 ⟨rfl, rfl⟩
                    rw [LN.out]
                    go_wp2_with fail
                    go_roundw
                    case rel => exact ⟨i + 1, F3, T ++ [(nx, aA, aB)], nx + 1, _, by omega, by go_num, rfl, rfl, SN⟩
                    case measure => first | (simp [RowKit.intOf]; done) | (simp [RowKit.intOf]; omega)
                · refine step_build1 (f := tokc) (m := 3) rfl 26 (.tmp 82) rfl 34 i0K zK Try.underlying26 hiK hz0K hz1K (by decide) (by decide) (nx, aA, aB) _ rfl (fillK (nx, aA, aB)) ?_
                  intro gb p8 nb hb hg1 hg2
                  have E8 := Lib.hid (E0.out.trans (hb.mono E0.out.size))
                  have NB := Lib.hid nb
                  have GB := Lib.hid hg2
                  clear nb hb hg1 hg2
                  refine hK9.out _ _ (HS20.out _ E8.out) (fun hHeld => ?_)
                  clear hK9 K9
                  try simp only [Act.put, List.setIfInBounds_toArray, List.set_cons_zero, List.set_cons_succ]
                  refine wpAnyH_ready (rs := [0]) (by kernel_rfl) (by simp) ?_
                  refine AllReadyH.cons (o := ⟨_, _, _, _, _, _⟩) rfl (fun K9 hK9 => ?_) AllReadyH.nil
                  refine step_build0 rfl 26 rfl 34 i0K 3 _ Try.underlying26 hiK (Nat.le_refl _) ?_
                  intro va p9 ho hb
                  have E9 := Lib.hid (E8.out.trans (hb.mono E8.out.size))
                  have OA := Lib.hid (ho.mono E8.out.size)
                  have APN : Hid (∀ k, va.ownBlock = some k → k ≠ gb) := Lib.hid (fun k hk e => by have h1 := (OwnW.lt ho hk).1; have h2 := GB.out; omega)
                  have NB := Lib.hid (RowsAt.below NB.out hb)
                  clear ho hb
                  refine hK9.out _ _ (HS20.out _ E9.out) (fun hHeld => ?_)
                  clear hK9 K9
                  try simp only [Act.put, List.setIfInBounds_toArray, List.set_cons_zero, List.set_cons_succ]
                  refine wpAnyH_ready (rs := [2]) (by kernel_rfl) (by simp) ?_
                  refine AllReadyH.cons (o := ⟨_, _, _, _, _, _⟩) rfl (fun K9 hK9 => ?_) AllReadyH.nil
                  refine step_append_ownN (f := tokc) tokc_len tokc_flat (by decide) rfl (.tmp 74) (.tmp 75) 26 rfl w3.drew.heap.size 34 i0K zK 24 Try.underlying26 hiK hz0K hz1K hz2K rfl va 0 [] rfl OA.out RA rc T T.length rfl HRA.out (RowsAt.below RK.out E9.out) rfl (by unfold maxLen; omega) (by omega) E9.out.size ?_
                  intro v2 p10 ho hg _
                  have E10 := Lib.hid (E9.out.grown hg E9.out.size (fun q hq => (OA.out.lt hq).1))
                  have O2 : Hid (OwnW p10 w3.drew.heap.size 34 3 v2 T.length (T.flatMap tokc)) := Lib.hid (by have h := ho; rw [Nat.zero_add, List.nil_append] at h; exact h)
                  have NB := Lib.hid (RowsAt.keep (F := fun k => va.ownBlock = some k) NB.out ((Keep.refl _ _).grown hg (fun q hq => .inl hq)) (fun k hk => APN.out k hk))
                  clear ho hg
                  refine hK9.out _ _ (HS20.out _ E10.out) (fun hHeld => ?_)
                  clear hK9 K9
                  try simp only [Act.put, List.setIfInBounds_toArray, List.set_cons_zero, List.set_cons_succ]
                  refine wpAnyH_ready (rs := [10]) (by kernel_rfl) (by simp) ?_
                  refine AllReadyH.cons (o := ⟨_, _, _, _, _, _⟩) rfl (fun K9 hK9 => ?_) AllReadyH.nil
                  refine step_append_ownN (f := tokc) tokc_len tokc_flat (by decide) rfl (.tmp 76) (.tmp 83) 26 rfl w3.drew.heap.size 34 i0K zK 24 Try.underlying26 hiK hz0K hz1K hz2K rfl v2 T.length T rfl O2.out (some ⟨gb, 0, none⟩) 1 [(nx, aA, aB)] 1 rfl (fun h => by cases h) (NB.out.mono (fun _ h => h.elim)) rfl (by unfold maxLen; omega) (by omega) E10.out.size ?_
                  intro v9 w9 ho hg _
                  have EZ := Lib.hid (E10.out.grown hg E10.out.size (fun q hq => (O2.out.lt hq).1))
                  have OZ := Lib.hid ho
                  clear ho hg
                  refine hK9.out _ _ (HS20.out _ EZ.out) (fun hHeld => ?_)
                  clear hK9 K9
                  try simp only [Act.put, List.setIfInBounds_toArray, List.set_cons_zero, List.set_cons_succ]
                  refine wpAnyH_take (i := 11) (oi := ⟨_, _, _, _, _, _⟩) (v := ?_) rfl (by kernel_rfl) (by kernel_rfl) (by kernel_rfl) (fun _ _ _ h => h) (Or.inl ⟨by rfl, ?_⟩) (by assumption) ?_
                  rotate_left
                  · intro w' hSw; (try dsimp only at hSw); go_simp; (try with_reducible rfl)
                  try simp only [Act.put, List.setIfInBounds_toArray, List.set_cons_zero, List.set_cons_succ]
                  refine wpAnyH_done (by kernel_rfl) ?_ _
                  clear hHeld
                  obtain ⟨A9, c9, ev9, -, -, -, -⟩ := OwnW.rows (l := T ++ [(nx, aA, aB)]) (N := fun _ => False) tokc_len (by decide) OZ.out (fun _ _ h => h)
                  rw [LN.out] at ev9
                  subst ev9
                  have SN : Hid (Sp w1 g F3 (T ++ [(nx, aA, aB)]) (nx + 1) (.slice A9 (T.length + 1) c9) (i + 1) w9) := Lib.hid (Sp.new (T3.out.grow (EZ.out)) (by have h := OZ.out; unfold OwnK; rw [LN.out]; exact h) L3.out Q3.out (by have := SB.out.len; simp; omega) (by have := SB.out.nx; omega))
                  clear OZ EZ
                  go_wp2_with fail
                  refine (len_t SN.out.tree).mono ?_
                  rintro e w10 ⟨rfl, rfl⟩
                  rw [LN.out]
                  go_wp2_with fail
                  go_roundw
                  case rel => exact ⟨i + 1, F3, T ++ [(nx, aA, aB)], nx + 1, _, by omega, by go_num, rfl, rfl, SN⟩
                  case measure => first | (simp [RowKit.intOf]; done) | (simp [RowKit.intOf]; omega)
          · have hp0 : aA ≠ 0 := fun e => hp (.inl e)
            have hpn : ∀ t ∈ T, t.1 ≠ aA := fun t ht e => hp (.inr ⟨t, ht, e⟩)
            have ez : (aA != 0) = true := by simp [hp0]
            have HPN := Lib.hid hpn
            have HAD := Lib.hid (add_t_no TB.out aA aB hp0 hpn)
            have HCA := Lib.hid (at_c RA rc T aA wB RB.out (by have := SB.out.len; omega))
            clear hp hp0 hpn HBA
            go_wp2_with fail
            refine HAD.out.mono ?_
            rintro e w3 ⟨rfl, rfl⟩
            go_wp2_with fail
            refine HCA.out.mono ?_
            rintro e w4 ⟨a, rfl, hat, rfl⟩
            rcases hat with ⟨rfl, hn⟩ | ⟨j, hj, rfl, ej⟩
            · have SN := Lib.hid SB.out.more
              clear hn HCA HAD
              go_wp2_with fail
              go_roundw
              case rel => exact ⟨i + 1, F, T, nx, _, by omega, by go_num, rfl, rfl, SN⟩
              case measure => first | (simp [RowKit.intOf]; done) | (simp [RowKit.intOf]; omega)
            · exact absurd ej (HPN.out _ (List.getElem_mem hj))
      · by_cases h2 : op = 2
        · have e2 : (op == 2) = true := by simp [h2]
          have e1 : (op == 1) = false := by simp [h2]
          as_aux_lemma =>
            subst h2
            have HRW := Lib.hid (fun w' (h : Below wB.heap.size wB w') => RowsAt.below RB.out h)
            have HCW := Lib.hid (fun w' (h : Below wB.heap.size wB w') => (h.cell (p := ⟨bA, 1, none⟩) (World.block_lt_of_cell? _ _ (CB.out 1 _ rfl))).trans (CB.out 1 _ rfl))
            have hTl : T.length ≤ 80 := by have := SB.out.len; omega
            have hTI : (T.length : Int) ≤ 80 := by omega
            have J0 : Hid (OwnI wB wB.heap.size (.slice none 0 0) (factIds (T.take 0) aA)) := Lib.hid (OwnW.nil _ _ _ _)
            have EB := Lib.hid (Below.refl wB.heap.size wB)
            go_wp2_with fail
            go_loopw [10, 11] (fun v kv wr => ∃ (k : Nat) (vj : Value), k ≤ T.length ∧ kv = .int .i64 k ∧ vj = v ∧ Hid (OwnI wr wB.heap.size vj (factIds (T.take k) aA)) ∧ Hid (Below wB.heap.size wB wr)) (fun _ kv _ => T.length - (RowKit.intOf kv).toNat)
            case atStart => exact ⟨0, _, by omega, rfl, rfl, J0, EB⟩
            case round =>
              obtain ⟨k, vj, hk, rfl, rfl, HJ, HE⟩ := hrel
              clear J0 EB
              by_cases hlk : k < T.length
              · have hkI : (k : Int) < (T.length : Int) := by omega
                obtain ⟨rd, rfl, -, d0, -, d2⟩ := ToksAt.at (HRW.out _ HE.out) hlk
                have HF := Lib.hid (factIds_take T aA k hlk)
                have hjl : (factIds (T.take k) aA).length ≤ 80 := Nat.le_trans (factIds_few _ _) (by rw [List.length_take]; omega)
                obtain ⟨fc, hfc⟩ : ∃ fc, Hid (fc = T[k].2.2) := ⟨_, Lib.hid rfl⟩
                obtain ⟨ic, hic⟩ : ∃ ic, Hid (ic = T[k].1) := ⟨_, Lib.hid rfl⟩
                rw [← hfc.out, ← hic.out] at HF
                rw [← hfc.out] at d2
                rw [← hic.out] at d0
                have HS27 : Hid ((fun w' : World => w'.cell? ⟨(rd.add (k * 3)).block, (rd.add (k * 3)).off + 2, none⟩ = some (.int .i64 fc) ∧ w'.cell? ⟨bA, 1, none⟩ = some (.int .i64 aA)) wr.drew) := Lib.hid ⟨d2, HCW.out wr HE.out⟩
                have ED := Lib.hid (HE.out.drew)
                have HJD : Hid (OwnI wr.drew wB.heap.size vj (factIds (T.take k) aA)) := Lib.hid (HJ.out.below ((Below.refl _ wr).drew))
                have d0d : wr.drew.cell? ⟨(rd.add (k * 3)).block, (rd.add (k * 3)).off, none⟩ = some (.int .i64 ic) ∨ True := .inr trivial
                by_cases hf : fc = aA
                · have e1 : (fc == aA) = true := by simp [hf]
                  have HY := HF.out
                  rw [if_pos hf] at HY
                  have HYY := Lib.hid HY
                  generalize factIds (T.take k) aA = J at *
                  generalize hd0 : wr.drew = wd at *
                  have dd0 : wd.cell? (rd.add (k * 3)) = some (.int .i64 ic) := by rw [← hd0]; exact d0
                  rw [← hd0] at HS27
                  clear HY HF hf d2 d0 HJ d0d
                  have D5 := Lib.hid ((Below.refl wd.heap.size wd).alloc (Nat.le_refl _) (.cells #[.int .i64 ic] 3))
                  have O5 := Lib.hid (HJD.out.below D5.out)
                  have N5 := Lib.hid (append_new (W := wd) (x := ic))
                  have E5 := Lib.hid (ED.out.trans (D5.out.mono ED.out.size))
                  go_wp2_with fail
                  refine wp_region_held_drew (S := (fun w' : World => w'.cell? ⟨(rd.add (k * 3)).block, (rd.add (k * 3)).off + 2, none⟩ = some (.int .i64 fc) ∧ w'.cell? ⟨bA, 1, none⟩ = some (.int .i64 aA))) (by kernel_rfl) HS27.out (fun hHeld => ?_)
                  refine wpAnyH_take (i := 0) (oi := ⟨_, _, _, _, _, _⟩) (v := ?_) rfl (by kernel_rfl) (by kernel_rfl) (by kernel_rfl) (fun _ _ _ h => h) (Or.inl ⟨by rfl, ?_⟩) (by assumption) ?_
                  rotate_left
                  · intro w' hSw; (try dsimp only at hSw); go_simp; (try with_reducible rfl)
                  try simp only [Act.put, List.setIfInBounds_toArray, List.set_cons_zero, List.set_cons_succ]
                  refine wpAnyH_take (i := 1) (oi := ⟨_, _, _, _, _, _⟩) (v := ?_) rfl (by kernel_rfl) (by kernel_rfl) (by kernel_rfl) (fun _ _ _ h => h) (Or.inl ⟨by rfl, ?_⟩) (by assumption) ?_
                  rotate_left
                  · intro w' hSw; (try dsimp only at hSw); go_simp; (try with_reducible rfl)
                  try simp only [Act.put, List.setIfInBounds_toArray, List.set_cons_zero, List.set_cons_succ]
                  refine wpAnyH_take (i := 2) (oi := ⟨_, _, _, _, _, _⟩) (v := ?_) rfl (by kernel_rfl) (by kernel_rfl) (by kernel_rfl) (fun _ _ _ h => h) (Or.inl ⟨by rfl, ?_⟩) (by assumption) ?_
                  rotate_left
                  · intro w' hSw; (try dsimp only at hSw); go_simp; (try with_reducible rfl)
                  try simp only [Act.put, List.setIfInBounds_toArray, List.set_cons_zero, List.set_cons_succ]
                  refine wpAnyH_take (i := 3) (oi := ⟨_, _, _, _, _, _⟩) (v := ?_) rfl (by kernel_rfl) (by kernel_rfl) (by kernel_rfl) (fun _ _ _ h => h) (Or.inl ⟨by rfl, ?_⟩) (by assumption) ?_
                  rotate_left
                  · intro w' hSw; (try dsimp only at hSw); go_simp; (try with_reducible rfl)
                  try simp only [Act.put, List.setIfInBounds_toArray, List.set_cons_zero, List.set_cons_succ]
                  refine wpAnyH_take (i := 4) (oi := ⟨_, _, _, _, _, _⟩) (v := ?_) rfl (by kernel_rfl) (by kernel_rfl) (by kernel_rfl) (fun _ _ _ h => h) (Or.inl ⟨by rfl, ?_⟩) (by assumption) ?_
                  rotate_left
                  · intro w' hSw; (try dsimp only at hSw); go_simp; (try with_reducible rfl)
                  try simp only [Act.put, List.setIfInBounds_toArray, List.set_cons_zero, List.set_cons_succ]
                  refine wpAnyH_take (i := 5) (oi := ⟨_, _, _, _, _, _⟩) (v := ?_) rfl (by kernel_rfl) (by kernel_rfl) (by kernel_rfl) (fun _ _ _ h => h) (Or.inl ⟨by rfl, ?_⟩) (by assumption) ?_
                  rotate_left
                  · intro w' hSw; (try dsimp only at hSw); go_simp; (try with_reducible rfl)
                  try simp only [Act.put, List.setIfInBounds_toArray, List.set_cons_zero, List.set_cons_succ]
                  refine wpAnyH_take (i := 6) (oi := ⟨_, _, _, _, _, _⟩) (v := ?_) rfl (by kernel_rfl) (by kernel_rfl) (by kernel_rfl) (fun _ _ _ h => h) (Or.inl ⟨by rfl, ?_⟩) (by assumption) ?_
                  rotate_left
                  · intro w' hSw; (try dsimp only at hSw); go_simp; (try with_reducible rfl)
                  try simp only [Act.put, List.setIfInBounds_toArray, List.set_cons_zero, List.set_cons_succ]
                  refine wpAnyH_take (i := 7) (oi := ⟨_, _, _, _, _, _⟩) (v := ?_) rfl (by kernel_rfl) (by kernel_rfl) (by kernel_rfl) (fun _ _ _ h => h) (Or.inl ⟨by rfl, ?_⟩) (by assumption) ?_
                  rotate_left
                  · intro w' hSw; (try dsimp only at hSw); go_simp; (try with_reducible rfl)
                  try simp only [Act.put, List.setIfInBounds_toArray, List.set_cons_zero, List.set_cons_succ]
                  refine wpAnyH_done (by kernel_rfl) ?_ _
                  rw [hd0]
                  clear hHeld hd0
                  go_wp2_with (at_builtin; (refine wpList_append_ownW (f := intc) intc_len intc_flat (by decide) rfl (.tmp 103) (.tmp 109) 35 rfl wB.heap.size 3 i0 zI 8 Try.underlying35 hi hz0 hz1 hz2 rfl vj J.length J rfl O5.out (some ⟨wd.heap.size, 0, none⟩) 1 [ic] (fun h => by cases h) N5.out rfl (by unfold maxLen; simp; omega) (by simp; omega) E5.out.size ?_))
                  intro v6 w6 ho6 hg6 _
                  have O6 := Lib.hid (show OwnI w6 wB.heap.size v6 (factIds (T.take (k + 1)) aA) by rw [HYY.out]; unfold OwnI; rw [List.length_append, List.flatMap_append, List.flatMap_singleton]; exact ho6)
                  have E6 := Lib.hid (E5.out.grown hg6 E5.out.size (fun q hq => (O5.out.lt hq).1))
                  clear ho6 hg6 O5 N5 E5 D5 HYY dd0
                  go_wp2_with fail
                  go_roundw
                  case rel => exact ⟨k + 1, v6, by omega, by go_num, rfl, O6, E6⟩
                  case measure => first | (simp [RowKit.intOf]; done) | (simp [RowKit.intOf]; omega)
                · have e1 : (fc == aA) = false := by simp [hf]
                  have HY := HF.out
                  rw [if_neg hf, List.append_nil] at HY
                  rw [← HY] at HJD
                  clear HY HF hf d2 d0 HJ d0d
                  go_wp2_with fail
                  refine wp_region_held_drew (S := (fun w' : World => w'.cell? ⟨(rd.add (k * 3)).block, (rd.add (k * 3)).off + 2, none⟩ = some (.int .i64 fc) ∧ w'.cell? ⟨bA, 1, none⟩ = some (.int .i64 aA))) (by kernel_rfl) HS27.out (fun hHeld => ?_)
                  refine wpAnyH_take (i := 0) (oi := ⟨_, _, _, _, _, _⟩) (v := ?_) rfl (by kernel_rfl) (by kernel_rfl) (by kernel_rfl) (fun _ _ _ h => h) (Or.inl ⟨by rfl, ?_⟩) (by assumption) ?_
                  rotate_left
                  · intro w' hSw; (try dsimp only at hSw); go_simp; (try with_reducible rfl)
                  try simp only [Act.put, List.setIfInBounds_toArray, List.set_cons_zero, List.set_cons_succ]
                  refine wpAnyH_take (i := 1) (oi := ⟨_, _, _, _, _, _⟩) (v := ?_) rfl (by kernel_rfl) (by kernel_rfl) (by kernel_rfl) (fun _ _ _ h => h) (Or.inl ⟨by rfl, ?_⟩) (by assumption) ?_
                  rotate_left
                  · intro w' hSw; (try dsimp only at hSw); go_simp; (try with_reducible rfl)
                  try simp only [Act.put, List.setIfInBounds_toArray, List.set_cons_zero, List.set_cons_succ]
                  refine wpAnyH_take (i := 2) (oi := ⟨_, _, _, _, _, _⟩) (v := ?_) rfl (by kernel_rfl) (by kernel_rfl) (by kernel_rfl) (fun _ _ _ h => h) (Or.inl ⟨by rfl, ?_⟩) (by assumption) ?_
                  rotate_left
                  · intro w' hSw; (try dsimp only at hSw); go_simp; (try with_reducible rfl)
                  try simp only [Act.put, List.setIfInBounds_toArray, List.set_cons_zero, List.set_cons_succ]
                  refine wpAnyH_take (i := 3) (oi := ⟨_, _, _, _, _, _⟩) (v := ?_) rfl (by kernel_rfl) (by kernel_rfl) (by kernel_rfl) (fun _ _ _ h => h) (Or.inl ⟨by rfl, ?_⟩) (by assumption) ?_
                  rotate_left
                  · intro w' hSw; (try dsimp only at hSw); go_simp; (try with_reducible rfl)
                  try simp only [Act.put, List.setIfInBounds_toArray, List.set_cons_zero, List.set_cons_succ]
                  refine wpAnyH_take (i := 4) (oi := ⟨_, _, _, _, _, _⟩) (v := ?_) rfl (by kernel_rfl) (by kernel_rfl) (by kernel_rfl) (fun _ _ _ h => h) (Or.inl ⟨by rfl, ?_⟩) (by assumption) ?_
                  rotate_left
                  · intro w' hSw; (try dsimp only at hSw); go_simp; (try with_reducible rfl)
                  try simp only [Act.put, List.setIfInBounds_toArray, List.set_cons_zero, List.set_cons_succ]
                  refine wpAnyH_take (i := 5) (oi := ⟨_, _, _, _, _, _⟩) (v := ?_) rfl (by kernel_rfl) (by kernel_rfl) (by kernel_rfl) (fun _ _ _ h => h) (Or.inl ⟨by rfl, ?_⟩) (by assumption) ?_
                  rotate_left
                  · intro w' hSw; (try dsimp only at hSw); go_simp; (try with_reducible rfl)
                  try simp only [Act.put, List.setIfInBounds_toArray, List.set_cons_zero, List.set_cons_succ]
                  refine wpAnyH_take (i := 6) (oi := ⟨_, _, _, _, _, _⟩) (v := ?_) rfl (by kernel_rfl) (by kernel_rfl) (by kernel_rfl) (fun _ _ _ h => h) (Or.inl ⟨by rfl, ?_⟩) (by assumption) ?_
                  rotate_left
                  · intro w' hSw; (try dsimp only at hSw); go_simp; (try with_reducible rfl)
                  try simp only [Act.put, List.setIfInBounds_toArray, List.set_cons_zero, List.set_cons_succ]
                  refine wpAnyH_take (i := 7) (oi := ⟨_, _, _, _, _, _⟩) (v := ?_) rfl (by kernel_rfl) (by kernel_rfl) (by kernel_rfl) (fun _ _ _ h => h) (Or.inl ⟨by rfl, ?_⟩) (by assumption) ?_
                  rotate_left
                  · intro w' hSw; (try dsimp only at hSw); go_simp; (try with_reducible rfl)
                  try simp only [Act.put, List.setIfInBounds_toArray, List.set_cons_zero, List.set_cons_succ]
                  refine wpAnyH_done (by kernel_rfl) ?_ _
                  clear hHeld
                  go_wp2_with fail
                  go_roundw
                  case rel => exact ⟨k + 1, vj, by omega, by go_num, rfl, HJD, ED⟩
                  case measure => first | (simp [RowKit.intOf]; done) | (simp [RowKit.intOf]; omega)
              · obtain rfl : k = T.length := by omega
                have HJ2 : OwnI wr wB.heap.size vj (factIds T aA) := by have := HJ.out; rwa [List.take_length] at this
                obtain ⟨GA, gc, evj, rj, hGA, _⟩ := OwnI.row HJ2
                subst evj
                have HCU := Lib.hid (cut_l RA rc T GA gc (factIds T aA) wr (HRW.out _ HE.out) rj hGA SB.out.wf (by omega) (by have := factIds_few T aA; omega))
                clear HJ HJ2 rj hGA
                generalize hFI : factIds T aA = GI at *
                go_wp2_with fail
                refine HCU.out.mono ?_
                rintro e w6 ⟨v1, v2, rfl, o1, o2, b6⟩
                have O6 := Lib.hid o1; have J6 := Lib.hid o2
                obtain ⟨w5, hw5⟩ : ∃ w5, w5 = wr := ⟨_, rfl⟩
                rw [← hw5] at O6 J6 b6 HE
                have B5 := Lib.hid HE.out
                have B6 := Lib.hid (HE.out.trans (b6.mono HE.out.size))
                clear o1 o2 b6 HCU HE
                obtain ⟨A6, c6, ev6, -, -, -, -⟩ := OwnW.rows (N := fun _ => False) tokc_len (by decide) O6.out (fun _ _ h => h)
                subst ev6
                have hl6 : (stay T GI).length ≤ 80 := Nat.le_trans (stay_few T GI) (by have := SB.out.len; omega)
                have hg6 : (goes T GI).length ≤ 80 := Nat.le_trans (goes_few T GI) (by have := SB.out.len; omega)
                have c61 := (B6.out.cell (p := ⟨bA, 1, none⟩) (World.block_lt_of_cell? _ _ (CB.out 1 _ rfl))).trans (CB.out 1 _ rfl)
                go_wp2_with fail
                refine (drop_t (TB.out.grow B6.out) (by omega) aA).mono ?_
                rintro e w7 ⟨v7, rfl, o7, t7, k7⟩
                rw [hFI] at o7 t7
                have LF6 : ∀ k, F k → k < w5.heap.size := fun k hF => by have h1 := (TB.out.lt k hF).2; have h2 := B5.out.size; omega
                obtain ⟨A7, c7, ev7, r7, _, _⟩ := OwnI.row o7
                obtain ⟨AJ, cJ, evJ, rJ, _, _⟩ := OwnI.row (own_keep J6.out LF6 k7)
                subst ev7 evJ
                have SN : Hid (Sp w1 g F (stay T GI) nx (.slice A6 (stay T GI).length c6) (i + 1) w7) := Lib.hid (Sp.new t7 (OwnW.keep O6.out k7 (fun k hk hF => by have h1 := (OwnW.lt O6.out hk).1; have h2 := LF6 k hF; omega)) LF6 (by have h1 := TB.out.size; have h2 := B5.out.size; omega) (Nat.le_trans (stay_few T GI) (by have := SB.out.len; omega)) (by have := SB.out.nx; omega))
                have HI := Lib.hid (ints_yes A7 c7 _ AJ cJ (goes T GI) w7 rfl r7 rJ (by omega))
                clear o7 t7 k7 r7 rJ J6 O6 LF6 c61
                generalize hST : stay T GI = T' at *
                generalize hGT : goes T GI = GO at *
                clear hST hGT
                go_wp2_with fail
                refine HI.out.mono ?_
                rintro e w8 ⟨rfl, b8⟩
                have SN := Lib.hid (SN.out.below b8)
                clear b8 HI

                go_wp2_with fail
                refine (len_t SN.out.tree).mono ?_
                rintro e w10 ⟨rfl, rfl⟩
                go_wp2_with fail
                go_roundw
                case rel => exact ⟨i + 1, F, _, nx, _, by omega, by go_num, rfl, rfl, SN⟩
                case measure => first | (simp [RowKit.intOf]; done) | (simp [RowKit.intOf]; omega)
        · by_cases h3 : op = 3
          · have e3 : (op == 3) = true := by simp [h3]
            have e1 : (op == 1) = false := by simp [h3]
            have e2 : (op == 2) = false := by simp [h3]
            as_aux_lemma =>
              subst h3
              have HCW := Lib.hid (fun w' (h : Below wB.heap.size wB w') => (h.cell (p := ⟨bA, 1, none⟩) (World.block_lt_of_cell? _ _ (CB.out 1 _ rfl))).trans (CB.out 1 _ rfl))
              have hTl : T.length ≤ 80 := by have := SB.out.len; omega
              have B5 : Hid (Below wB.heap.size wB (wB.alloc (.cells #[.int .i64 aA] 3))) := Lib.hid ((Below.refl wB.heap.size wB).alloc (Nat.le_refl _) (.cells #[.int .i64 aA] 3))
              have HCU := Lib.hid (cut_l RA rc T (some ⟨wB.heap.size, 0, none⟩) 1 [aA] (wB.alloc (.cells #[.int .i64 aA] 3)) (RowsAt.below RB.out B5.out) (append_new (W := wB) (x := aA)) (fun h => by cases h) SB.out.wf (by omega) (by simp))
              have c51 := HCW.out wB (Below.refl _ _)
              go_wp2_with fail
              refine HCU.out.mono ?_
              rintro e w6 ⟨v1, v2, rfl, o1, o2, b6⟩
              have O6 := Lib.hid o1; have J6 := Lib.hid o2
              have B6 := Lib.hid (B5.out.trans (b6.mono B5.out.size))
              generalize hw5 : wB.alloc (.cells #[.int .i64 aA] 3) = w5 at *
              clear o1 o2 b6 HCU hw5 c51

              obtain ⟨A6, c6, ev6, -, -, -, -⟩ := OwnW.rows (N := fun _ => False) tokc_len (by decide) O6.out (fun _ _ h => h)
              subst ev6
              have hl6 : (stay T [aA]).length ≤ 80 := Nat.le_trans (stay_few T [aA]) (by have := SB.out.len; omega)
              have hg6 : (goes T [aA]).length ≤ 80 := Nat.le_trans (goes_few T [aA]) (by have := SB.out.len; omega)
              have c61 := (B6.out.cell (p := ⟨bA, 1, none⟩) (World.block_lt_of_cell? _ _ (CB.out 1 _ rfl))).trans (CB.out 1 _ rfl)
              go_wp2_with fail
              refine (cut_t (TB.out.grow B6.out) (by omega) aA).mono ?_
              rintro e w7 ⟨v7, rfl, o7, t7, k7⟩

              have LF6 : ∀ k, F k → k < w5.heap.size := fun k hF => by have h1 := (TB.out.lt k hF).2; have h2 := B5.out.size; omega
              obtain ⟨A7, c7, ev7, r7, _, _⟩ := OwnI.row o7
              obtain ⟨AJ, cJ, evJ, rJ, _, _⟩ := OwnI.row (own_keep J6.out LF6 k7)
              subst ev7 evJ
              have SN : Hid (Sp w1 g F (stay T [aA]) nx (.slice A6 (stay T [aA]).length c6) (i + 1) w7) := Lib.hid (Sp.new t7 (OwnW.keep O6.out k7 (fun k hk hF => by have h1 := (OwnW.lt O6.out hk).1; have h2 := LF6 k hF; omega)) LF6 (by have h1 := TB.out.size; have h2 := B5.out.size; omega) (Nat.le_trans (stay_few T [aA]) (by have := SB.out.len; omega)) (by have := SB.out.nx; omega))
              have HI := Lib.hid (ints_yes A7 c7 _ AJ cJ (goes T [aA]) w7 rfl r7 rJ (by omega))
              clear o7 t7 k7 r7 rJ J6 O6 LF6 c61
              generalize hST : stay T [aA] = T' at *
              generalize hGT : goes T [aA] = GO at *
              clear hST hGT
              go_wp2_with fail
              refine HI.out.mono ?_
              rintro e w8 ⟨rfl, b8⟩
              have SN := Lib.hid (SN.out.below b8)
              clear b8 HI

              go_wp2_with fail
              refine (len_t SN.out.tree).mono ?_
              rintro e w10 ⟨rfl, rfl⟩
              go_wp2_with fail
              go_roundw
              case rel => exact ⟨i + 1, F, _, nx, _, by omega, by go_num, rfl, rfl, SN⟩
              case measure => first | (simp [RowKit.intOf]; done) | (simp [RowKit.intOf]; omega)
          · have e1 : (op == 1) = false := by simp [h1]
            have e2 : (op == 2) = false := by simp [h2]
            have e3 : (op == 3) = false := by simp [h3]
            as_aux_lemma =>
              have SN := Lib.hid SB.out.more
              clear h1 h2 h3

              go_wp2_with fail
              refine (len_t SN.out.tree).mono ?_
              rintro e w10 ⟨rfl, rfl⟩
              go_wp2_with fail
              go_roundw
              case rel => exact ⟨i + 1, F, _, nx, _, by omega, by go_num, rfl, rfl, SN⟩
              case measure => first | (simp [RowKit.intOf]; done) | (simp [RowKit.intOf]; omega)
    · obtain rfl : i = l.length := by omega
      as_aux_lemma =>
        have hTl : T.length ≤ 80 := by have := HP.out.len; omega
        have hTI : (T.length : Int) ≤ 80 := by omega
        have hnx1 := HP.out.tree.nx1
        have hnx2 : nx ≤ 81 := by have := HP.out.nx; omega
        go_wp2_with fail
        obtain ⟨wo, hwo⟩ : ∃ wo : World, Hid (wo = wr) := ⟨_, Lib.hid rfl⟩
        rw [← hwo.out] at HP ⊢
        clear hwo
        go_loopw [16] (fun iv wr => ∃ j : Nat, (j : Int) ≤ nx + 1 ∧ iv = .int .i64 j ∧ Hid (Sp w1 g F T nx (.slice RA T.length rc) l.length wr)) (fun iv _ => (nx + 1 - RowKit.intOf iv).toNat)
        case atStart => exact ⟨0, by omega, rfl, HP⟩
        case round =>
          obtain ⟨j, hj, rfl, HS⟩ := hrel
          clear HP
          have RR : Hid (ToksAt (fun _ => False) wr RA T) := Lib.hid (by
            obtain ⟨A', c', ev, hr, _, _⟩ := HS.out.row
            injection ev with ev1 _ ev2
            subst ev1 ev2
            exact hr)
          by_cases hle : (j : Int) ≤ nx
          · by_cases hpr : (j : Int) = 0 ∨ ∃ t ∈ T, t.1 = (j : Int)
            · obtain ⟨u, hu, hul⟩ := Up.of HS.out.wf _ (j : Int) (Nat.lt_succ_self _) hpr
              have hul : u.length ≤ 100 := by omega
              have HUP := Lib.hid hu
              clear hu
              go_wp2_with fail
              refine (path_yes HS.out.tree (j : Int) hpr HUP.out (by omega)).mono ?_
              rintro e w4 ⟨v4, rfl, o4, b4⟩
              have O4 := Lib.hid o4
              have S4 := Lib.hid (HS.out.below b4)
              have R4 := Lib.hid (RowsAt.below RR.out b4)
              clear o4 b4
              by_cases hz : j = 0
              · subst hz
                have HRW := Lib.hid (fun w' (h : Below w4.heap.size w4 w') => RowsAt.below R4.out h)
                have J0 : Hid (OwnI w4 w4.heap.size (.slice none 0 0) (kidsOf (T.take 0) ((0 : Nat) : Int))) := Lib.hid (OwnW.nil _ _ _ _)
                have EB := Lib.hid (Below.refl w4.heap.size w4)
                go_wp2_with fail

                go_loopw [20, 21] (fun v kv wr => ∃ (k : Nat) (vj : Value), k ≤ T.length ∧ kv = .int .i64 k ∧ vj = v ∧ Hid (OwnI wr w4.heap.size vj (kidsOf (T.take k) ((0 : Nat) : Int))) ∧ Hid (Below w4.heap.size w4 wr)) (fun _ kv _ => T.length - (RowKit.intOf kv).toNat)
                case atStart => exact ⟨0, _, by omega, rfl, rfl, J0, EB⟩
                case round =>
                  obtain ⟨k, vj, hk, rfl, rfl, HJ, HE⟩ := hrel
                  clear J0 EB
                  by_cases hlk : k < T.length
                  · have hkI : (k : Int) < (T.length : Int) := by omega
                    obtain ⟨rd, rfl, -, d0, d1, -⟩ := ToksAt.at (HRW.out _ HE.out) hlk
                    have HF := Lib.hid (kidsOf_take T ((0 : Nat) : Int) k hlk)
                    have hjl : (kidsOf (T.take k) ((0 : Nat) : Int)).length ≤ 80 := Nat.le_trans (kidsOf_few _ _) (by rw [List.length_take]; omega)
                    obtain ⟨pc, hpc⟩ : ∃ pc, Hid (pc = T[k].2.1) := ⟨_, Lib.hid rfl⟩
                    obtain ⟨ic, hic⟩ : ∃ ic, Hid (ic = T[k].1) := ⟨_, Lib.hid rfl⟩
                    rw [← hpc.out, ← hic.out] at HF
                    rw [← hpc.out] at d1
                    rw [← hic.out] at d0
                    by_cases hf : pc = ((0 : Nat) : Int)
                    · have e1 : (pc == ((0 : Nat) : Int)) = true := by simp [hf]
                      have HY := HF.out
                      rw [if_pos hf] at HY
                      have HYY := Lib.hid HY
                      obtain ⟨J, hJ⟩ : ∃ J, Hid (J = kidsOf (T.take k) ((0 : Nat) : Int)) := ⟨_, Lib.hid rfl⟩
                      rw [← hJ.out] at HJ hjl HYY
                      clear HY HF hf
                      have D5 := Lib.hid ((Below.refl wr.heap.size wr).alloc (Nat.le_refl _) (.cells #[.int .i64 ic] 3))
                      have O5 := Lib.hid (HJ.out.below D5.out)
                      have N5 := Lib.hid (append_new (W := wr) (x := ic))
                      have E5 := Lib.hid (HE.out.trans (D5.out.mono HE.out.size))
                      go_wp2_with (at_builtin; (refine wpList_append_ownW (f := intc) intc_len intc_flat (by decide) rfl (.tmp 180) (.tmp 186) 35 rfl w4.heap.size 3 i0 zI 8 Try.underlying35 hi hz0 hz1 hz2 rfl vj J.length J rfl O5.out (some ⟨wr.heap.size, 0, none⟩) 1 [ic] (fun h => by cases h) N5.out rfl (by unfold maxLen; simp; omega) (by simp; omega) E5.out.size ?_))
                      intro v6 w6 ho6 hg6 _
                      have O6 := Lib.hid (show OwnI w6 w4.heap.size v6 (kidsOf (T.take (k + 1)) ((0 : Nat) : Int)) by rw [HYY.out]; unfold OwnI; rw [List.length_append, List.flatMap_append, List.flatMap_singleton]; exact ho6)
                      have E6 := Lib.hid (E5.out.grown hg6 E5.out.size (fun q hq => (O5.out.lt hq).1))
                      clear ho6 hg6 O5 N5 E5 D5 HYY d0 d1
                      go_wp2_with fail
                      go_roundw
                      case rel => exact ⟨k + 1, v6, by omega, by go_num, rfl, O6, E6⟩
                      case measure => first | (simp [RowKit.intOf]; done) | (simp [RowKit.intOf]; omega)
                    · have e1 : (pc == ((0 : Nat) : Int)) = false := by simpa using hf
                      have HY := HF.out
                      rw [if_neg hf, List.append_nil] at HY
                      rw [← HY] at HJ
                      clear HY HF hf d0
                      go_wp2_with fail
                      go_roundw
                      case rel => exact ⟨k + 1, vj, by omega, by go_num, rfl, HJ, HE⟩
                      case measure => first | (simp [RowKit.intOf]; done) | (simp [RowKit.intOf]; omega)
                  · obtain rfl : k = T.length := by omega
                    have HJ2 := Lib.hid (show OwnI wr w4.heap.size vj (kidsOf T ((0 : Nat) : Int)) by have := HJ.out; rwa [List.take_length] at this)
                    clear HJ hlk
                    have S5 := Lib.hid (S4.out.below HE.out)
                    obtain ⟨PA, pc, evp, rp, -, -⟩ := OwnI.row O4.out
                    subst evp
                    have RP := Lib.hid (RowsAt.below rp HE.out)
                    have hul2 : u.reverse.length ≤ 1000000 := by rw [List.length_reverse]; omega
                    have HPL := Lib.hid (path_l RA rc T ((0 : Nat) : Int) wr (HRW.out _ HE.out) S5.out.wf (by omega) HUP.out (by omega))
                    obtain ⟨JA, jc, evj, rj, -, -⟩ := OwnI.row HJ2.out
                    subst evj
                    have RJ := Lib.hid rj
                    have hkl : (kidsOf T ((0 : Nat) : Int)).length ≤ 1000000 := Nat.le_trans (kidsOf_few _ _) (by omega)
                    have HPR := Lib.hid hpr
                    clear rp rj HJ2 HRW hpr
                    obtain ⟨U, hU⟩ : ∃ U, Hid (U = u.reverse) := ⟨_, Lib.hid rfl⟩
                    rw [← hU.out] at HPL RP hul2 ⊢
                    obtain ⟨KK, hKK⟩ : ∃ KK, Hid (KK = kidsOf T ((0 : Nat) : Int)) := ⟨_, Lib.hid rfl⟩
                    rw [← hKK.out] at RJ hkl ⊢
                    go_wp2_with fail
                    refine HPL.out.mono ?_
                    rintro e w7 ⟨v7, rfl, o7, b7⟩
                    obtain ⟨A7, c7, ev7, r7, -, -⟩ := OwnI.row o7
                    subst ev7
                    have B7 := Lib.hid b7
                    have HI7 := Lib.hid (ints_yes PA pc _ A7 c7 U w7 rfl (RowsAt.below RP.out b7) r7 hul2)
                    clear o7 b7 r7 HPL
                    go_wp2_with fail
                    refine HI7.out.mono ?_
                    rintro e w8 ⟨rfl, b8⟩
                    have B8 := Lib.hid (B7.out.trans (b8.mono B7.out.size))
                    clear b8 HI7
                    have S8 := Lib.hid (S5.out.below B8.out)
                    go_wp2_with fail
                    refine (kids_yes S8.out.tree ((0 : Nat) : Int) HPR.out).mono ?_
                    rintro e w9 ⟨v9, rfl, o9, b9⟩
                    rw [← hKK.out] at o9
                    obtain ⟨A9, c9, ev9, r9, -, -⟩ := OwnI.row o9
                    subst ev9
                    have B9 := Lib.hid (B8.out.trans (b9.mono B8.out.size))
                    have HI9 := Lib.hid (ints_yes A9 c9 _ JA jc KK w9 rfl r9 (RowsAt.below RJ.out B9.out) hkl)
                    clear o9 b9 r9
                    go_wp2_with fail
                    refine HI9.out.mono ?_
                    rintro e w10 ⟨rfl, b10⟩
                    have S10 := Lib.hid (S5.out.below (B9.out.trans (b10.mono B9.out.size)))
                    clear b10 HI9
                    go_wp2_with fail
                    go_roundw
                    case rel => exact ⟨0 + 1, by omega, by go_num, S10⟩
                    case measure => simp [RowKit.intOf]; omega
              · have e0 : ((j : Int) == 0) = false := by simp; omega
                have HCA := Lib.hid (at_c RA rc T (j : Int) w4 R4.out (by omega))
                have HPQ := Lib.hid (hpr.resolve_left (by omega))
                go_wp2_with fail
                refine HCA.out.mono ?_
                rintro e w5 ⟨a, rfl, hat, rfl⟩
                rcases hat with ⟨rfl, hn⟩ | ⟨q, hq, rfl, eq⟩
                · obtain ⟨t, ht, e⟩ := HPQ.out
                  exact absurd e (hn t ht)
                · have hqI : (0 : Int) ≤ (q : Int) := by omega
                  clear eq HCA HPQ hz
                  have HRW := Lib.hid (fun w' (h : Below w4.heap.size w4 w') => RowsAt.below R4.out h)
                  have J0 : Hid (OwnI w4 w4.heap.size (.slice none 0 0) (kidsOf (T.take 0) (j : Int))) := Lib.hid (OwnW.nil _ _ _ _)
                  have EB := Lib.hid (Below.refl w4.heap.size w4)
                  go_wp2_with fail

                  go_loopw [20, 21] (fun v kv wr => ∃ (k : Nat) (vj : Value), k ≤ T.length ∧ kv = .int .i64 k ∧ vj = v ∧ Hid (OwnI wr w4.heap.size vj (kidsOf (T.take k) (j : Int))) ∧ Hid (Below w4.heap.size w4 wr)) (fun _ kv _ => T.length - (RowKit.intOf kv).toNat)
                  case atStart => exact ⟨0, _, by omega, rfl, rfl, J0, EB⟩
                  case round =>
                    obtain ⟨k, vj, hk, rfl, rfl, HJ, HE⟩ := hrel
                    clear J0 EB
                    by_cases hlk : k < T.length
                    · have hkI : (k : Int) < (T.length : Int) := by omega
                      obtain ⟨rd, rfl, -, d0, d1, -⟩ := ToksAt.at (HRW.out _ HE.out) hlk
                      have HF := Lib.hid (kidsOf_take T (j : Int) k hlk)
                      have hjl : (kidsOf (T.take k) (j : Int)).length ≤ 80 := Nat.le_trans (kidsOf_few _ _) (by rw [List.length_take]; omega)
                      obtain ⟨pc, hpc⟩ : ∃ pc, Hid (pc = T[k].2.1) := ⟨_, Lib.hid rfl⟩
                      obtain ⟨ic, hic⟩ : ∃ ic, Hid (ic = T[k].1) := ⟨_, Lib.hid rfl⟩
                      rw [← hpc.out, ← hic.out] at HF
                      rw [← hpc.out] at d1
                      rw [← hic.out] at d0
                      by_cases hf : pc = (j : Int)
                      · have e1 : (pc == (j : Int)) = true := by simp [hf]
                        have HY := HF.out
                        rw [if_pos hf] at HY
                        have HYY := Lib.hid HY
                        obtain ⟨J, hJ⟩ : ∃ J, Hid (J = kidsOf (T.take k) (j : Int)) := ⟨_, Lib.hid rfl⟩
                        rw [← hJ.out] at HJ hjl HYY
                        clear HY HF hf
                        have D5 := Lib.hid ((Below.refl wr.heap.size wr).alloc (Nat.le_refl _) (.cells #[.int .i64 ic] 3))
                        have O5 := Lib.hid (HJ.out.below D5.out)
                        have N5 := Lib.hid (append_new (W := wr) (x := ic))
                        have E5 := Lib.hid (HE.out.trans (D5.out.mono HE.out.size))
                        go_wp2_with (at_builtin; (refine wpList_append_ownW (f := intc) intc_len intc_flat (by decide) rfl (.tmp 180) (.tmp 186) 35 rfl w4.heap.size 3 i0 zI 8 Try.underlying35 hi hz0 hz1 hz2 rfl vj J.length J rfl O5.out (some ⟨wr.heap.size, 0, none⟩) 1 [ic] (fun h => by cases h) N5.out rfl (by unfold maxLen; simp; omega) (by simp; omega) E5.out.size ?_))
                        intro v6 w6 ho6 hg6 _
                        have O6 := Lib.hid (show OwnI w6 w4.heap.size v6 (kidsOf (T.take (k + 1)) (j : Int)) by rw [HYY.out]; unfold OwnI; rw [List.length_append, List.flatMap_append, List.flatMap_singleton]; exact ho6)
                        have E6 := Lib.hid (E5.out.grown hg6 E5.out.size (fun q hq => (O5.out.lt hq).1))
                        clear ho6 hg6 O5 N5 E5 D5 HYY d0 d1
                        go_wp2_with fail
                        go_roundw
                        case rel => exact ⟨k + 1, v6, by omega, by go_num, rfl, O6, E6⟩
                        case measure => first | (simp [RowKit.intOf]; done) | (simp [RowKit.intOf]; omega)
                      · have e1 : (pc == (j : Int)) = false := by simpa using hf
                        have HY := HF.out
                        rw [if_neg hf, List.append_nil] at HY
                        rw [← HY] at HJ
                        clear HY HF hf d0
                        go_wp2_with fail
                        go_roundw
                        case rel => exact ⟨k + 1, vj, by omega, by go_num, rfl, HJ, HE⟩
                        case measure => first | (simp [RowKit.intOf]; done) | (simp [RowKit.intOf]; omega)
                    · obtain rfl : k = T.length := by omega
                      have HJ2 := Lib.hid (show OwnI wr w4.heap.size vj (kidsOf T (j : Int)) by have := HJ.out; rwa [List.take_length] at this)
                      clear HJ hlk
                      have S5 := Lib.hid (S4.out.below HE.out)
                      obtain ⟨PA, pc, evp, rp, -, -⟩ := OwnI.row O4.out
                      subst evp
                      have RP := Lib.hid (RowsAt.below rp HE.out)
                      have hul2 : u.reverse.length ≤ 1000000 := by rw [List.length_reverse]; omega
                      have HPL := Lib.hid (path_l RA rc T (j : Int) wr (HRW.out _ HE.out) S5.out.wf (by omega) HUP.out (by omega))
                      obtain ⟨JA, jc, evj, rj, -, -⟩ := OwnI.row HJ2.out
                      subst evj
                      have RJ := Lib.hid rj
                      have hkl : (kidsOf T (j : Int)).length ≤ 1000000 := Nat.le_trans (kidsOf_few _ _) (by omega)
                      have HPR := Lib.hid hpr
                      clear rp rj HJ2 HRW hpr
                      obtain ⟨U, hU⟩ : ∃ U, Hid (U = u.reverse) := ⟨_, Lib.hid rfl⟩
                      rw [← hU.out] at HPL RP hul2 ⊢
                      obtain ⟨KK, hKK⟩ : ∃ KK, Hid (KK = kidsOf T (j : Int)) := ⟨_, Lib.hid rfl⟩
                      rw [← hKK.out] at RJ hkl ⊢
                      go_wp2_with fail
                      refine HPL.out.mono ?_
                      rintro e w7 ⟨v7, rfl, o7, b7⟩
                      obtain ⟨A7, c7, ev7, r7, -, -⟩ := OwnI.row o7
                      subst ev7
                      have B7 := Lib.hid b7
                      have HI7 := Lib.hid (ints_yes PA pc _ A7 c7 U w7 rfl (RowsAt.below RP.out b7) r7 hul2)
                      clear o7 b7 r7 HPL
                      go_wp2_with fail
                      refine HI7.out.mono ?_
                      rintro e w8 ⟨rfl, b8⟩
                      have B8 := Lib.hid (B7.out.trans (b8.mono B7.out.size))
                      clear b8 HI7
                      have S8 := Lib.hid (S5.out.below B8.out)
                      go_wp2_with fail
                      refine (kids_yes S8.out.tree (j : Int) HPR.out).mono ?_
                      rintro e w9 ⟨v9, rfl, o9, b9⟩
                      rw [← hKK.out] at o9
                      obtain ⟨A9, c9, ev9, r9, -, -⟩ := OwnI.row o9
                      subst ev9
                      have B9 := Lib.hid (B8.out.trans (b9.mono B8.out.size))
                      have HI9 := Lib.hid (ints_yes A9 c9 _ JA jc KK w9 rfl r9 (RowsAt.below RJ.out B9.out) hkl)
                      clear o9 b9 r9
                      go_wp2_with fail
                      refine HI9.out.mono ?_
                      rintro e w10 ⟨rfl, b10⟩
                      have S10 := Lib.hid (S5.out.below (B9.out.trans (b10.mono B9.out.size)))
                      clear b10 HI9
                      go_wp2_with fail
                      go_roundw
                      case rel => exact ⟨j + 1, by omega, by go_num, S10⟩
                      case measure => simp [RowKit.intOf]; omega
            · have HNZ := Lib.hid (show (j : Int) ≠ 0 from fun e => hpr (.inl e))
              have HNO := Lib.hid (show ∀ t ∈ T, t.1 ≠ (j : Int) from fun t ht e => hpr (.inr ⟨t, ht, e⟩))
              have e0 : ((j : Int) == 0) = false := by have := HNZ.out; simp; omega
              have HCA := Lib.hid (at_c RA rc T (j : Int) wr RR.out (by omega))
              clear hpr
              go_wp2_with fail
              refine (path_no HS.out.tree (j : Int) HNZ.out HNO.out).mono ?_
              rintro e w4 ⟨rfl, rfl⟩
              go_wp2_with fail
              refine HCA.out.mono ?_
              rintro e w5 ⟨a, rfl, hat, rfl⟩
              rcases hat with ⟨rfl, hn⟩ | ⟨q, hq, rfl, eq⟩
              · clear hn HCA
                obtain ⟨w4, hw4⟩ : ∃ w4 : World, Hid (w4 = wr) := ⟨_, Lib.hid rfl⟩
                rw [← hw4.out] at HS RR ⊢
                clear hw4
                have S4 := HS
                have R4 := RR
                have HRW := Lib.hid (fun w' (h : Below w4.heap.size w4 w') => RowsAt.below R4.out h)
                have J0 : Hid (OwnI w4 w4.heap.size (.slice none 0 0) (kidsOf (T.take 0) (j : Int))) := Lib.hid (OwnW.nil _ _ _ _)
                have EB := Lib.hid (Below.refl w4.heap.size w4)
                go_wp2_with fail

                go_loopw [20, 21] (fun v kv wr => ∃ (k : Nat) (vj : Value), k ≤ T.length ∧ kv = .int .i64 k ∧ vj = v ∧ Hid (OwnI wr w4.heap.size vj (kidsOf (T.take k) (j : Int))) ∧ Hid (Below w4.heap.size w4 wr)) (fun _ kv _ => T.length - (RowKit.intOf kv).toNat)
                case atStart => exact ⟨0, _, by omega, rfl, rfl, J0, EB⟩
                case round =>
                  obtain ⟨k, vj, hk, rfl, rfl, HJ, HE⟩ := hrel
                  clear J0 EB
                  by_cases hlk : k < T.length
                  · have hkI : (k : Int) < (T.length : Int) := by omega
                    obtain ⟨rd, rfl, -, d0, d1, -⟩ := ToksAt.at (HRW.out _ HE.out) hlk
                    have HF := Lib.hid (kidsOf_take T (j : Int) k hlk)
                    have hjl : (kidsOf (T.take k) (j : Int)).length ≤ 80 := Nat.le_trans (kidsOf_few _ _) (by rw [List.length_take]; omega)
                    obtain ⟨pc, hpc⟩ : ∃ pc, Hid (pc = T[k].2.1) := ⟨_, Lib.hid rfl⟩
                    obtain ⟨ic, hic⟩ : ∃ ic, Hid (ic = T[k].1) := ⟨_, Lib.hid rfl⟩
                    rw [← hpc.out, ← hic.out] at HF
                    rw [← hpc.out] at d1
                    rw [← hic.out] at d0
                    by_cases hf : pc = (j : Int)
                    · have e1 : (pc == (j : Int)) = true := by simp [hf]
                      have HY := HF.out
                      rw [if_pos hf] at HY
                      have HYY := Lib.hid HY
                      obtain ⟨J, hJ⟩ : ∃ J, Hid (J = kidsOf (T.take k) (j : Int)) := ⟨_, Lib.hid rfl⟩
                      rw [← hJ.out] at HJ hjl HYY
                      clear HY HF hf
                      have D5 := Lib.hid ((Below.refl wr.heap.size wr).alloc (Nat.le_refl _) (.cells #[.int .i64 ic] 3))
                      have O5 := Lib.hid (HJ.out.below D5.out)
                      have N5 := Lib.hid (append_new (W := wr) (x := ic))
                      have E5 := Lib.hid (HE.out.trans (D5.out.mono HE.out.size))
                      go_wp2_with (at_builtin; (refine wpList_append_ownW (f := intc) intc_len intc_flat (by decide) rfl (.tmp 180) (.tmp 186) 35 rfl w4.heap.size 3 i0 zI 8 Try.underlying35 hi hz0 hz1 hz2 rfl vj J.length J rfl O5.out (some ⟨wr.heap.size, 0, none⟩) 1 [ic] (fun h => by cases h) N5.out rfl (by unfold maxLen; simp; omega) (by simp; omega) E5.out.size ?_))
                      intro v6 w6 ho6 hg6 _
                      have O6 := Lib.hid (show OwnI w6 w4.heap.size v6 (kidsOf (T.take (k + 1)) (j : Int)) by rw [HYY.out]; unfold OwnI; rw [List.length_append, List.flatMap_append, List.flatMap_singleton]; exact ho6)
                      have E6 := Lib.hid (E5.out.grown hg6 E5.out.size (fun q hq => (O5.out.lt hq).1))
                      clear ho6 hg6 O5 N5 E5 D5 HYY d0 d1
                      go_wp2_with fail
                      go_roundw
                      case rel => exact ⟨k + 1, v6, by omega, by go_num, rfl, O6, E6⟩
                      case measure => first | (simp [RowKit.intOf]; done) | (simp [RowKit.intOf]; omega)
                    · have e1 : (pc == (j : Int)) = false := by simpa using hf
                      have HY := HF.out
                      rw [if_neg hf, List.append_nil] at HY
                      rw [← HY] at HJ
                      clear HY HF hf d0
                      go_wp2_with fail
                      go_roundw
                      case rel => exact ⟨k + 1, vj, by omega, by go_num, rfl, HJ, HE⟩
                      case measure => first | (simp [RowKit.intOf]; done) | (simp [RowKit.intOf]; omega)
                  · obtain rfl : k = T.length := by omega
                    have HJ2 := Lib.hid (show OwnI wr w4.heap.size vj (kidsOf T (j : Int)) by have := HJ.out; rwa [List.take_length] at this)
                    clear HJ hlk
                    have S5 := Lib.hid (S4.out.below HE.out)
                    have HPL := Lib.hid (path_l_no RA rc T (j : Int) wr (HRW.out _ HE.out) (by omega) HNZ.out HNO.out)
                    have HIN := Lib.hid (ints_yes none 0 0 none 0 [] wr rfl (RowsAt.nil _ _ _) (RowsAt.nil _ _ _) (by simp))
                    obtain ⟨JA, jc, evj, -, -, -⟩ := OwnI.row HJ2.out
                    subst evj
                    clear HJ2 HRW
                    go_wp2_with fail
                    refine HPL.out.mono ?_
                    rintro e w7 ⟨rfl, rfl⟩
                    go_wp2_with fail
                    refine HIN.out.mono ?_
                    rintro e w8 ⟨rfl, b8⟩
                    have S8 := Lib.hid (S5.out.below b8)
                    clear b8 HPL HIN
                    go_wp2_with fail
                    refine (kids_no S8.out.tree (j : Int) HNZ.out HNO.out).mono ?_
                    rintro e w9 ⟨rfl, rfl⟩
                    go_wp2_with fail
                    go_roundw
                    case rel => exact ⟨j + 1, by omega, by go_num, S8⟩
                    case measure => simp [RowKit.intOf]; omega
              · exact absurd eq (HNO.out _ (List.getElem_mem hq))
          · have hE := Lib.hid (E1.out.trans (HS.out.tree.below.mono E1.out.size))
            have hle2 : nx < (j : Int) := by omega
            go_wp2_with fail
            go_ret
            exact ⟨rfl, hE.out⟩
end Go.Proofs.Ytonflknnlfffhaa
