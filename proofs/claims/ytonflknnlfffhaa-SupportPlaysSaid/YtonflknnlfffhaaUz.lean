/- SupportPlays. -/
import Derived.Test.YtonflknnlfffhaaUy
import Derived.Deep.DeepCutAuto
import Derived.Deep.CutBlock
namespace Go.Proofs.Ytonflknnlfffhaa
open Go.RowKit Go.Lib KP MR RW
set_option maxRecDepth 100000 in
set_option maxHeartbeats 16000000 in
theorem plays_good (A : Option Addr) (c : Nat) (l : List Af) (w : World) (hT : ActsIn w A l) (hl : l.length ≤ 80) : Calls Try.prog 6 #[.slice A l.length c] w fun e w' => e = .returned (.bool true) ∧ Below w.heap.size w w' := by
  obtain ⟨i0, hi, hz0, hz1, hz2⟩ := info_parts infoI
  obtain ⟨i0W, hiW, hz0W, hz1W, hz2W⟩ := info_parts infoW
  obtain ⟨i0S, hiS, hz0S, hz1S, hz2S⟩ := info_parts infoS
  have HT := Lib.hid (fun w' (h : Below w.heap.size w w') => hT.at h)
  have HWF : Hid (∀ a ∈ l, (Lit.int .i64 a.1.2).wf = true) := Lib.hid (fun a ha => (hT.each a ha).2)
  have hlI : (l.length : Int) ≤ 80 := by omega
  clear hT
  go_enter Try.func6, Try.ntmps6
  go_wp2_with fail
  refine (known_c w).mono ?_
  rintro e w1 ⟨rfl, b1⟩
  have E1 := Lib.hid b1; clear b1
  go_wp2_with fail
  refine (new_t w1).mono ?_
  rintro e w2 ⟨g, F2, rfl, t2, _⟩
  have S2 : Hid (Sq w1 g l 0 F2 [] [] (.slice none 0 0) [] w2) := Lib.hid ⟨t2, good_nil, Nat.le_refl _, rfl, OwnW.nil _ _ _ _, (fun k h => by cases h), (fun _ h => by cases h), (fun _ h => by cases h), (fun _ h => by cases h), Nat.le_refl _, (fun _ h => by cases h)⟩
  have HA : Hid (∀ w', Below w1.heap.size w1 w' → ∀ x, okY l x → ArgY w' x ∧ IntsAt (fun q => w1.heap.size ≤ q) w' x.2.1 x.1.2.2) := Lib.hid (fun w' hb x hx => by
    obtain ⟨h1, h2⟩ := (HT.out w' (E1.out.trans (hb.mono E1.out.size))).2 x hx
    refine ⟨h1, ?_⟩
    have h3 := (HT.out w1 E1.out).2 x hx
    exact ((RowsAt.keep (N := fun q => False ∨ w1.heap.size ≤ q) (RowsAt.old intc_len (by decide) h3.1.row) (Keep.of_below hb (fun _ => False)) (fun _ h => h.elim)).mono (fun k hk => .inr hk)))
  clear t2
  go_wp2_with fail
  go_loopw [4, 5] (fun v iv wr => ∃ (i : Nat) (F : Nat → Prop) (P : Pl) (C : List Wy) (vo : Value) (R : List Sf), i ≤ l.length ∧ iv = .int .i64 i ∧ vo = v ∧ Hid (Sq w1 g l i F P C vo R wr)) (fun _ iv _ => l.length - (RowKit.intOf iv).toNat)
  case atStart => exact ⟨0, F2, [], [], _, [], by omega, rfl, rfl, S2⟩
  case round =>
    obtain ⟨i, F, P, C, vo, R, hin, rfl, rfl, HP⟩ := hrel
    clear S2
    obtain ⟨RA, rc, ev, -, hRA, -⟩ := HP.out.row.row
    subst ev
    have HRA := Lib.hid hRA
    clear hRA
    by_cases hlt : i < l.length
    · have hiI : (i : Int) < (l.length : Int) := by omega
      obtain ⟨ad, rfl, c0, c1, c2, c3, c4⟩ := acts_at (HT.out _ (E1.out.trans (HP.out.tab.below.mono E1.out.size))).1 hlt
      have hmem := List.getElem_mem hlt
      have hwf := HWF.out _ hmem
      have HOK : Hid (l[i].2.1.2.2.length ≤ 20 → okY l l[i].2) := Lib.hid (fun h => ⟨h, _, hmem, rfl⟩)
      clear hmem
      generalize l[i] = act at *
      obtain ⟨⟨op, fa⟩, ⟨x1, x2, x3⟩, xA, xc⟩ := act
      dsimp only at c0 c1 c2 c3 c4 hwf HOK
      go_upto_region 11 with (fail)
      have DB := (Below.refl wr.heap.size wr).alloc (Nat.le_refl _) (.cells #[.int .i64 op, .int .i64 fa, .int .i64 x1, .int .i64 x2, .slice xA x3.length xc] 62)
      have SB := Lib.hid (HP.out.below DB)
      have CB : Hid (∀ j v, (actc ((op, fa), (x1, x2, x3), xA, xc))[j]? = some v → (wr.alloc (.cells #[.int .i64 op, .int .i64 fa, .int .i64 x1, .int .i64 x2, .slice xA x3.length xc] 62)).cell? ⟨wr.heap.size, j, none⟩ = some v) := Lib.hid (fun j v hv => block_cell (heap_alloc_new wr _) (by simpa using hv))
      have HBK : Hid ((wr.alloc (.cells #[.int .i64 op, .int .i64 fa, .int .i64 x1, .int .i64 x2, .slice xA x3.length xc] 62)).heap[wr.heap.size]? = some (.cells #[.int .i64 op, .int .i64 fa, .int .i64 x1, .int .i64 x2, .slice xA x3.length xc] 62 (0, 0))) := Lib.hid (heap_alloc_new wr _)
      have NFB : Hid (¬ F wr.heap.size) := Lib.hid (fun hF => by have := (HP.out.tab.lt _ hF).2; omega)
      have NVB : Hid (∀ q, (Value.slice RA R.length rc).ownBlock = some q → q ≠ wr.heap.size) := Lib.hid (fun q hq e => by have := (HP.out.row.own.lt hq).2; omega)
      have HWB : Hid (w1.heap.size ≤ wr.heap.size) := Lib.hid HP.out.tab.2.2
      clear DB HP
      generalize hwB : wr.alloc (.cells #[.int .i64 op, .int .i64 fa, .int .i64 x1, .int .i64 x2, .slice xA x3.length xc] 62) = wB at *
      generalize hbA : wr.heap.size = bA at *
      clear hwB hbA c0 c1 c2 c3 c4
      have TB := Lib.hid SB.out.tab
      have RB : Hid (RowsAt standc 3 (fun _ => False) wB RA R) := Lib.hid (by
        obtain ⟨A', c', ev, hr, _, _⟩ := SB.out.row.row
        injection ev with ev1 _ ev2
        rw [ev1]; exact hr)
      have cO := CB.out 0 _ rfl
      have cF := CB.out 1 _ rfl
      have cX := CB.out 2 _ rfl
      have cY := CB.out 3 _ rfl
      have cS := CB.out 4 _ rfl
      by_cases hx20 : ¬ x3.length ≤ 20
      · have hxI : (20 : Int) < (x3.length : Int) := by omega
        have HB := Lib.hid (E1.out.trans (TB.out.below.mono E1.out.size))
        clear hx20
        go_wp2_with fail
        go_ret
        exact ⟨rfl, HB.out⟩
      · have hxI : (x3.length : Int) ≤ 20 := by omega
        have HOKY := Lib.hid (HOK.out (by omega))
        have hRl : R.length ≤ 80 := by have := SB.out.row.len; omega
        have HAT := Lib.hid (at_c RA rc R fa wB RB.out (by omega))
        clear hx20 HOK
        go_wp2_with fail
        refine HAT.out.mono ?_
        rintro e w3 ⟨k, rfl, hat, rfl⟩
        have HK := Lib.hid hat
        clear HAT hat
        have HBXW : Hid (∀ w', Below wB.heap.size wB w' → w'.cell? ⟨bA, 0, none⟩ = some (.int .i64 op) ∧ w'.cell? ⟨bA, 1, none⟩ = some (.int .i64 fa) ∧ w'.cell? ⟨bA, 2, none⟩ = some (.int .i64 x1) ∧ w'.cell? ⟨bA, 3, none⟩ = some (.int .i64 x2) ∧ w'.cell? ⟨bA, 4, none⟩ = some (.slice xA x3.length xc)) := Lib.hid (fun w' hb => ⟨cell_kept cO hb, cell_kept cF hb, cell_kept cX hb, cell_kept cY hb, cell_kept cS hb⟩)
        by_cases h1 : op = 1
        · as_aux_lemma =>
            subst h1
            rcases HK.out with ⟨rfl, hn⟩ | ⟨j, hj, rfl, ej⟩
            · have HNO := Lib.hid hn
              clear hn
              go_upto_region 15 with (fail)
              go_cut [4] (fun v wx => ∃ (A9 : Option Addr) (c9 : Nat), v = .slice A9 (R.length + 1) c9 ∧ Hid (Below wB.heap.size wB wx) ∧ Hid (Sm w1 g l i F P C (.slice A9 (R.length + 1) c9) (R ++ [((fa, false, []), none, 0)]) fa R.length wx))
              case rest =>
                obtain ⟨A9, c9, rfl, EW, SM⟩ := hcut
                have hr9 : RowsAt standc 3 (fun _ => False) wc A9 (R ++ [((fa, false, []), none, 0)]) := by
                  obtain ⟨A', c', ev, hr, _, _⟩ := SM.out.row.row
                  injection ev with ev1 _ ev2
                  rw [ev1]; exact hr
                clear cO cF cX cY cS
                obtain ⟨cO, cF, cX, cY, cS⟩ := HBXW.out _ EW.out
                obtain ⟨R', eR⟩ : ∃ R', R' = R ++ [((fa, false, []), none, 0)] := ⟨_, rfl⟩
                have hl' : R.length + 1 = R'.length := by rw [eR]; simp
                rw [← eR] at SM hr9
                rw [hl'] at SM ⊢
                obtain ⟨j, ej⟩ : ∃ j, j = R.length := ⟨_, rfl⟩
                rw [← ej] at SM
                have hj : j < R'.length := by omega
                have hjw : IntKind.i64.wrap ((R'.length : Int) - 1) = (j : Int) := (IntWalk.i64_in _ (by omega)).trans (by omega)
                have hRl' : R'.length ≤ 81 := by omega
                obtain ⟨rd, rfl, -, d0, d1, d2⟩ := sts_at hr9 hj
                have hjI : (j : Int) < (R'.length : Int) := by omega
                clear hr9 eR hl' ej
                go_upto_block 2 with (fail)
                go_cut [4] (fun v wx => ∃ (F' : Nat → Prop) (P' : Pl) (C' : List Wy) (vo' : Value) (R2 : List Sf), vo' = v ∧ Hid (Sq w1 g l (i + 1) F' P' C' vo' R2 wx))
                case rest =>
                  obtain ⟨F', P', C', vo', R2, rfl, SN⟩ := hcut
                  obtain ⟨A', c', ev, -, -, -⟩ := SN.out.row.row
                  subst ev
                  clear cO cF cX cY cS
                  have HTE := Lib.hid (SN.out.tell (by omega) (fun x hx => (HA.out _ SN.out.tab.below x hx).1))
                  go_wp2_with fail
                  refine HTE.out.mono ?_
                  rintro e w9 ⟨rfl, b9⟩
                  have SN9 := Lib.hid (SN.out.below b9)
                  clear b9 HTE SN
                  go_wp2_with fail
                  go_roundw
                  case rel => exact ⟨i + 1, _, _, _, _, _, by omega, by go_num, rfl, SN9⟩
                  case measure => first | (simp [RowKit.intOf]; done) | (simp [RowKit.intOf]; omega)
                case first =>
                  have HFR := Lib.hid (free_t SM.out.tab fa hwf (by have := SM.out.few80.1; omega))
                  obtain ⟨s, es⟩ : ∃ s, R'[j] = s := ⟨_, rfl⟩
                  have HES := Lib.hid es
                  clear es
                  clear d0 d1 d2
                  go_wp2_with fail
                  refine HFR.out.mono ?_
                  rintro e w4 ⟨rfl, F4, t4, f41, f42, k4⟩
                  obtain ⟨q1, hfz⟩ := SM.out.free t4 k4 f42 hj HES.out
                  have hr4 : RowsAt standc 3 (fun _ => False) w4 (some rd) R' := by
                    obtain ⟨A', c', ev, hr, _, _⟩ := (SM.out.row.table k4 f42).row
                    injection ev with ev1 _ ev2
                    rw [ev1]; exact hr
                  obtain ⟨rd', erd, -, d0, d1, d2⟩ := sts_at hr4 hj
                  injection erd with erd
                  subst erd
                  have SN := Lib.hid q1
                  clear q1 hr4 t4 f41 f42 k4 HFR SM
                  rw [List.length_set] at SN
                  go_wp2_with fail
                  go_meet
                  exact ⟨_, _, _, _, _, rfl, SN⟩
              case first =>
                have RK := Lib.hid (RB.out.below ((Below.refl _ wB).drew))
                have E0 := Lib.hid (Below.refl wB.drew.heap.size wB.drew)
                have HS15 : Hid (∀ w', Below wB.drew.heap.size wB.drew w' → (fun w' : World => w'.cell? ⟨bA, 1, none⟩ = some (.int .i64 fa)) w') := Lib.hid (fun w' h => cell_kept (W := wB.drew) cF h)
                clear cO cX cY cS
                refine wp_region_held_drew (S := (fun w' : World => w'.cell? ⟨bA, 1, none⟩ = some (.int .i64 fa))) (by kernel_rfl) (HS15.out _ E0.out) (fun hHeld => ?_)
                refine wpAnyH_take (i := 1) (oi := ⟨_, _, _, _, _, _⟩) (v := ?_) rfl (by kernel_rfl) (by kernel_rfl) (by kernel_rfl) (fun _ _ _ h => h) (Or.inl ⟨by rfl, ?_⟩) (by assumption) ?_
                rotate_left
                · intro w' hSw; (try dsimp only at hSw); go_simp; (try with_reducible rfl)
                try simp only [Act.put, List.setIfInBounds_toArray, List.set_cons_zero, List.set_cons_succ]
                refine wpAnyH_take (i := 3) (oi := ⟨_, _, _, _, _, _⟩) (v := ?_) rfl (by kernel_rfl) (by kernel_rfl) (by kernel_rfl) (fun _ _ _ h => h) (Or.inl ⟨by rfl, ?_⟩) (by assumption) ?_
                rotate_left
                · intro w' hSw; (try dsimp only at hSw); go_simp; (try with_reducible rfl)
                try simp only [Act.put, List.setIfInBounds_toArray, List.set_cons_zero, List.set_cons_succ]
                refine wpAnyH_take (i := 4) (oi := ⟨_, _, _, _, _, _⟩) (v := ?_) rfl (by kernel_rfl) (by kernel_rfl) (by kernel_rfl) (fun _ _ _ h => h) (Or.inl ⟨by rfl, ?_⟩) (by assumption) ?_
                rotate_left
                · intro w' hSw; (try dsimp only at hSw); go_simp; (try with_reducible rfl)
                try simp only [Act.put, List.setIfInBounds_toArray, List.set_cons_zero, List.set_cons_succ]
                refine wpAnyH_take (i := 5) (oi := ⟨_, _, _, _, _, _⟩) (v := ?_) rfl (by kernel_rfl) (by kernel_rfl) (by kernel_rfl) (fun _ _ _ h => h) (Or.inl ⟨by rfl, ?_⟩) (by assumption) ?_
                rotate_left
                · intro w' hSw; (try dsimp only at hSw); go_simp; (try with_reducible rfl)
                try simp only [Act.put, List.setIfInBounds_toArray, List.set_cons_zero, List.set_cons_succ]
                refine wpAnyH_ready (rs := [0, 6]) (by kernel_rfl) (by simp) ?_
                refine (AllReadyH.cons (o := ⟨_, _, _, _, _, _⟩) rfl (fun K9 hK9 => ?_) (AllReadyH.cons (o := ⟨_, _, _, _, _, _⟩) rfl (fun K9 hK9 => ?_) AllReadyH.nil))
                · refine step_build0 rfl 60 rfl 65 i0S 3 _ Try.underlying60 hiS (Nat.le_refl _) ?_
                  intro va p1 ho hb
                  have E1 := Lib.hid (E0.out.trans (hb.mono E0.out.size))
                  have OA := Lib.hid (ho.mono E0.out.size)
                  clear ho hb
                  refine hK9.out _ _ (HS15.out _ E1.out) (fun hHeld => ?_)
                  clear hK9 K9
                  try simp only [Act.put, List.setIfInBounds_toArray, List.set_cons_zero, List.set_cons_succ]
                  refine wpAnyH_ready (rs := [2, 6]) (by kernel_rfl) (by simp) ?_
                  refine (AllReadyH.cons (o := ⟨_, _, _, _, _, _⟩) rfl (fun K9 hK9 => ?_) (AllReadyH.cons (o := ⟨_, _, _, _, _, _⟩) rfl (fun K9 hK9 => ?_) AllReadyH.nil))
                  · refine step_append_ownN (f := standc) standc_len standc_flat (by decide) rfl (.tmp 49) (.tmp 50) 60 rfl wB.drew.heap.size 65 i0S zS 40 Try.underlying60 hiS hz0S hz1S hz2S rfl va 0 [] rfl OA.out RA rc R R.length rfl HRA.out (RowsAt.below RK.out E1.out) rfl (by unfold maxLen; omega) (by omega) E1.out.size ?_
                    intro v2 p2 ho hg _
                    have E2 := Lib.hid (E1.out.grown hg E1.out.size (fun q hq => (OA.out.lt hq).1))
                    have O2 : Hid (OwnW p2 wB.drew.heap.size 65 3 v2 R.length (R.flatMap standc)) := Lib.hid (by have h := ho; rw [Nat.zero_add, List.nil_append] at h; exact h)
                    clear ho hg
                    refine hK9.out _ _ (HS15.out _ E2.out) (fun hHeld => ?_)
                    clear hK9 K9
                    try simp only [Act.put, List.setIfInBounds_toArray, List.set_cons_zero, List.set_cons_succ]
                    refine wpAnyH_ready (rs := [6]) (by kernel_rfl) (by simp) ?_
                    refine AllReadyH.cons (o := ⟨_, _, _, _, _, _⟩) rfl (fun K9 hK9 => ?_) AllReadyH.nil
                    refine step_build1 (f := standc) (m := 3) rfl 60 (.tmp 54) rfl 65 i0S zS Try.underlying60 hiS hz0S hz1S (by decide) (by decide) ((fa, false, []), none, 0) _ rfl (fillS ((fa, false, []), none, 0)) ?_
                    intro gb p3 nb hb hg1 hg2
                    have E3 := Lib.hid (E2.out.trans (hb.mono E2.out.size))
                    have NB := Lib.hid nb
                    have GB := Lib.hid hg2
                    have O2 := Lib.hid (OwnW.below O2.out hb)
                    clear nb hb hg1 hg2
                    refine hK9.out _ _ (HS15.out _ E3.out) (fun hHeld => ?_)
                    clear hK9 K9
                    try simp only [Act.put, List.setIfInBounds_toArray, List.set_cons_zero, List.set_cons_succ]
                    refine wpAnyH_ready (rs := [7]) (by kernel_rfl) (by simp) ?_
                    refine AllReadyH.cons (o := ⟨_, _, _, _, _, _⟩) rfl (fun K9 hK9 => ?_) AllReadyH.nil
                    refine step_append_ownN (f := standc) standc_len standc_flat (by decide) rfl (.tmp 51) (.tmp 55) 60 rfl wB.drew.heap.size 65 i0S zS 40 Try.underlying60 hiS hz0S hz1S hz2S rfl v2 R.length R rfl O2.out (some ⟨gb, 0, none⟩) 1 [((fa, false, []), none, 0)] 1 rfl (fun h => by cases h) (NB.out.mono (fun _ h => h.elim)) rfl (by unfold maxLen; omega) (by omega) E3.out.size ?_
                    intro v9 w9 ho hg _
                    have EZ := Lib.hid (E3.out.grown hg E3.out.size (fun q hq => (O2.out.lt hq).1))
                    have OZ := Lib.hid ho
                    clear ho hg
                    refine hK9.out _ _ (HS15.out _ EZ.out) (fun hHeld => ?_)
                    clear hK9 K9
                    try simp only [Act.put, List.setIfInBounds_toArray, List.set_cons_zero, List.set_cons_succ]
                    refine wpAnyH_take (i := 8) (oi := ⟨_, _, _, _, _, _⟩) (v := ?_) rfl (by kernel_rfl) (by kernel_rfl) (by kernel_rfl) (fun _ _ _ h => h) (Or.inl ⟨by rfl, ?_⟩) (by assumption) ?_
                    rotate_left
                    · intro w' hSw; (try dsimp only at hSw); go_simp; (try with_reducible rfl)
                    try simp only [Act.put, List.setIfInBounds_toArray, List.set_cons_zero, List.set_cons_succ]
                    refine wpAnyH_done (by kernel_rfl) ?_ _
                    clear hHeld
                    obtain ⟨A9, c9, ev9, -, -, -, -⟩ := OwnW.rows (l := R ++ [((fa, false, []), none, 0)]) (N := fun _ => False) standc_len (by decide) OZ.out (fun _ _ h => h)
                    rw [List.length_append, List.length_singleton] at ev9
                    subst ev9
                    have SM := Lib.hid (SB.out.add (id := fa) HNO.out ((Below.refl _ wB).drew.trans EZ.out) OZ.out (Nat.le_refl _))
                    have EW := Lib.hid ((Below.refl _ wB).drew.trans EZ.out)
                    clear OZ EZ
                    go_wp2_with fail
                    go_meet
                    exact ⟨A9, c9, rfl, EW, SM⟩
                  · refine step_build1 (f := standc) (m := 3) rfl 60 (.tmp 54) rfl 65 i0S zS Try.underlying60 hiS hz0S hz1S (by decide) (by decide) ((fa, false, []), none, 0) _ rfl (fillS ((fa, false, []), none, 0)) ?_
                    intro gb p5 nb hb hg1 hg2
                    have E5 := Lib.hid (E1.out.trans (hb.mono E1.out.size))
                    have NB := Lib.hid nb
                    have GB := Lib.hid hg2
                    have APN : Hid (∀ k, va.ownBlock = some k → k ≠ gb) := Lib.hid (fun k hk e => by have h1 := (OA.out.lt hk).2; omega)
                    have OA := Lib.hid (OwnW.below OA.out hb)
                    clear nb hb hg1 hg2
                    refine hK9.out _ _ (HS15.out _ E5.out) (fun hHeld => ?_)
                    clear hK9 K9
                    try simp only [Act.put, List.setIfInBounds_toArray, List.set_cons_zero, List.set_cons_succ]
                    refine wpAnyH_ready (rs := [2]) (by kernel_rfl) (by simp) ?_
                    refine AllReadyH.cons (o := ⟨_, _, _, _, _, _⟩) rfl (fun K9 hK9 => ?_) AllReadyH.nil
                    refine step_append_ownN (f := standc) standc_len standc_flat (by decide) rfl (.tmp 49) (.tmp 50) 60 rfl wB.drew.heap.size 65 i0S zS 40 Try.underlying60 hiS hz0S hz1S hz2S rfl va 0 [] rfl OA.out RA rc R R.length rfl HRA.out (RowsAt.below RK.out E5.out) rfl (by unfold maxLen; omega) (by omega) E5.out.size ?_
                    intro v2 p6 ho hg _
                    have E6 := Lib.hid (E5.out.grown hg E5.out.size (fun q hq => (OA.out.lt hq).1))
                    have O2 : Hid (OwnW p6 wB.drew.heap.size 65 3 v2 R.length (R.flatMap standc)) := Lib.hid (by have h := ho; rw [Nat.zero_add, List.nil_append] at h; exact h)
                    have NB := Lib.hid (RowsAt.keep (F := fun k => va.ownBlock = some k) NB.out ((Keep.refl _ _).grown hg (fun q hq => .inl hq)) (fun k hk => APN.out k hk))
                    clear ho hg
                    refine hK9.out _ _ (HS15.out _ E6.out) (fun hHeld => ?_)
                    clear hK9 K9
                    try simp only [Act.put, List.setIfInBounds_toArray, List.set_cons_zero, List.set_cons_succ]
                    refine wpAnyH_ready (rs := [7]) (by kernel_rfl) (by simp) ?_
                    refine AllReadyH.cons (o := ⟨_, _, _, _, _, _⟩) rfl (fun K9 hK9 => ?_) AllReadyH.nil
                    refine step_append_ownN (f := standc) standc_len standc_flat (by decide) rfl (.tmp 51) (.tmp 55) 60 rfl wB.drew.heap.size 65 i0S zS 40 Try.underlying60 hiS hz0S hz1S hz2S rfl v2 R.length R rfl O2.out (some ⟨gb, 0, none⟩) 1 [((fa, false, []), none, 0)] 1 rfl (fun h => by cases h) (NB.out.mono (fun _ h => h.elim)) rfl (by unfold maxLen; omega) (by omega) E6.out.size ?_
                    intro v9 w9 ho hg _
                    have EZ := Lib.hid (E6.out.grown hg E6.out.size (fun q hq => (O2.out.lt hq).1))
                    have OZ := Lib.hid ho
                    clear ho hg
                    refine hK9.out _ _ (HS15.out _ EZ.out) (fun hHeld => ?_)
                    clear hK9 K9
                    try simp only [Act.put, List.setIfInBounds_toArray, List.set_cons_zero, List.set_cons_succ]
                    refine wpAnyH_take (i := 8) (oi := ⟨_, _, _, _, _, _⟩) (v := ?_) rfl (by kernel_rfl) (by kernel_rfl) (by kernel_rfl) (fun _ _ _ h => h) (Or.inl ⟨by rfl, ?_⟩) (by assumption) ?_
                    rotate_left
                    · intro w' hSw; (try dsimp only at hSw); go_simp; (try with_reducible rfl)
                    try simp only [Act.put, List.setIfInBounds_toArray, List.set_cons_zero, List.set_cons_succ]
                    refine wpAnyH_done (by kernel_rfl) ?_ _
                    clear hHeld
                    obtain ⟨A9, c9, ev9, -, -, -, -⟩ := OwnW.rows (l := R ++ [((fa, false, []), none, 0)]) (N := fun _ => False) standc_len (by decide) OZ.out (fun _ _ h => h)
                    rw [List.length_append, List.length_singleton] at ev9
                    subst ev9
                    have SM := Lib.hid (SB.out.add (id := fa) HNO.out ((Below.refl _ wB).drew.trans EZ.out) OZ.out (Nat.le_refl _))
                    have EW := Lib.hid ((Below.refl _ wB).drew.trans EZ.out)
                    clear OZ EZ
                    go_wp2_with fail
                    go_meet
                    exact ⟨A9, c9, rfl, EW, SM⟩
                · refine step_build1 (f := standc) (m := 3) rfl 60 (.tmp 54) rfl 65 i0S zS Try.underlying60 hiS hz0S hz1S (by decide) (by decide) ((fa, false, []), none, 0) _ rfl (fillS ((fa, false, []), none, 0)) ?_
                  intro gb p8 nb hb hg1 hg2
                  have E8 := Lib.hid (E0.out.trans (hb.mono E0.out.size))
                  have NB := Lib.hid nb
                  have GB := Lib.hid hg2
                  clear nb hb hg1 hg2
                  refine hK9.out _ _ (HS15.out _ E8.out) (fun hHeld => ?_)
                  clear hK9 K9
                  try simp only [Act.put, List.setIfInBounds_toArray, List.set_cons_zero, List.set_cons_succ]
                  refine wpAnyH_ready (rs := [0]) (by kernel_rfl) (by simp) ?_
                  refine AllReadyH.cons (o := ⟨_, _, _, _, _, _⟩) rfl (fun K9 hK9 => ?_) AllReadyH.nil
                  refine step_build0 rfl 60 rfl 65 i0S 3 _ Try.underlying60 hiS (Nat.le_refl _) ?_
                  intro va p9 ho hb
                  have E9 := Lib.hid (E8.out.trans (hb.mono E8.out.size))
                  have OA := Lib.hid (ho.mono E8.out.size)
                  have APN : Hid (∀ k, va.ownBlock = some k → k ≠ gb) := Lib.hid (fun k hk e => by have h1 := (OwnW.lt ho hk).1; have h2 := GB.out; omega)
                  have NB := Lib.hid (RowsAt.below NB.out hb)
                  clear ho hb
                  refine hK9.out _ _ (HS15.out _ E9.out) (fun hHeld => ?_)
                  clear hK9 K9
                  try simp only [Act.put, List.setIfInBounds_toArray, List.set_cons_zero, List.set_cons_succ]
                  refine wpAnyH_ready (rs := [2]) (by kernel_rfl) (by simp) ?_
                  refine AllReadyH.cons (o := ⟨_, _, _, _, _, _⟩) rfl (fun K9 hK9 => ?_) AllReadyH.nil
                  refine step_append_ownN (f := standc) standc_len standc_flat (by decide) rfl (.tmp 49) (.tmp 50) 60 rfl wB.drew.heap.size 65 i0S zS 40 Try.underlying60 hiS hz0S hz1S hz2S rfl va 0 [] rfl OA.out RA rc R R.length rfl HRA.out (RowsAt.below RK.out E9.out) rfl (by unfold maxLen; omega) (by omega) E9.out.size ?_
                  intro v2 p10 ho hg _
                  have E10 := Lib.hid (E9.out.grown hg E9.out.size (fun q hq => (OA.out.lt hq).1))
                  have O2 : Hid (OwnW p10 wB.drew.heap.size 65 3 v2 R.length (R.flatMap standc)) := Lib.hid (by have h := ho; rw [Nat.zero_add, List.nil_append] at h; exact h)
                  have NB := Lib.hid (RowsAt.keep (F := fun k => va.ownBlock = some k) NB.out ((Keep.refl _ _).grown hg (fun q hq => .inl hq)) (fun k hk => APN.out k hk))
                  clear ho hg
                  refine hK9.out _ _ (HS15.out _ E10.out) (fun hHeld => ?_)
                  clear hK9 K9
                  try simp only [Act.put, List.setIfInBounds_toArray, List.set_cons_zero, List.set_cons_succ]
                  refine wpAnyH_ready (rs := [7]) (by kernel_rfl) (by simp) ?_
                  refine AllReadyH.cons (o := ⟨_, _, _, _, _, _⟩) rfl (fun K9 hK9 => ?_) AllReadyH.nil
                  refine step_append_ownN (f := standc) standc_len standc_flat (by decide) rfl (.tmp 51) (.tmp 55) 60 rfl wB.drew.heap.size 65 i0S zS 40 Try.underlying60 hiS hz0S hz1S hz2S rfl v2 R.length R rfl O2.out (some ⟨gb, 0, none⟩) 1 [((fa, false, []), none, 0)] 1 rfl (fun h => by cases h) (NB.out.mono (fun _ h => h.elim)) rfl (by unfold maxLen; omega) (by omega) E10.out.size ?_
                  intro v9 w9 ho hg _
                  have EZ := Lib.hid (E10.out.grown hg E10.out.size (fun q hq => (O2.out.lt hq).1))
                  have OZ := Lib.hid ho
                  clear ho hg
                  refine hK9.out _ _ (HS15.out _ EZ.out) (fun hHeld => ?_)
                  clear hK9 K9
                  try simp only [Act.put, List.setIfInBounds_toArray, List.set_cons_zero, List.set_cons_succ]
                  refine wpAnyH_take (i := 8) (oi := ⟨_, _, _, _, _, _⟩) (v := ?_) rfl (by kernel_rfl) (by kernel_rfl) (by kernel_rfl) (fun _ _ _ h => h) (Or.inl ⟨by rfl, ?_⟩) (by assumption) ?_
                  rotate_left
                  · intro w' hSw; (try dsimp only at hSw); go_simp; (try with_reducible rfl)
                  try simp only [Act.put, List.setIfInBounds_toArray, List.set_cons_zero, List.set_cons_succ]
                  refine wpAnyH_done (by kernel_rfl) ?_ _
                  clear hHeld
                  obtain ⟨A9, c9, ev9, -, -, -, -⟩ := OwnW.rows (l := R ++ [((fa, false, []), none, 0)]) (N := fun _ => False) standc_len (by decide) OZ.out (fun _ _ h => h)
                  rw [List.length_append, List.length_singleton] at ev9
                  subst ev9
                  have SM := Lib.hid (SB.out.add (id := fa) HNO.out ((Below.refl _ wB).drew.trans EZ.out) OZ.out (Nat.le_refl _))
                  have EW := Lib.hid ((Below.refl _ wB).drew.trans EZ.out)
                  clear OZ EZ
                  go_wp2_with fail
                  go_meet
                  exact ⟨A9, c9, rfl, EW, SM⟩
            · obtain ⟨rd, rfl, -, d0, d1, d2⟩ := sts_at RB.out hj
              have hjI : (j : Int) < (R.length : Int) := by omega
              have hj0 : ¬ (j : Int) < 0 := by omega
              have SM := Lib.hid (SB.out.has hj ej)
              clear ej
              go_upto_block 2 with (fail)
              go_cut [4] (fun v wx => ∃ (F' : Nat → Prop) (P' : Pl) (C' : List Wy) (vo' : Value) (R2 : List Sf), vo' = v ∧ Hid (Sq w1 g l (i + 1) F' P' C' vo' R2 wx))
              case rest =>
                obtain ⟨F', P', C', vo', R2, rfl, SN⟩ := hcut
                obtain ⟨A', c', ev, -, -, -⟩ := SN.out.row.row
                subst ev
                clear cO cF cX cY cS
                have HTE := Lib.hid (SN.out.tell (by omega) (fun x hx => (HA.out _ SN.out.tab.below x hx).1))
                go_wp2_with fail
                refine HTE.out.mono ?_
                rintro e w9 ⟨rfl, b9⟩
                have SN9 := Lib.hid (SN.out.below b9)
                clear b9 HTE SN
                go_wp2_with fail
                go_roundw
                case rel => exact ⟨i + 1, _, _, _, _, _, by omega, by go_num, rfl, SN9⟩
                case measure => first | (simp [RowKit.intOf]; done) | (simp [RowKit.intOf]; omega)
              case first =>
                have HFR := Lib.hid (free_t SM.out.tab fa hwf (by have := SM.out.few80.1; omega))
                obtain ⟨s, es⟩ : ∃ s, R[j] = s := ⟨_, rfl⟩
                have HES := Lib.hid es
                clear es
                clear d0 d1 d2
                go_wp2_with fail
                refine HFR.out.mono ?_
                rintro e w4 ⟨rfl, F4, t4, f41, f42, k4⟩
                obtain ⟨q1, hfz⟩ := SM.out.free t4 k4 f42 hj HES.out
                have hr4 : RowsAt standc 3 (fun _ => False) w4 (some rd) R := by
                  obtain ⟨A', c', ev, hr, _, _⟩ := (SM.out.row.table k4 f42).row
                  injection ev with ev1 _ ev2
                  rw [ev1]; exact hr
                obtain ⟨rd', erd, -, d0, d1, d2⟩ := sts_at hr4 hj
                injection erd with erd
                subst erd
                have SN := Lib.hid q1
                clear q1 hr4 t4 f41 f42 k4 HFR SM
                rw [List.length_set] at SN
                go_wp2_with fail
                go_meet
                exact ⟨_, _, _, _, _, rfl, SN⟩
        · by_cases h2 : op = 2
          · as_aux_lemma =>
              subst h2
              rcases HK.out with ⟨rfl, hn⟩ | ⟨j, hj, rfl, ej⟩
              · have HNO := Lib.hid hn
                clear hn
                go_upto_region 15 with (fail)
                go_cut [4] (fun v wx => ∃ (A9 : Option Addr) (c9 : Nat), v = .slice A9 (R.length + 1) c9 ∧ Hid (Below wB.heap.size wB wx) ∧ Hid (Sm w1 g l i F P C (.slice A9 (R.length + 1) c9) (R ++ [((fa, false, []), none, 0)]) fa R.length wx))
                case rest =>
                  obtain ⟨A9, c9, rfl, EW, SM⟩ := hcut
                  have hr9 : RowsAt standc 3 (fun _ => False) wc A9 (R ++ [((fa, false, []), none, 0)]) := by
                    obtain ⟨A', c', ev, hr, _, _⟩ := SM.out.row.row
                    injection ev with ev1 _ ev2
                    rw [ev1]; exact hr
                  clear cO cF cX cY cS
                  obtain ⟨cO, cF, cX, cY, cS⟩ := HBXW.out _ EW.out
                  obtain ⟨R', eR⟩ : ∃ R', R' = R ++ [((fa, false, []), none, 0)] := ⟨_, rfl⟩
                  have hl' : R.length + 1 = R'.length := by rw [eR]; simp
                  rw [← eR] at SM hr9
                  rw [hl'] at SM ⊢
                  obtain ⟨j, ej⟩ : ∃ j, j = R.length := ⟨_, rfl⟩
                  rw [← ej] at SM
                  have hj : j < R'.length := by omega
                  have hjw : IntKind.i64.wrap ((R'.length : Int) - 1) = (j : Int) := (IntWalk.i64_in _ (by omega)).trans (by omega)
                  have hRl' : R'.length ≤ 81 := by omega
                  obtain ⟨rd, rfl, -, d0, d1, d2⟩ := sts_at hr9 hj
                  have hjI : (j : Int) < (R'.length : Int) := by omega
                  clear hr9 eR hl' ej
                  go_upto_block 2 with (fail)
                  go_cut [4] (fun v wx => ∃ (F' : Nat → Prop) (P' : Pl) (C' : List Wy) (vo' : Value) (R2 : List Sf), vo' = v ∧ Hid (Sq w1 g l (i + 1) F' P' C' vo' R2 wx))
                  case rest =>
                    obtain ⟨F', P', C', vo', R2, rfl, SN⟩ := hcut
                    obtain ⟨A', c', ev, -, -, -⟩ := SN.out.row.row
                    subst ev
                    clear cO cF cX cY cS
                    have HTE := Lib.hid (SN.out.tell (by omega) (fun x hx => (HA.out _ SN.out.tab.below x hx).1))
                    go_wp2_with fail
                    refine HTE.out.mono ?_
                    rintro e w9 ⟨rfl, b9⟩
                    have SN9 := Lib.hid (SN.out.below b9)
                    clear b9 HTE SN
                    go_wp2_with fail
                    go_roundw
                    case rel => exact ⟨i + 1, _, _, _, _, _, by omega, by go_num, rfl, SN9⟩
                    case measure => first | (simp [RowKit.intOf]; done) | (simp [RowKit.intOf]; omega)
                  case first =>
                    have HSU := Lib.hid (support_t SM.out.tab fa ((x1, x2, x3), xA, xc) (HA.out _ SM.out.tab.below _ HOKY.out).1 ((HA.out _ SM.out.tab.below _ HOKY.out).2.mono (fun q hq => (SM.out.tab.lt q hq).1)) hwf (by have := SM.out.few80.1; omega) (fun p hp => by have := SM.out.few80.2 p hp; omega) (by have := SM.out.few; omega))
                    obtain ⟨s, es⟩ : ∃ s, R'[j] = s := ⟨_, rfl⟩
                    have HES := Lib.hid es
                    clear es
                    have HCX := Lib.hid cX
                    have HCY := Lib.hid cY
                    have HCS := Lib.hid cS
                    clear d0 d1 d2
                    go_wp2_with fail
                    refine HSU.out.mono ?_
                    rintro e w4 ⟨rfl, F4, t4, f41, f42, k4⟩
                    have hrw := SM.out.row.table k4 f42
                    have hr4 : RowsAt standc 3 (fun _ => False) w4 (some rd) R' := by
                      obtain ⟨A', c', ev, hr, _, _⟩ := hrw.row
                      injection ev with ev1 _ ev2
                      rw [ev1]; exact hr
                    obtain ⟨rd', erd, -, -, -, d2⟩ := sts_at hr4 hj
                    injection erd with erd
                    subst erd
                    rw [HES.out] at d2
                    have HSX : Hid (∀ w', Below w4.heap.size w4 w' → (fun w' : World => w'.cell? ⟨bA, 2, none⟩ = some (.int .i64 x1) ∧ w'.cell? ⟨bA, 3, none⟩ = some (.int .i64 x2) ∧ w'.cell? ⟨bA, 4, none⟩ = some (.slice xA x3.length xc) ∧ w'.cell? ⟨(rd.add (j * 3)).block, (rd.add (j * 3)).off + 2, none⟩ = some (.slice s.2.1 s.1.2.2.length s.2.2)) w') := Lib.hid (fun w' hb => ⟨cell_kept (k4.cell HCX.out NFB.out) hb, cell_kept (k4.cell HCY.out NFB.out) hb, cell_kept (k4.cell HCS.out NFB.out) hb, cell_kept d2 hb⟩)
                    have HLS : Hid (RowsAt whyc 3 (fun _ => False) w4 s.2.1 s.1.2.2) := Lib.hid (by rw [← HES.out]; exact (hrw.each _ (List.getElem_mem hj)).mono (fun _ h => h.elim))
                    have HSA : Hid (s.2.1 = none → s.2.2 = 0) := Lib.hid (by rw [← HES.out]; exact (hrw.nil _ (List.getElem_mem hj)).1)
                    have hsl : s.1.2.2.length ≤ 80 := by rw [← HES.out]; have := SM.out.lens _ (List.getElem_mem hj); omega
                    have HFI := Lib.hid (find_c s.2.1 s.2.2 s.1.2.2 ((x1, x2, x3), xA, xc) w4.drew (HLS.out.below (Below.refl _ w4).drew) (fun z hz => (HA.out _ t4.below.drew z (hrw.of s (by rw [← HES.out]; exact List.getElem_mem hj) z hz)).1) (HA.out _ t4.below.drew _ HOKY.out).1 (by omega))
                    have ED := Lib.hid ((Below.refl w4.heap.size w4).drew)
                    obtain ⟨r, hr⟩ : ∃ r, decide (((x1, x2, x3) : Wy) ∉ s.1.2.2.map (·.1)) = r := ⟨_, rfl⟩
                    have HR' := Lib.hid hr
                    clear hr hr4 hrw d2 cO cF cX cY cS HSU
                    go_wp2_with fail
                    refine wp_region_held_drew (S := (fun w' : World => w'.cell? ⟨bA, 2, none⟩ = some (.int .i64 x1) ∧ w'.cell? ⟨bA, 3, none⟩ = some (.int .i64 x2) ∧ w'.cell? ⟨bA, 4, none⟩ = some (.slice xA x3.length xc) ∧ w'.cell? ⟨(rd.add (j * 3)).block, (rd.add (j * 3)).off + 2, none⟩ = some (.slice s.2.1 s.1.2.2.length s.2.2))) (by kernel_rfl) (HSX.out _ ED.out) (fun hHeld => ?_)
                    refine wpAnyH_take (i := 0) (oi := ⟨_, _, _, _, _, _⟩) (v := ?_) rfl (by kernel_rfl) (by kernel_rfl) (by kernel_rfl) (fun _ _ _ h => h) (Or.inl ⟨by rfl, ?_⟩) (by assumption) ?_
                    rotate_left
                    · intro w' hSw; (try dsimp only at hSw); go_simp; (try with_reducible rfl)
                    try simp only [Act.put, List.setIfInBounds_toArray, List.set_cons_zero, List.set_cons_succ]
                    refine wpAnyH_take (i := 1) (oi := ⟨_, _, _, _, _, _⟩) (v := ?_) rfl (by kernel_rfl) (by kernel_rfl) (by kernel_rfl) (fun _ _ _ h => h) (Or.inl ⟨by rfl, ?_⟩) (by assumption) ?_
                    rotate_left
                    · intro w' hSw; (try dsimp only at hSw); go_simp; (try with_reducible rfl)
                    try simp only [Act.put, List.setIfInBounds_toArray, List.set_cons_zero, List.set_cons_succ]
                    refine wpAnyH_take (i := 2) (oi := ⟨_, _, _, _, _, _⟩) (v := ?_) rfl (by kernel_rfl) (by kernel_rfl) (by kernel_rfl) (fun _ _ _ h => h) (Or.inl ⟨by rfl, ?_⟩) (by assumption) ?_
                    rotate_left
                    · intro w' hSw; (try dsimp only at hSw); go_simp; (try with_reducible rfl)
                    try simp only [Act.put, List.setIfInBounds_toArray, List.set_cons_zero, List.set_cons_succ]
                    refine wpAnyH_take (i := 3) (oi := ⟨_, _, _, _, _, _⟩) (v := ?_) rfl (by kernel_rfl) (by kernel_rfl) (by kernel_rfl) (fun _ _ _ h => h) (Or.inl ⟨by rfl, ?_⟩) (by assumption) ?_
                    rotate_left
                    · intro w' hSw; (try dsimp only at hSw); go_simp; (try with_reducible rfl)
                    try simp only [Act.put, List.setIfInBounds_toArray, List.set_cons_zero, List.set_cons_succ]
                    refine wpAnyH_take (i := 4) (oi := ⟨_, _, _, _, _, _⟩) (v := ?_) rfl (by kernel_rfl) (by kernel_rfl) (by kernel_rfl) (fun _ _ _ h => h) (Or.inl ⟨by rfl, ?_⟩) (by assumption) ?_
                    rotate_left
                    · intro w' hSw; (try dsimp only at hSw); go_simp; (try with_reducible rfl)
                    try simp only [Act.put, List.setIfInBounds_toArray, List.set_cons_zero, List.set_cons_succ]
                    refine wpAnyH_take (i := 5) (oi := ⟨_, _, _, _, _, _⟩) (v := ?_) rfl (by kernel_rfl) (by kernel_rfl) (by kernel_rfl) (fun _ _ _ h => h) (Or.inl ⟨by rfl, ?_⟩) (by assumption) ?_
                    rotate_left
                    · intro w' hSw; (try dsimp only at hSw); go_simp; (try with_reducible rfl)
                    try simp only [Act.put, List.setIfInBounds_toArray, List.set_cons_zero, List.set_cons_succ]
                    refine wpAnyH_take (i := 6) (oi := ⟨_, _, _, _, _, _⟩) (v := ?_) rfl (by kernel_rfl) (by kernel_rfl) (by kernel_rfl) (fun _ _ _ h => h) (Or.inl ⟨by rfl, ?_⟩) (by assumption) ?_
                    rotate_left
                    · intro w' hSw; (try dsimp only at hSw); go_simp; (try with_reducible rfl)
                    try simp only [Act.put, List.setIfInBounds_toArray, List.set_cons_zero, List.set_cons_succ]
                    refine wpAnyH_ready (rs := [7]) (by kernel_rfl) (by simp) ?_
                    refine AllReadyH.cons (o := ⟨_, _, _, _, _, _⟩) rfl (fun K9 hK9 => ?_) AllReadyH.nil
                    go_simp
                    (with_reducible refine (HFI.out).mono ?_)
                    rintro e u2 ⟨i1, rfl, hp1, bb2⟩
                    have EU := Lib.hid (ED.out.trans (bb2.mono ED.out.size))
                    have hi1 : decide (i1 < 0) = r := (pos_dec hp1).trans HR'.out
                    clear bb2 hp1
                    go_wp2_with fail
                    refine hK9.out _ _ (HSX.out _ EU.out) (fun hHeld => ?_)
                    clear hK9 K9
                    try simp only [Act.put, List.setIfInBounds_toArray, List.set_cons_zero, List.set_cons_succ]
                    refine wpAnyH_take (i := 8) (oi := ⟨_, _, _, _, _, _⟩) (v := ?_) rfl (by kernel_rfl) (by kernel_rfl) (by kernel_rfl) (fun _ _ _ h => h) (Or.inl ⟨by rfl, ?_⟩) (by assumption) ?_
                    rotate_left
                    · intro w' hSw; (try dsimp only at hSw); go_simp; (try with_reducible rfl)
                    try simp only [Act.put, List.setIfInBounds_toArray, List.set_cons_zero, List.set_cons_succ]
                    refine wpAnyH_done (by kernel_rfl) ?_ _
                    clear hHeld
                    cases r with
                    | false =>
                      have SN := Lib.hid ((SM.out.sup_old t4 k4 f42 hj HES.out (x := ((x1, x2, x3), xA, xc)) (Classical.not_not.1 (of_decide_eq_false HR'.out))).below EU.out)
                      clear HSX HFI HLS HCX HCY HCS t4 f41 f42 k4 SM HR' EU ED hi1
                      go_wp2_with fail
                      go_meet
                      exact ⟨_, _, _, _, _, rfl, SN⟩
                    | true =>
                      have HNI : Hid (((x1, x2, x3), xA, xc).1 ∉ s.1.2.2.map (·.1)) := Lib.hid (of_decide_eq_true HR'.out)
                      have E0 := Lib.hid (Below.refl u2.drew.heap.size u2.drew)
                      have HSX2 : Hid (∀ w', Below u2.drew.heap.size u2.drew w' → (fun w' : World => w'.cell? ⟨bA, 2, none⟩ = some (.int .i64 x1) ∧ w'.cell? ⟨bA, 3, none⟩ = some (.int .i64 x2) ∧ w'.cell? ⟨bA, 4, none⟩ = some (.slice xA x3.length xc) ∧ w'.cell? ⟨(rd.add (j * 3)).block, (rd.add (j * 3)).off + 2, none⟩ = some (.slice s.2.1 s.1.2.2.length s.2.2)) w') := Lib.hid (fun w' hb => HSX.out w' (EU.out.drew.trans (hb.mono EU.out.size)))
                      have RK : Hid (RowsAt whyc 3 (fun _ => False) u2.drew s.2.1 s.1.2.2) := Lib.hid (HLS.out.below (EU.out.drew))
                      clear HR' hi1
                      go_wp2_with fail
                      refine LW.wp_region_last (S := (fun w' : World => w'.cell? ⟨bA, 2, none⟩ = some (.int .i64 x1) ∧ w'.cell? ⟨bA, 3, none⟩ = some (.int .i64 x2) ∧ w'.cell? ⟨bA, 4, none⟩ = some (.slice xA x3.length xc) ∧ w'.cell? ⟨(rd.add (j * 3)).block, (rd.add (j * 3)).off + 2, none⟩ = some (.slice s.2.1 s.1.2.2.length s.2.2))) 15 (by kernel_rfl) (HSX2.out _ E0.out) (fun hHeld => ?_)
                      refine LW.wpAnyL_take (i := 0) (oi := ⟨_, _, _, _, _, _⟩) (v := ?_) rfl (by kernel_rfl) (by kernel_rfl) (by kernel_rfl) (by kernel_rfl) (fun _ _ _ h => h) (Or.inl ⟨by rfl, ?_⟩) (by assumption) ?_
                      rotate_left
                      · intro w' hSw; (try dsimp only at hSw); go_simp; (try with_reducible rfl)
                      try simp only [Act.put, List.setIfInBounds_toArray, List.set_cons_zero, List.set_cons_succ]
                      refine LW.wpAnyL_take (i := 1) (oi := ⟨_, _, _, _, _, _⟩) (v := ?_) rfl (by kernel_rfl) (by kernel_rfl) (by kernel_rfl) (by kernel_rfl) (fun _ _ _ h => h) (Or.inl ⟨by rfl, ?_⟩) (by assumption) ?_
                      rotate_left
                      · intro w' hSw; (try dsimp only at hSw); go_simp; (try with_reducible rfl)
                      try simp only [Act.put, List.setIfInBounds_toArray, List.set_cons_zero, List.set_cons_succ]
                      refine LW.wpAnyL_take (i := 3) (oi := ⟨_, _, _, _, _, _⟩) (v := ?_) rfl (by kernel_rfl) (by kernel_rfl) (by kernel_rfl) (by kernel_rfl) (fun _ _ _ h => h) (Or.inl ⟨by rfl, ?_⟩) (by assumption) ?_
                      rotate_left
                      · intro w' hSw; (try dsimp only at hSw); go_simp; (try with_reducible rfl)
                      try simp only [Act.put, List.setIfInBounds_toArray, List.set_cons_zero, List.set_cons_succ]
                      refine LW.wpAnyL_take (i := 4) (oi := ⟨_, _, _, _, _, _⟩) (v := ?_) rfl (by kernel_rfl) (by kernel_rfl) (by kernel_rfl) (by kernel_rfl) (fun _ _ _ h => h) (Or.inl ⟨by rfl, ?_⟩) (by assumption) ?_
                      rotate_left
                      · intro w' hSw; (try dsimp only at hSw); go_simp; (try with_reducible rfl)
                      try simp only [Act.put, List.setIfInBounds_toArray, List.set_cons_zero, List.set_cons_succ]
                      refine LW.wpAnyL_take (i := 5) (oi := ⟨_, _, _, _, _, _⟩) (v := ?_) rfl (by kernel_rfl) (by kernel_rfl) (by kernel_rfl) (by kernel_rfl) (fun _ _ _ h => h) (Or.inl ⟨by rfl, ?_⟩) (by assumption) ?_
                      rotate_left
                      · intro w' hSw; (try dsimp only at hSw); go_simp; (try with_reducible rfl)
                      try simp only [Act.put, List.setIfInBounds_toArray, List.set_cons_zero, List.set_cons_succ]
                      refine LW.wpAnyL_take (i := 6) (oi := ⟨_, _, _, _, _, _⟩) (v := ?_) rfl (by kernel_rfl) (by kernel_rfl) (by kernel_rfl) (by kernel_rfl) (fun _ _ _ h => h) (Or.inl ⟨by rfl, ?_⟩) (by assumption) ?_
                      rotate_left
                      · intro w' hSw; (try dsimp only at hSw); go_simp; (try with_reducible rfl)
                      try simp only [Act.put, List.setIfInBounds_toArray, List.set_cons_zero, List.set_cons_succ]
                      refine LW.wpAnyL_take (i := 7) (oi := ⟨_, _, _, _, _, _⟩) (v := ?_) rfl (by kernel_rfl) (by kernel_rfl) (by kernel_rfl) (by kernel_rfl) (fun _ _ _ h => h) (Or.inl ⟨by rfl, ?_⟩) (by assumption) ?_
                      rotate_left
                      · intro w' hSw; (try dsimp only at hSw); go_simp; (try with_reducible rfl)
                      try simp only [Act.put, List.setIfInBounds_toArray, List.set_cons_zero, List.set_cons_succ]
                      refine LW.wpAnyL_take (i := 9) (oi := ⟨_, _, _, _, _, _⟩) (v := ?_) rfl (by kernel_rfl) (by kernel_rfl) (by kernel_rfl) (by kernel_rfl) (fun _ _ _ h => h) (Or.inl ⟨by rfl, ?_⟩) (by assumption) ?_
                      rotate_left
                      · intro w' hSw; (try dsimp only at hSw); go_simp; (try with_reducible rfl)
                      try simp only [Act.put, List.setIfInBounds_toArray, List.set_cons_zero, List.set_cons_succ]
                      refine LW.wpAnyL_take (i := 10) (oi := ⟨_, _, _, _, _, _⟩) (v := ?_) rfl (by kernel_rfl) (by kernel_rfl) (by kernel_rfl) (by kernel_rfl) (fun _ _ _ h => h) (Or.inl ⟨by rfl, ?_⟩) (by assumption) ?_
                      rotate_left
                      · intro w' hSw; (try dsimp only at hSw); go_simp; (try with_reducible rfl)
                      try simp only [Act.put, List.setIfInBounds_toArray, List.set_cons_zero, List.set_cons_succ]
                      refine LW.wpAnyL_ready (rs := [2, 11]) (by kernel_rfl) (by simp) ?_
                      refine (LW.AllReadyL.cons (o := ⟨_, _, _, _, _, _⟩) rfl (fun K9 hK9 => ?_) (LW.AllReadyL.cons (o := ⟨_, _, _, _, _, _⟩) rfl (fun K9 hK9 => ?_) LW.AllReadyL.nil))
                      · refine step_build0 rfl 46 rfl 50 i0W 3 _ Try.underlying46 hiW (Nat.le_refl _) ?_
                        intro va p1 ho hb
                        have E1 := Lib.hid (E0.out.trans (hb.mono E0.out.size))
                        have OA := Lib.hid (ho.mono E0.out.size)
                        clear ho hb
                        refine hK9.out _ _ (HSX2.out _ E1.out) (fun hHeld => ?_)
                        clear hK9 K9
                        try simp only [Act.put, List.setIfInBounds_toArray, List.set_cons_zero, List.set_cons_succ]
                        refine LW.wpAnyL_ready (rs := [8, 11]) (by kernel_rfl) (by simp) ?_
                        refine (LW.AllReadyL.cons (o := ⟨_, _, _, _, _, _⟩) rfl (fun K9 hK9 => ?_) (LW.AllReadyL.cons (o := ⟨_, _, _, _, _, _⟩) rfl (fun K9 hK9 => ?_) LW.AllReadyL.nil))
                        · refine step_append_ownN (f := whyc) whyc_len whyc_flat (by decide) rfl (.tmp 91) (.tmp 96) 46 rfl u2.drew.heap.size 50 i0W zW 40 Try.underlying46 hiW hz0W hz1W hz2W rfl va 0 [] rfl OA.out s.2.1 s.2.2 s.1.2.2 s.1.2.2.length rfl HSA.out (RowsAt.below RK.out E1.out) rfl (by unfold maxLen; omega) (by omega) E1.out.size ?_
                          intro v2 p2 ho hg _
                          have E2 := Lib.hid (E1.out.grown hg E1.out.size (fun q hq => (OA.out.lt hq).1))
                          have O2 : Hid (OwnW p2 u2.drew.heap.size 50 3 v2 s.1.2.2.length (s.1.2.2.flatMap whyc)) := Lib.hid (by have h := ho; rw [Nat.zero_add, List.nil_append] at h; exact h)
                          clear ho hg
                          refine hK9.out _ _ (HSX2.out _ E2.out) (fun hHeld => ?_)
                          clear hK9 K9
                          try simp only [Act.put, List.setIfInBounds_toArray, List.set_cons_zero, List.set_cons_succ]
                          refine LW.wpAnyL_ready (rs := [11]) (by kernel_rfl) (by simp) ?_
                          refine LW.AllReadyL.cons (o := ⟨_, _, _, _, _, _⟩) rfl (fun K9 hK9 => ?_) LW.AllReadyL.nil
                          refine step_build1 (f := whyc) (m := 3) rfl 46 (.tmp 99) rfl 50 i0W zW Try.underlying46 hiW hz0W hz1W (by decide) (by decide) ((x1, x2, x3), xA, xc) _ rfl (fillW ((x1, x2, x3), xA, xc)) ?_
                          intro gb p3 nb hb hg1 hg2
                          have E3 := Lib.hid (E2.out.trans (hb.mono E2.out.size))
                          have NB := Lib.hid nb
                          have GB := Lib.hid hg2
                          have O2 := Lib.hid (OwnW.below O2.out hb)
                          clear nb hb hg1 hg2
                          refine hK9.out _ _ (HSX2.out _ E3.out) (fun hHeld => ?_)
                          clear hK9 K9
                          try simp only [Act.put, List.setIfInBounds_toArray, List.set_cons_zero, List.set_cons_succ]
                          refine LW.wpAnyL_ready (rs := [12]) (by kernel_rfl) (by simp) ?_
                          refine LW.AllReadyL.cons (o := ⟨_, _, _, _, _, _⟩) rfl (fun K9 hK9 => ?_) LW.AllReadyL.nil
                          refine step_append_ownN (f := whyc) whyc_len whyc_flat (by decide) rfl (.tmp 97) (.tmp 100) 46 rfl u2.drew.heap.size 50 i0W zW 40 Try.underlying46 hiW hz0W hz1W hz2W rfl v2 s.1.2.2.length s.1.2.2 rfl O2.out (some ⟨gb, 0, none⟩) 1 [((x1, x2, x3), xA, xc)] 1 rfl (fun h => by cases h) (NB.out.mono (fun _ h => h.elim)) rfl (by unfold maxLen; omega) (by omega) E3.out.size ?_
                          intro v9 w9 ho hg _
                          have EZ := Lib.hid (E3.out.grown hg E3.out.size (fun q hq => (O2.out.lt hq).1))
                          have OZ := Lib.hid ho
                          clear ho hg
                          refine hK9.out _ _ (HSX2.out _ EZ.out) (fun hHeld => ?_)
                          clear hK9 K9
                          try simp only [Act.put, List.setIfInBounds_toArray, List.set_cons_zero, List.set_cons_succ]
                          refine LW.wpAnyL_ready (rs := [13]) (by kernel_rfl) (by simp) ?_
                          refine LW.AllReadyL.cons (o := ⟨_, _, _, _, _, _⟩) rfl (fun K9 hK9 => ?_) LW.AllReadyL.nil
                          go_simp
                          refine hK9.out _ _ (HSX2.out _ EZ.out) (fun hHeld => ?_)
                          clear hK9 K9
                          try simp only [Act.put, List.setIfInBounds_toArray, List.set_cons_zero, List.set_cons_succ]
                          refine LW.wpAnyL_take (i := 14) (oi := ⟨_, _, _, _, _, _⟩) (v := ?_) rfl (by kernel_rfl) (by kernel_rfl) (by kernel_rfl) (by kernel_rfl) (fun _ _ _ h => h) (Or.inl ⟨by rfl, ?_⟩) (by assumption) ?_
                          rotate_left
                          · intro w' hSw; (try dsimp only at hSw); go_simp; (try with_reducible rfl)
                          try simp only [Act.put, List.setIfInBounds_toArray, List.set_cons_zero, List.set_cons_succ]
                          obtain ⟨A9, c9, ev9, -, -, -, -⟩ := OwnW.rows (l := s.1.2.2 ++ [((x1, x2, x3), xA, xc)]) (N := fun _ => False) whyc_len (by decide) OZ.out (fun _ _ h => h)
                          rw [List.length_append, List.length_singleton] at ev9
                          subst ev9
                          obtain ⟨q1, cs9, hg9, hk9⟩ := SM.out.sup_new t4 k4 f42 hj HES.out HNI.out HOKY.out (EU.out.drew.trans (EZ.out.mono EU.out.size)) OZ.out EU.out.size
                          refine LW.wpAnyL_ready (rs := [15]) (by kernel_rfl) (by simp) ?_
                          refine LW.AllReadyL.fin (o := ⟨_, _, _, _, _, _⟩) rfl (fun K9 hK9 => ?_)
                          refine LW.step_store1 rfl 46 (.tmp 103) (.tmp 101) rfl (rd.add (j * 3)).block ((rd.add (j * 3)).off + 2) (.slice A9 (s.1.2.2.length + 1) c9) _ _ rfl rfl hg9 hk9 (by kernel_rfl) rfl ?_
                          refine hK9.out _ _ ?_
                          clear hK9 K9
                          try simp only [Act.put]
                          refine LW.wpAnyL_done (by kernel_rfl) ?_ _
                          have SN := Lib.hid q1
                          clear q1 hg9 hk9 OZ EZ
                          rw [List.length_set] at SN
                          go_wp2_with fail
                          go_meet
                          exact ⟨_, _, _, _, _, rfl, SN⟩
                        · refine step_build1 (f := whyc) (m := 3) rfl 46 (.tmp 99) rfl 50 i0W zW Try.underlying46 hiW hz0W hz1W (by decide) (by decide) ((x1, x2, x3), xA, xc) _ rfl (fillW ((x1, x2, x3), xA, xc)) ?_
                          intro gb p5 nb hb hg1 hg2
                          have E5 := Lib.hid (E1.out.trans (hb.mono E1.out.size))
                          have NB := Lib.hid nb
                          have GB := Lib.hid hg2
                          have APN : Hid (∀ k, va.ownBlock = some k → k ≠ gb) := Lib.hid (fun k hk e => by have h1 := (OA.out.lt hk).2; omega)
                          have OA := Lib.hid (OwnW.below OA.out hb)
                          clear nb hb hg1 hg2
                          refine hK9.out _ _ (HSX2.out _ E5.out) (fun hHeld => ?_)
                          clear hK9 K9
                          try simp only [Act.put, List.setIfInBounds_toArray, List.set_cons_zero, List.set_cons_succ]
                          refine LW.wpAnyL_ready (rs := [8]) (by kernel_rfl) (by simp) ?_
                          refine LW.AllReadyL.cons (o := ⟨_, _, _, _, _, _⟩) rfl (fun K9 hK9 => ?_) LW.AllReadyL.nil
                          refine step_append_ownN (f := whyc) whyc_len whyc_flat (by decide) rfl (.tmp 91) (.tmp 96) 46 rfl u2.drew.heap.size 50 i0W zW 40 Try.underlying46 hiW hz0W hz1W hz2W rfl va 0 [] rfl OA.out s.2.1 s.2.2 s.1.2.2 s.1.2.2.length rfl HSA.out (RowsAt.below RK.out E5.out) rfl (by unfold maxLen; omega) (by omega) E5.out.size ?_
                          intro v2 p6 ho hg _
                          have E6 := Lib.hid (E5.out.grown hg E5.out.size (fun q hq => (OA.out.lt hq).1))
                          have O2 : Hid (OwnW p6 u2.drew.heap.size 50 3 v2 s.1.2.2.length (s.1.2.2.flatMap whyc)) := Lib.hid (by have h := ho; rw [Nat.zero_add, List.nil_append] at h; exact h)
                          have NB := Lib.hid (RowsAt.keep (F := fun k => va.ownBlock = some k) NB.out ((Keep.refl _ _).grown hg (fun q hq => .inl hq)) (fun k hk => APN.out k hk))
                          clear ho hg
                          refine hK9.out _ _ (HSX2.out _ E6.out) (fun hHeld => ?_)
                          clear hK9 K9
                          try simp only [Act.put, List.setIfInBounds_toArray, List.set_cons_zero, List.set_cons_succ]
                          refine LW.wpAnyL_ready (rs := [12]) (by kernel_rfl) (by simp) ?_
                          refine LW.AllReadyL.cons (o := ⟨_, _, _, _, _, _⟩) rfl (fun K9 hK9 => ?_) LW.AllReadyL.nil
                          refine step_append_ownN (f := whyc) whyc_len whyc_flat (by decide) rfl (.tmp 97) (.tmp 100) 46 rfl u2.drew.heap.size 50 i0W zW 40 Try.underlying46 hiW hz0W hz1W hz2W rfl v2 s.1.2.2.length s.1.2.2 rfl O2.out (some ⟨gb, 0, none⟩) 1 [((x1, x2, x3), xA, xc)] 1 rfl (fun h => by cases h) (NB.out.mono (fun _ h => h.elim)) rfl (by unfold maxLen; omega) (by omega) E6.out.size ?_
                          intro v9 w9 ho hg _
                          have EZ := Lib.hid (E6.out.grown hg E6.out.size (fun q hq => (O2.out.lt hq).1))
                          have OZ := Lib.hid ho
                          clear ho hg
                          refine hK9.out _ _ (HSX2.out _ EZ.out) (fun hHeld => ?_)
                          clear hK9 K9
                          try simp only [Act.put, List.setIfInBounds_toArray, List.set_cons_zero, List.set_cons_succ]
                          refine LW.wpAnyL_ready (rs := [13]) (by kernel_rfl) (by simp) ?_
                          refine LW.AllReadyL.cons (o := ⟨_, _, _, _, _, _⟩) rfl (fun K9 hK9 => ?_) LW.AllReadyL.nil
                          go_simp
                          refine hK9.out _ _ (HSX2.out _ EZ.out) (fun hHeld => ?_)
                          clear hK9 K9
                          try simp only [Act.put, List.setIfInBounds_toArray, List.set_cons_zero, List.set_cons_succ]
                          refine LW.wpAnyL_take (i := 14) (oi := ⟨_, _, _, _, _, _⟩) (v := ?_) rfl (by kernel_rfl) (by kernel_rfl) (by kernel_rfl) (by kernel_rfl) (fun _ _ _ h => h) (Or.inl ⟨by rfl, ?_⟩) (by assumption) ?_
                          rotate_left
                          · intro w' hSw; (try dsimp only at hSw); go_simp; (try with_reducible rfl)
                          try simp only [Act.put, List.setIfInBounds_toArray, List.set_cons_zero, List.set_cons_succ]
                          obtain ⟨A9, c9, ev9, -, -, -, -⟩ := OwnW.rows (l := s.1.2.2 ++ [((x1, x2, x3), xA, xc)]) (N := fun _ => False) whyc_len (by decide) OZ.out (fun _ _ h => h)
                          rw [List.length_append, List.length_singleton] at ev9
                          subst ev9
                          obtain ⟨q1, cs9, hg9, hk9⟩ := SM.out.sup_new t4 k4 f42 hj HES.out HNI.out HOKY.out (EU.out.drew.trans (EZ.out.mono EU.out.size)) OZ.out EU.out.size
                          refine LW.wpAnyL_ready (rs := [15]) (by kernel_rfl) (by simp) ?_
                          refine LW.AllReadyL.fin (o := ⟨_, _, _, _, _, _⟩) rfl (fun K9 hK9 => ?_)
                          refine LW.step_store1 rfl 46 (.tmp 103) (.tmp 101) rfl (rd.add (j * 3)).block ((rd.add (j * 3)).off + 2) (.slice A9 (s.1.2.2.length + 1) c9) _ _ rfl rfl hg9 hk9 (by kernel_rfl) rfl ?_
                          refine hK9.out _ _ ?_
                          clear hK9 K9
                          try simp only [Act.put]
                          refine LW.wpAnyL_done (by kernel_rfl) ?_ _
                          have SN := Lib.hid q1
                          clear q1 hg9 hk9 OZ EZ
                          rw [List.length_set] at SN
                          go_wp2_with fail
                          go_meet
                          exact ⟨_, _, _, _, _, rfl, SN⟩
                      · refine step_build1 (f := whyc) (m := 3) rfl 46 (.tmp 99) rfl 50 i0W zW Try.underlying46 hiW hz0W hz1W (by decide) (by decide) ((x1, x2, x3), xA, xc) _ rfl (fillW ((x1, x2, x3), xA, xc)) ?_
                        intro gb p8 nb hb hg1 hg2
                        have E8 := Lib.hid (E0.out.trans (hb.mono E0.out.size))
                        have NB := Lib.hid nb
                        have GB := Lib.hid hg2
                        clear nb hb hg1 hg2
                        refine hK9.out _ _ (HSX2.out _ E8.out) (fun hHeld => ?_)
                        clear hK9 K9
                        try simp only [Act.put, List.setIfInBounds_toArray, List.set_cons_zero, List.set_cons_succ]
                        refine LW.wpAnyL_ready (rs := [2]) (by kernel_rfl) (by simp) ?_
                        refine LW.AllReadyL.cons (o := ⟨_, _, _, _, _, _⟩) rfl (fun K9 hK9 => ?_) LW.AllReadyL.nil
                        refine step_build0 rfl 46 rfl 50 i0W 3 _ Try.underlying46 hiW (Nat.le_refl _) ?_
                        intro va p9 ho hb
                        have E9 := Lib.hid (E8.out.trans (hb.mono E8.out.size))
                        have OA := Lib.hid (ho.mono E8.out.size)
                        have APN : Hid (∀ k, va.ownBlock = some k → k ≠ gb) := Lib.hid (fun k hk e => by have h1 := (OwnW.lt ho hk).1; have h2 := GB.out; omega)
                        have NB := Lib.hid (RowsAt.below NB.out hb)
                        clear ho hb
                        refine hK9.out _ _ (HSX2.out _ E9.out) (fun hHeld => ?_)
                        clear hK9 K9
                        try simp only [Act.put, List.setIfInBounds_toArray, List.set_cons_zero, List.set_cons_succ]
                        refine LW.wpAnyL_ready (rs := [8]) (by kernel_rfl) (by simp) ?_
                        refine LW.AllReadyL.cons (o := ⟨_, _, _, _, _, _⟩) rfl (fun K9 hK9 => ?_) LW.AllReadyL.nil
                        refine step_append_ownN (f := whyc) whyc_len whyc_flat (by decide) rfl (.tmp 91) (.tmp 96) 46 rfl u2.drew.heap.size 50 i0W zW 40 Try.underlying46 hiW hz0W hz1W hz2W rfl va 0 [] rfl OA.out s.2.1 s.2.2 s.1.2.2 s.1.2.2.length rfl HSA.out (RowsAt.below RK.out E9.out) rfl (by unfold maxLen; omega) (by omega) E9.out.size ?_
                        intro v2 p10 ho hg _
                        have E10 := Lib.hid (E9.out.grown hg E9.out.size (fun q hq => (OA.out.lt hq).1))
                        have O2 : Hid (OwnW p10 u2.drew.heap.size 50 3 v2 s.1.2.2.length (s.1.2.2.flatMap whyc)) := Lib.hid (by have h := ho; rw [Nat.zero_add, List.nil_append] at h; exact h)
                        have NB := Lib.hid (RowsAt.keep (F := fun k => va.ownBlock = some k) NB.out ((Keep.refl _ _).grown hg (fun q hq => .inl hq)) (fun k hk => APN.out k hk))
                        clear ho hg
                        refine hK9.out _ _ (HSX2.out _ E10.out) (fun hHeld => ?_)
                        clear hK9 K9
                        try simp only [Act.put, List.setIfInBounds_toArray, List.set_cons_zero, List.set_cons_succ]
                        refine LW.wpAnyL_ready (rs := [12]) (by kernel_rfl) (by simp) ?_
                        refine LW.AllReadyL.cons (o := ⟨_, _, _, _, _, _⟩) rfl (fun K9 hK9 => ?_) LW.AllReadyL.nil
                        refine step_append_ownN (f := whyc) whyc_len whyc_flat (by decide) rfl (.tmp 97) (.tmp 100) 46 rfl u2.drew.heap.size 50 i0W zW 40 Try.underlying46 hiW hz0W hz1W hz2W rfl v2 s.1.2.2.length s.1.2.2 rfl O2.out (some ⟨gb, 0, none⟩) 1 [((x1, x2, x3), xA, xc)] 1 rfl (fun h => by cases h) (NB.out.mono (fun _ h => h.elim)) rfl (by unfold maxLen; omega) (by omega) E10.out.size ?_
                        intro v9 w9 ho hg _
                        have EZ := Lib.hid (E10.out.grown hg E10.out.size (fun q hq => (O2.out.lt hq).1))
                        have OZ := Lib.hid ho
                        clear ho hg
                        refine hK9.out _ _ (HSX2.out _ EZ.out) (fun hHeld => ?_)
                        clear hK9 K9
                        try simp only [Act.put, List.setIfInBounds_toArray, List.set_cons_zero, List.set_cons_succ]
                        refine LW.wpAnyL_ready (rs := [13]) (by kernel_rfl) (by simp) ?_
                        refine LW.AllReadyL.cons (o := ⟨_, _, _, _, _, _⟩) rfl (fun K9 hK9 => ?_) LW.AllReadyL.nil
                        go_simp
                        refine hK9.out _ _ (HSX2.out _ EZ.out) (fun hHeld => ?_)
                        clear hK9 K9
                        try simp only [Act.put, List.setIfInBounds_toArray, List.set_cons_zero, List.set_cons_succ]
                        refine LW.wpAnyL_take (i := 14) (oi := ⟨_, _, _, _, _, _⟩) (v := ?_) rfl (by kernel_rfl) (by kernel_rfl) (by kernel_rfl) (by kernel_rfl) (fun _ _ _ h => h) (Or.inl ⟨by rfl, ?_⟩) (by assumption) ?_
                        rotate_left
                        · intro w' hSw; (try dsimp only at hSw); go_simp; (try with_reducible rfl)
                        try simp only [Act.put, List.setIfInBounds_toArray, List.set_cons_zero, List.set_cons_succ]
                        obtain ⟨A9, c9, ev9, -, -, -, -⟩ := OwnW.rows (l := s.1.2.2 ++ [((x1, x2, x3), xA, xc)]) (N := fun _ => False) whyc_len (by decide) OZ.out (fun _ _ h => h)
                        rw [List.length_append, List.length_singleton] at ev9
                        subst ev9
                        obtain ⟨q1, cs9, hg9, hk9⟩ := SM.out.sup_new t4 k4 f42 hj HES.out HNI.out HOKY.out (EU.out.drew.trans (EZ.out.mono EU.out.size)) OZ.out EU.out.size
                        refine LW.wpAnyL_ready (rs := [15]) (by kernel_rfl) (by simp) ?_
                        refine LW.AllReadyL.fin (o := ⟨_, _, _, _, _, _⟩) rfl (fun K9 hK9 => ?_)
                        refine LW.step_store1 rfl 46 (.tmp 103) (.tmp 101) rfl (rd.add (j * 3)).block ((rd.add (j * 3)).off + 2) (.slice A9 (s.1.2.2.length + 1) c9) _ _ rfl rfl hg9 hk9 (by kernel_rfl) rfl ?_
                        refine hK9.out _ _ ?_
                        clear hK9 K9
                        try simp only [Act.put]
                        refine LW.wpAnyL_done (by kernel_rfl) ?_ _
                        have SN := Lib.hid q1
                        clear q1 hg9 hk9 OZ EZ
                        rw [List.length_set] at SN
                        go_wp2_with fail
                        go_meet
                        exact ⟨_, _, _, _, _, rfl, SN⟩
                case first =>
                  have RK := Lib.hid (RB.out.below ((Below.refl _ wB).drew))
                  have E0 := Lib.hid (Below.refl wB.drew.heap.size wB.drew)
                  have HS15 : Hid (∀ w', Below wB.drew.heap.size wB.drew w' → (fun w' : World => w'.cell? ⟨bA, 1, none⟩ = some (.int .i64 fa)) w') := Lib.hid (fun w' h => cell_kept (W := wB.drew) cF h)
                  clear cO cX cY cS
                  refine wp_region_held_drew (S := (fun w' : World => w'.cell? ⟨bA, 1, none⟩ = some (.int .i64 fa))) (by kernel_rfl) (HS15.out _ E0.out) (fun hHeld => ?_)
                  refine wpAnyH_take (i := 1) (oi := ⟨_, _, _, _, _, _⟩) (v := ?_) rfl (by kernel_rfl) (by kernel_rfl) (by kernel_rfl) (fun _ _ _ h => h) (Or.inl ⟨by rfl, ?_⟩) (by assumption) ?_
                  rotate_left
                  · intro w' hSw; (try dsimp only at hSw); go_simp; (try with_reducible rfl)
                  try simp only [Act.put, List.setIfInBounds_toArray, List.set_cons_zero, List.set_cons_succ]
                  refine wpAnyH_take (i := 3) (oi := ⟨_, _, _, _, _, _⟩) (v := ?_) rfl (by kernel_rfl) (by kernel_rfl) (by kernel_rfl) (fun _ _ _ h => h) (Or.inl ⟨by rfl, ?_⟩) (by assumption) ?_
                  rotate_left
                  · intro w' hSw; (try dsimp only at hSw); go_simp; (try with_reducible rfl)
                  try simp only [Act.put, List.setIfInBounds_toArray, List.set_cons_zero, List.set_cons_succ]
                  refine wpAnyH_take (i := 4) (oi := ⟨_, _, _, _, _, _⟩) (v := ?_) rfl (by kernel_rfl) (by kernel_rfl) (by kernel_rfl) (fun _ _ _ h => h) (Or.inl ⟨by rfl, ?_⟩) (by assumption) ?_
                  rotate_left
                  · intro w' hSw; (try dsimp only at hSw); go_simp; (try with_reducible rfl)
                  try simp only [Act.put, List.setIfInBounds_toArray, List.set_cons_zero, List.set_cons_succ]
                  refine wpAnyH_take (i := 5) (oi := ⟨_, _, _, _, _, _⟩) (v := ?_) rfl (by kernel_rfl) (by kernel_rfl) (by kernel_rfl) (fun _ _ _ h => h) (Or.inl ⟨by rfl, ?_⟩) (by assumption) ?_
                  rotate_left
                  · intro w' hSw; (try dsimp only at hSw); go_simp; (try with_reducible rfl)
                  try simp only [Act.put, List.setIfInBounds_toArray, List.set_cons_zero, List.set_cons_succ]
                  refine wpAnyH_ready (rs := [0, 6]) (by kernel_rfl) (by simp) ?_
                  refine (AllReadyH.cons (o := ⟨_, _, _, _, _, _⟩) rfl (fun K9 hK9 => ?_) (AllReadyH.cons (o := ⟨_, _, _, _, _, _⟩) rfl (fun K9 hK9 => ?_) AllReadyH.nil))
                  · refine step_build0 rfl 60 rfl 65 i0S 3 _ Try.underlying60 hiS (Nat.le_refl _) ?_
                    intro va p1 ho hb
                    have E1 := Lib.hid (E0.out.trans (hb.mono E0.out.size))
                    have OA := Lib.hid (ho.mono E0.out.size)
                    clear ho hb
                    refine hK9.out _ _ (HS15.out _ E1.out) (fun hHeld => ?_)
                    clear hK9 K9
                    try simp only [Act.put, List.setIfInBounds_toArray, List.set_cons_zero, List.set_cons_succ]
                    refine wpAnyH_ready (rs := [2, 6]) (by kernel_rfl) (by simp) ?_
                    refine (AllReadyH.cons (o := ⟨_, _, _, _, _, _⟩) rfl (fun K9 hK9 => ?_) (AllReadyH.cons (o := ⟨_, _, _, _, _, _⟩) rfl (fun K9 hK9 => ?_) AllReadyH.nil))
                    · refine step_append_ownN (f := standc) standc_len standc_flat (by decide) rfl (.tmp 49) (.tmp 50) 60 rfl wB.drew.heap.size 65 i0S zS 40 Try.underlying60 hiS hz0S hz1S hz2S rfl va 0 [] rfl OA.out RA rc R R.length rfl HRA.out (RowsAt.below RK.out E1.out) rfl (by unfold maxLen; omega) (by omega) E1.out.size ?_
                      intro v2 p2 ho hg _
                      have E2 := Lib.hid (E1.out.grown hg E1.out.size (fun q hq => (OA.out.lt hq).1))
                      have O2 : Hid (OwnW p2 wB.drew.heap.size 65 3 v2 R.length (R.flatMap standc)) := Lib.hid (by have h := ho; rw [Nat.zero_add, List.nil_append] at h; exact h)
                      clear ho hg
                      refine hK9.out _ _ (HS15.out _ E2.out) (fun hHeld => ?_)
                      clear hK9 K9
                      try simp only [Act.put, List.setIfInBounds_toArray, List.set_cons_zero, List.set_cons_succ]
                      refine wpAnyH_ready (rs := [6]) (by kernel_rfl) (by simp) ?_
                      refine AllReadyH.cons (o := ⟨_, _, _, _, _, _⟩) rfl (fun K9 hK9 => ?_) AllReadyH.nil
                      refine step_build1 (f := standc) (m := 3) rfl 60 (.tmp 54) rfl 65 i0S zS Try.underlying60 hiS hz0S hz1S (by decide) (by decide) ((fa, false, []), none, 0) _ rfl (fillS ((fa, false, []), none, 0)) ?_
                      intro gb p3 nb hb hg1 hg2
                      have E3 := Lib.hid (E2.out.trans (hb.mono E2.out.size))
                      have NB := Lib.hid nb
                      have GB := Lib.hid hg2
                      have O2 := Lib.hid (OwnW.below O2.out hb)
                      clear nb hb hg1 hg2
                      refine hK9.out _ _ (HS15.out _ E3.out) (fun hHeld => ?_)
                      clear hK9 K9
                      try simp only [Act.put, List.setIfInBounds_toArray, List.set_cons_zero, List.set_cons_succ]
                      refine wpAnyH_ready (rs := [7]) (by kernel_rfl) (by simp) ?_
                      refine AllReadyH.cons (o := ⟨_, _, _, _, _, _⟩) rfl (fun K9 hK9 => ?_) AllReadyH.nil
                      refine step_append_ownN (f := standc) standc_len standc_flat (by decide) rfl (.tmp 51) (.tmp 55) 60 rfl wB.drew.heap.size 65 i0S zS 40 Try.underlying60 hiS hz0S hz1S hz2S rfl v2 R.length R rfl O2.out (some ⟨gb, 0, none⟩) 1 [((fa, false, []), none, 0)] 1 rfl (fun h => by cases h) (NB.out.mono (fun _ h => h.elim)) rfl (by unfold maxLen; omega) (by omega) E3.out.size ?_
                      intro v9 w9 ho hg _
                      have EZ := Lib.hid (E3.out.grown hg E3.out.size (fun q hq => (O2.out.lt hq).1))
                      have OZ := Lib.hid ho
                      clear ho hg
                      refine hK9.out _ _ (HS15.out _ EZ.out) (fun hHeld => ?_)
                      clear hK9 K9
                      try simp only [Act.put, List.setIfInBounds_toArray, List.set_cons_zero, List.set_cons_succ]
                      refine wpAnyH_take (i := 8) (oi := ⟨_, _, _, _, _, _⟩) (v := ?_) rfl (by kernel_rfl) (by kernel_rfl) (by kernel_rfl) (fun _ _ _ h => h) (Or.inl ⟨by rfl, ?_⟩) (by assumption) ?_
                      rotate_left
                      · intro w' hSw; (try dsimp only at hSw); go_simp; (try with_reducible rfl)
                      try simp only [Act.put, List.setIfInBounds_toArray, List.set_cons_zero, List.set_cons_succ]
                      refine wpAnyH_done (by kernel_rfl) ?_ _
                      clear hHeld
                      obtain ⟨A9, c9, ev9, -, -, -, -⟩ := OwnW.rows (l := R ++ [((fa, false, []), none, 0)]) (N := fun _ => False) standc_len (by decide) OZ.out (fun _ _ h => h)
                      rw [List.length_append, List.length_singleton] at ev9
                      subst ev9
                      have SM := Lib.hid (SB.out.add (id := fa) HNO.out ((Below.refl _ wB).drew.trans EZ.out) OZ.out (Nat.le_refl _))
                      have EW := Lib.hid ((Below.refl _ wB).drew.trans EZ.out)
                      clear OZ EZ
                      go_wp2_with fail
                      go_meet
                      exact ⟨A9, c9, rfl, EW, SM⟩
                    · refine step_build1 (f := standc) (m := 3) rfl 60 (.tmp 54) rfl 65 i0S zS Try.underlying60 hiS hz0S hz1S (by decide) (by decide) ((fa, false, []), none, 0) _ rfl (fillS ((fa, false, []), none, 0)) ?_
                      intro gb p5 nb hb hg1 hg2
                      have E5 := Lib.hid (E1.out.trans (hb.mono E1.out.size))
                      have NB := Lib.hid nb
                      have GB := Lib.hid hg2
                      have APN : Hid (∀ k, va.ownBlock = some k → k ≠ gb) := Lib.hid (fun k hk e => by have h1 := (OA.out.lt hk).2; omega)
                      have OA := Lib.hid (OwnW.below OA.out hb)
                      clear nb hb hg1 hg2
                      refine hK9.out _ _ (HS15.out _ E5.out) (fun hHeld => ?_)
                      clear hK9 K9
                      try simp only [Act.put, List.setIfInBounds_toArray, List.set_cons_zero, List.set_cons_succ]
                      refine wpAnyH_ready (rs := [2]) (by kernel_rfl) (by simp) ?_
                      refine AllReadyH.cons (o := ⟨_, _, _, _, _, _⟩) rfl (fun K9 hK9 => ?_) AllReadyH.nil
                      refine step_append_ownN (f := standc) standc_len standc_flat (by decide) rfl (.tmp 49) (.tmp 50) 60 rfl wB.drew.heap.size 65 i0S zS 40 Try.underlying60 hiS hz0S hz1S hz2S rfl va 0 [] rfl OA.out RA rc R R.length rfl HRA.out (RowsAt.below RK.out E5.out) rfl (by unfold maxLen; omega) (by omega) E5.out.size ?_
                      intro v2 p6 ho hg _
                      have E6 := Lib.hid (E5.out.grown hg E5.out.size (fun q hq => (OA.out.lt hq).1))
                      have O2 : Hid (OwnW p6 wB.drew.heap.size 65 3 v2 R.length (R.flatMap standc)) := Lib.hid (by have h := ho; rw [Nat.zero_add, List.nil_append] at h; exact h)
                      have NB := Lib.hid (RowsAt.keep (F := fun k => va.ownBlock = some k) NB.out ((Keep.refl _ _).grown hg (fun q hq => .inl hq)) (fun k hk => APN.out k hk))
                      clear ho hg
                      refine hK9.out _ _ (HS15.out _ E6.out) (fun hHeld => ?_)
                      clear hK9 K9
                      try simp only [Act.put, List.setIfInBounds_toArray, List.set_cons_zero, List.set_cons_succ]
                      refine wpAnyH_ready (rs := [7]) (by kernel_rfl) (by simp) ?_
                      refine AllReadyH.cons (o := ⟨_, _, _, _, _, _⟩) rfl (fun K9 hK9 => ?_) AllReadyH.nil
                      refine step_append_ownN (f := standc) standc_len standc_flat (by decide) rfl (.tmp 51) (.tmp 55) 60 rfl wB.drew.heap.size 65 i0S zS 40 Try.underlying60 hiS hz0S hz1S hz2S rfl v2 R.length R rfl O2.out (some ⟨gb, 0, none⟩) 1 [((fa, false, []), none, 0)] 1 rfl (fun h => by cases h) (NB.out.mono (fun _ h => h.elim)) rfl (by unfold maxLen; omega) (by omega) E6.out.size ?_
                      intro v9 w9 ho hg _
                      have EZ := Lib.hid (E6.out.grown hg E6.out.size (fun q hq => (O2.out.lt hq).1))
                      have OZ := Lib.hid ho
                      clear ho hg
                      refine hK9.out _ _ (HS15.out _ EZ.out) (fun hHeld => ?_)
                      clear hK9 K9
                      try simp only [Act.put, List.setIfInBounds_toArray, List.set_cons_zero, List.set_cons_succ]
                      refine wpAnyH_take (i := 8) (oi := ⟨_, _, _, _, _, _⟩) (v := ?_) rfl (by kernel_rfl) (by kernel_rfl) (by kernel_rfl) (fun _ _ _ h => h) (Or.inl ⟨by rfl, ?_⟩) (by assumption) ?_
                      rotate_left
                      · intro w' hSw; (try dsimp only at hSw); go_simp; (try with_reducible rfl)
                      try simp only [Act.put, List.setIfInBounds_toArray, List.set_cons_zero, List.set_cons_succ]
                      refine wpAnyH_done (by kernel_rfl) ?_ _
                      clear hHeld
                      obtain ⟨A9, c9, ev9, -, -, -, -⟩ := OwnW.rows (l := R ++ [((fa, false, []), none, 0)]) (N := fun _ => False) standc_len (by decide) OZ.out (fun _ _ h => h)
                      rw [List.length_append, List.length_singleton] at ev9
                      subst ev9
                      have SM := Lib.hid (SB.out.add (id := fa) HNO.out ((Below.refl _ wB).drew.trans EZ.out) OZ.out (Nat.le_refl _))
                      have EW := Lib.hid ((Below.refl _ wB).drew.trans EZ.out)
                      clear OZ EZ
                      go_wp2_with fail
                      go_meet
                      exact ⟨A9, c9, rfl, EW, SM⟩
                  · refine step_build1 (f := standc) (m := 3) rfl 60 (.tmp 54) rfl 65 i0S zS Try.underlying60 hiS hz0S hz1S (by decide) (by decide) ((fa, false, []), none, 0) _ rfl (fillS ((fa, false, []), none, 0)) ?_
                    intro gb p8 nb hb hg1 hg2
                    have E8 := Lib.hid (E0.out.trans (hb.mono E0.out.size))
                    have NB := Lib.hid nb
                    have GB := Lib.hid hg2
                    clear nb hb hg1 hg2
                    refine hK9.out _ _ (HS15.out _ E8.out) (fun hHeld => ?_)
                    clear hK9 K9
                    try simp only [Act.put, List.setIfInBounds_toArray, List.set_cons_zero, List.set_cons_succ]
                    refine wpAnyH_ready (rs := [0]) (by kernel_rfl) (by simp) ?_
                    refine AllReadyH.cons (o := ⟨_, _, _, _, _, _⟩) rfl (fun K9 hK9 => ?_) AllReadyH.nil
                    refine step_build0 rfl 60 rfl 65 i0S 3 _ Try.underlying60 hiS (Nat.le_refl _) ?_
                    intro va p9 ho hb
                    have E9 := Lib.hid (E8.out.trans (hb.mono E8.out.size))
                    have OA := Lib.hid (ho.mono E8.out.size)
                    have APN : Hid (∀ k, va.ownBlock = some k → k ≠ gb) := Lib.hid (fun k hk e => by have h1 := (OwnW.lt ho hk).1; have h2 := GB.out; omega)
                    have NB := Lib.hid (RowsAt.below NB.out hb)
                    clear ho hb
                    refine hK9.out _ _ (HS15.out _ E9.out) (fun hHeld => ?_)
                    clear hK9 K9
                    try simp only [Act.put, List.setIfInBounds_toArray, List.set_cons_zero, List.set_cons_succ]
                    refine wpAnyH_ready (rs := [2]) (by kernel_rfl) (by simp) ?_
                    refine AllReadyH.cons (o := ⟨_, _, _, _, _, _⟩) rfl (fun K9 hK9 => ?_) AllReadyH.nil
                    refine step_append_ownN (f := standc) standc_len standc_flat (by decide) rfl (.tmp 49) (.tmp 50) 60 rfl wB.drew.heap.size 65 i0S zS 40 Try.underlying60 hiS hz0S hz1S hz2S rfl va 0 [] rfl OA.out RA rc R R.length rfl HRA.out (RowsAt.below RK.out E9.out) rfl (by unfold maxLen; omega) (by omega) E9.out.size ?_
                    intro v2 p10 ho hg _
                    have E10 := Lib.hid (E9.out.grown hg E9.out.size (fun q hq => (OA.out.lt hq).1))
                    have O2 : Hid (OwnW p10 wB.drew.heap.size 65 3 v2 R.length (R.flatMap standc)) := Lib.hid (by have h := ho; rw [Nat.zero_add, List.nil_append] at h; exact h)
                    have NB := Lib.hid (RowsAt.keep (F := fun k => va.ownBlock = some k) NB.out ((Keep.refl _ _).grown hg (fun q hq => .inl hq)) (fun k hk => APN.out k hk))
                    clear ho hg
                    refine hK9.out _ _ (HS15.out _ E10.out) (fun hHeld => ?_)
                    clear hK9 K9
                    try simp only [Act.put, List.setIfInBounds_toArray, List.set_cons_zero, List.set_cons_succ]
                    refine wpAnyH_ready (rs := [7]) (by kernel_rfl) (by simp) ?_
                    refine AllReadyH.cons (o := ⟨_, _, _, _, _, _⟩) rfl (fun K9 hK9 => ?_) AllReadyH.nil
                    refine step_append_ownN (f := standc) standc_len standc_flat (by decide) rfl (.tmp 51) (.tmp 55) 60 rfl wB.drew.heap.size 65 i0S zS 40 Try.underlying60 hiS hz0S hz1S hz2S rfl v2 R.length R rfl O2.out (some ⟨gb, 0, none⟩) 1 [((fa, false, []), none, 0)] 1 rfl (fun h => by cases h) (NB.out.mono (fun _ h => h.elim)) rfl (by unfold maxLen; omega) (by omega) E10.out.size ?_
                    intro v9 w9 ho hg _
                    have EZ := Lib.hid (E10.out.grown hg E10.out.size (fun q hq => (O2.out.lt hq).1))
                    have OZ := Lib.hid ho
                    clear ho hg
                    refine hK9.out _ _ (HS15.out _ EZ.out) (fun hHeld => ?_)
                    clear hK9 K9
                    try simp only [Act.put, List.setIfInBounds_toArray, List.set_cons_zero, List.set_cons_succ]
                    refine wpAnyH_take (i := 8) (oi := ⟨_, _, _, _, _, _⟩) (v := ?_) rfl (by kernel_rfl) (by kernel_rfl) (by kernel_rfl) (fun _ _ _ h => h) (Or.inl ⟨by rfl, ?_⟩) (by assumption) ?_
                    rotate_left
                    · intro w' hSw; (try dsimp only at hSw); go_simp; (try with_reducible rfl)
                    try simp only [Act.put, List.setIfInBounds_toArray, List.set_cons_zero, List.set_cons_succ]
                    refine wpAnyH_done (by kernel_rfl) ?_ _
                    clear hHeld
                    obtain ⟨A9, c9, ev9, -, -, -, -⟩ := OwnW.rows (l := R ++ [((fa, false, []), none, 0)]) (N := fun _ => False) standc_len (by decide) OZ.out (fun _ _ h => h)
                    rw [List.length_append, List.length_singleton] at ev9
                    subst ev9
                    have SM := Lib.hid (SB.out.add (id := fa) HNO.out ((Below.refl _ wB).drew.trans EZ.out) OZ.out (Nat.le_refl _))
                    have EW := Lib.hid ((Below.refl _ wB).drew.trans EZ.out)
                    clear OZ EZ
                    go_wp2_with fail
                    go_meet
                    exact ⟨A9, c9, rfl, EW, SM⟩
              · obtain ⟨rd, rfl, -, d0, d1, d2⟩ := sts_at RB.out hj
                have hjI : (j : Int) < (R.length : Int) := by omega
                have hj0 : ¬ (j : Int) < 0 := by omega
                have SM := Lib.hid (SB.out.has hj ej)
                clear ej
                go_upto_block 2 with (fail)
                go_cut [4] (fun v wx => ∃ (F' : Nat → Prop) (P' : Pl) (C' : List Wy) (vo' : Value) (R2 : List Sf), vo' = v ∧ Hid (Sq w1 g l (i + 1) F' P' C' vo' R2 wx))
                case rest =>
                  obtain ⟨F', P', C', vo', R2, rfl, SN⟩ := hcut
                  obtain ⟨A', c', ev, -, -, -⟩ := SN.out.row.row
                  subst ev
                  clear cO cF cX cY cS
                  have HTE := Lib.hid (SN.out.tell (by omega) (fun x hx => (HA.out _ SN.out.tab.below x hx).1))
                  go_wp2_with fail
                  refine HTE.out.mono ?_
                  rintro e w9 ⟨rfl, b9⟩
                  have SN9 := Lib.hid (SN.out.below b9)
                  clear b9 HTE SN
                  go_wp2_with fail
                  go_roundw
                  case rel => exact ⟨i + 1, _, _, _, _, _, by omega, by go_num, rfl, SN9⟩
                  case measure => first | (simp [RowKit.intOf]; done) | (simp [RowKit.intOf]; omega)
                case first =>
                  have HSU := Lib.hid (support_t SM.out.tab fa ((x1, x2, x3), xA, xc) (HA.out _ SM.out.tab.below _ HOKY.out).1 ((HA.out _ SM.out.tab.below _ HOKY.out).2.mono (fun q hq => (SM.out.tab.lt q hq).1)) hwf (by have := SM.out.few80.1; omega) (fun p hp => by have := SM.out.few80.2 p hp; omega) (by have := SM.out.few; omega))
                  obtain ⟨s, es⟩ : ∃ s, R[j] = s := ⟨_, rfl⟩
                  have HES := Lib.hid es
                  clear es
                  have HCX := Lib.hid cX
                  have HCY := Lib.hid cY
                  have HCS := Lib.hid cS
                  clear d0 d1 d2
                  go_wp2_with fail
                  refine HSU.out.mono ?_
                  rintro e w4 ⟨rfl, F4, t4, f41, f42, k4⟩
                  have hrw := SM.out.row.table k4 f42
                  have hr4 : RowsAt standc 3 (fun _ => False) w4 (some rd) R := by
                    obtain ⟨A', c', ev, hr, _, _⟩ := hrw.row
                    injection ev with ev1 _ ev2
                    rw [ev1]; exact hr
                  obtain ⟨rd', erd, -, -, -, d2⟩ := sts_at hr4 hj
                  injection erd with erd
                  subst erd
                  rw [HES.out] at d2
                  have HSX : Hid (∀ w', Below w4.heap.size w4 w' → (fun w' : World => w'.cell? ⟨bA, 2, none⟩ = some (.int .i64 x1) ∧ w'.cell? ⟨bA, 3, none⟩ = some (.int .i64 x2) ∧ w'.cell? ⟨bA, 4, none⟩ = some (.slice xA x3.length xc) ∧ w'.cell? ⟨(rd.add (j * 3)).block, (rd.add (j * 3)).off + 2, none⟩ = some (.slice s.2.1 s.1.2.2.length s.2.2)) w') := Lib.hid (fun w' hb => ⟨cell_kept (k4.cell HCX.out NFB.out) hb, cell_kept (k4.cell HCY.out NFB.out) hb, cell_kept (k4.cell HCS.out NFB.out) hb, cell_kept d2 hb⟩)
                  have HLS : Hid (RowsAt whyc 3 (fun _ => False) w4 s.2.1 s.1.2.2) := Lib.hid (by rw [← HES.out]; exact (hrw.each _ (List.getElem_mem hj)).mono (fun _ h => h.elim))
                  have HSA : Hid (s.2.1 = none → s.2.2 = 0) := Lib.hid (by rw [← HES.out]; exact (hrw.nil _ (List.getElem_mem hj)).1)
                  have hsl : s.1.2.2.length ≤ 80 := by rw [← HES.out]; have := SM.out.lens _ (List.getElem_mem hj); omega
                  have HFI := Lib.hid (find_c s.2.1 s.2.2 s.1.2.2 ((x1, x2, x3), xA, xc) w4.drew (HLS.out.below (Below.refl _ w4).drew) (fun z hz => (HA.out _ t4.below.drew z (hrw.of s (by rw [← HES.out]; exact List.getElem_mem hj) z hz)).1) (HA.out _ t4.below.drew _ HOKY.out).1 (by omega))
                  have ED := Lib.hid ((Below.refl w4.heap.size w4).drew)
                  obtain ⟨r, hr⟩ : ∃ r, decide (((x1, x2, x3) : Wy) ∉ s.1.2.2.map (·.1)) = r := ⟨_, rfl⟩
                  have HR := Lib.hid hr
                  clear hr hr4 hrw d2 cO cF cX cY cS HSU
                  go_wp2_with fail
                  refine wp_region_held_drew (S := (fun w' : World => w'.cell? ⟨bA, 2, none⟩ = some (.int .i64 x1) ∧ w'.cell? ⟨bA, 3, none⟩ = some (.int .i64 x2) ∧ w'.cell? ⟨bA, 4, none⟩ = some (.slice xA x3.length xc) ∧ w'.cell? ⟨(rd.add (j * 3)).block, (rd.add (j * 3)).off + 2, none⟩ = some (.slice s.2.1 s.1.2.2.length s.2.2))) (by kernel_rfl) (HSX.out _ ED.out) (fun hHeld => ?_)
                  refine wpAnyH_take (i := 0) (oi := ⟨_, _, _, _, _, _⟩) (v := ?_) rfl (by kernel_rfl) (by kernel_rfl) (by kernel_rfl) (fun _ _ _ h => h) (Or.inl ⟨by rfl, ?_⟩) (by assumption) ?_
                  rotate_left
                  · intro w' hSw; (try dsimp only at hSw); go_simp; (try with_reducible rfl)
                  try simp only [Act.put, List.setIfInBounds_toArray, List.set_cons_zero, List.set_cons_succ]
                  refine wpAnyH_take (i := 1) (oi := ⟨_, _, _, _, _, _⟩) (v := ?_) rfl (by kernel_rfl) (by kernel_rfl) (by kernel_rfl) (fun _ _ _ h => h) (Or.inl ⟨by rfl, ?_⟩) (by assumption) ?_
                  rotate_left
                  · intro w' hSw; (try dsimp only at hSw); go_simp; (try with_reducible rfl)
                  try simp only [Act.put, List.setIfInBounds_toArray, List.set_cons_zero, List.set_cons_succ]
                  refine wpAnyH_take (i := 2) (oi := ⟨_, _, _, _, _, _⟩) (v := ?_) rfl (by kernel_rfl) (by kernel_rfl) (by kernel_rfl) (fun _ _ _ h => h) (Or.inl ⟨by rfl, ?_⟩) (by assumption) ?_
                  rotate_left
                  · intro w' hSw; (try dsimp only at hSw); go_simp; (try with_reducible rfl)
                  try simp only [Act.put, List.setIfInBounds_toArray, List.set_cons_zero, List.set_cons_succ]
                  refine wpAnyH_take (i := 3) (oi := ⟨_, _, _, _, _, _⟩) (v := ?_) rfl (by kernel_rfl) (by kernel_rfl) (by kernel_rfl) (fun _ _ _ h => h) (Or.inl ⟨by rfl, ?_⟩) (by assumption) ?_
                  rotate_left
                  · intro w' hSw; (try dsimp only at hSw); go_simp; (try with_reducible rfl)
                  try simp only [Act.put, List.setIfInBounds_toArray, List.set_cons_zero, List.set_cons_succ]
                  refine wpAnyH_take (i := 4) (oi := ⟨_, _, _, _, _, _⟩) (v := ?_) rfl (by kernel_rfl) (by kernel_rfl) (by kernel_rfl) (fun _ _ _ h => h) (Or.inl ⟨by rfl, ?_⟩) (by assumption) ?_
                  rotate_left
                  · intro w' hSw; (try dsimp only at hSw); go_simp; (try with_reducible rfl)
                  try simp only [Act.put, List.setIfInBounds_toArray, List.set_cons_zero, List.set_cons_succ]
                  refine wpAnyH_take (i := 5) (oi := ⟨_, _, _, _, _, _⟩) (v := ?_) rfl (by kernel_rfl) (by kernel_rfl) (by kernel_rfl) (fun _ _ _ h => h) (Or.inl ⟨by rfl, ?_⟩) (by assumption) ?_
                  rotate_left
                  · intro w' hSw; (try dsimp only at hSw); go_simp; (try with_reducible rfl)
                  try simp only [Act.put, List.setIfInBounds_toArray, List.set_cons_zero, List.set_cons_succ]
                  refine wpAnyH_take (i := 6) (oi := ⟨_, _, _, _, _, _⟩) (v := ?_) rfl (by kernel_rfl) (by kernel_rfl) (by kernel_rfl) (fun _ _ _ h => h) (Or.inl ⟨by rfl, ?_⟩) (by assumption) ?_
                  rotate_left
                  · intro w' hSw; (try dsimp only at hSw); go_simp; (try with_reducible rfl)
                  try simp only [Act.put, List.setIfInBounds_toArray, List.set_cons_zero, List.set_cons_succ]
                  refine wpAnyH_ready (rs := [7]) (by kernel_rfl) (by simp) ?_
                  refine AllReadyH.cons (o := ⟨_, _, _, _, _, _⟩) rfl (fun K9 hK9 => ?_) AllReadyH.nil
                  go_simp
                  (with_reducible refine (HFI.out).mono ?_)
                  rintro e u2 ⟨i1, rfl, hp1, bb2⟩
                  have EU := Lib.hid (ED.out.trans (bb2.mono ED.out.size))
                  have hi1 : decide (i1 < 0) = r := (pos_dec hp1).trans HR.out
                  clear bb2 hp1
                  go_wp2_with fail
                  refine hK9.out _ _ (HSX.out _ EU.out) (fun hHeld => ?_)
                  clear hK9 K9
                  try simp only [Act.put, List.setIfInBounds_toArray, List.set_cons_zero, List.set_cons_succ]
                  refine wpAnyH_take (i := 8) (oi := ⟨_, _, _, _, _, _⟩) (v := ?_) rfl (by kernel_rfl) (by kernel_rfl) (by kernel_rfl) (fun _ _ _ h => h) (Or.inl ⟨by rfl, ?_⟩) (by assumption) ?_
                  rotate_left
                  · intro w' hSw; (try dsimp only at hSw); go_simp; (try with_reducible rfl)
                  try simp only [Act.put, List.setIfInBounds_toArray, List.set_cons_zero, List.set_cons_succ]
                  refine wpAnyH_done (by kernel_rfl) ?_ _
                  clear hHeld
                  cases r with
                  | false =>
                    have SN := Lib.hid ((SM.out.sup_old t4 k4 f42 hj HES.out (x := ((x1, x2, x3), xA, xc)) (Classical.not_not.1 (of_decide_eq_false HR.out))).below EU.out)
                    clear HSX HFI HLS HCX HCY HCS t4 f41 f42 k4 SM HR EU ED hi1
                    go_wp2_with fail
                    go_meet
                    exact ⟨_, _, _, _, _, rfl, SN⟩
                  | true =>
                    have HNI : Hid (((x1, x2, x3), xA, xc).1 ∉ s.1.2.2.map (·.1)) := Lib.hid (of_decide_eq_true HR.out)
                    have E0 := Lib.hid (Below.refl u2.drew.heap.size u2.drew)
                    have HSX2 : Hid (∀ w', Below u2.drew.heap.size u2.drew w' → (fun w' : World => w'.cell? ⟨bA, 2, none⟩ = some (.int .i64 x1) ∧ w'.cell? ⟨bA, 3, none⟩ = some (.int .i64 x2) ∧ w'.cell? ⟨bA, 4, none⟩ = some (.slice xA x3.length xc) ∧ w'.cell? ⟨(rd.add (j * 3)).block, (rd.add (j * 3)).off + 2, none⟩ = some (.slice s.2.1 s.1.2.2.length s.2.2)) w') := Lib.hid (fun w' hb => HSX.out w' (EU.out.drew.trans (hb.mono EU.out.size)))
                    have RK : Hid (RowsAt whyc 3 (fun _ => False) u2.drew s.2.1 s.1.2.2) := Lib.hid (HLS.out.below (EU.out.drew))
                    clear HR hi1
                    go_wp2_with fail
                    refine LW.wp_region_last (S := (fun w' : World => w'.cell? ⟨bA, 2, none⟩ = some (.int .i64 x1) ∧ w'.cell? ⟨bA, 3, none⟩ = some (.int .i64 x2) ∧ w'.cell? ⟨bA, 4, none⟩ = some (.slice xA x3.length xc) ∧ w'.cell? ⟨(rd.add (j * 3)).block, (rd.add (j * 3)).off + 2, none⟩ = some (.slice s.2.1 s.1.2.2.length s.2.2))) 15 (by kernel_rfl) (HSX2.out _ E0.out) (fun hHeld => ?_)
                    refine LW.wpAnyL_take (i := 0) (oi := ⟨_, _, _, _, _, _⟩) (v := ?_) rfl (by kernel_rfl) (by kernel_rfl) (by kernel_rfl) (by kernel_rfl) (fun _ _ _ h => h) (Or.inl ⟨by rfl, ?_⟩) (by assumption) ?_
                    rotate_left
                    · intro w' hSw; (try dsimp only at hSw); go_simp; (try with_reducible rfl)
                    try simp only [Act.put, List.setIfInBounds_toArray, List.set_cons_zero, List.set_cons_succ]
                    refine LW.wpAnyL_take (i := 1) (oi := ⟨_, _, _, _, _, _⟩) (v := ?_) rfl (by kernel_rfl) (by kernel_rfl) (by kernel_rfl) (by kernel_rfl) (fun _ _ _ h => h) (Or.inl ⟨by rfl, ?_⟩) (by assumption) ?_
                    rotate_left
                    · intro w' hSw; (try dsimp only at hSw); go_simp; (try with_reducible rfl)
                    try simp only [Act.put, List.setIfInBounds_toArray, List.set_cons_zero, List.set_cons_succ]
                    refine LW.wpAnyL_take (i := 3) (oi := ⟨_, _, _, _, _, _⟩) (v := ?_) rfl (by kernel_rfl) (by kernel_rfl) (by kernel_rfl) (by kernel_rfl) (fun _ _ _ h => h) (Or.inl ⟨by rfl, ?_⟩) (by assumption) ?_
                    rotate_left
                    · intro w' hSw; (try dsimp only at hSw); go_simp; (try with_reducible rfl)
                    try simp only [Act.put, List.setIfInBounds_toArray, List.set_cons_zero, List.set_cons_succ]
                    refine LW.wpAnyL_take (i := 4) (oi := ⟨_, _, _, _, _, _⟩) (v := ?_) rfl (by kernel_rfl) (by kernel_rfl) (by kernel_rfl) (by kernel_rfl) (fun _ _ _ h => h) (Or.inl ⟨by rfl, ?_⟩) (by assumption) ?_
                    rotate_left
                    · intro w' hSw; (try dsimp only at hSw); go_simp; (try with_reducible rfl)
                    try simp only [Act.put, List.setIfInBounds_toArray, List.set_cons_zero, List.set_cons_succ]
                    refine LW.wpAnyL_take (i := 5) (oi := ⟨_, _, _, _, _, _⟩) (v := ?_) rfl (by kernel_rfl) (by kernel_rfl) (by kernel_rfl) (by kernel_rfl) (fun _ _ _ h => h) (Or.inl ⟨by rfl, ?_⟩) (by assumption) ?_
                    rotate_left
                    · intro w' hSw; (try dsimp only at hSw); go_simp; (try with_reducible rfl)
                    try simp only [Act.put, List.setIfInBounds_toArray, List.set_cons_zero, List.set_cons_succ]
                    refine LW.wpAnyL_take (i := 6) (oi := ⟨_, _, _, _, _, _⟩) (v := ?_) rfl (by kernel_rfl) (by kernel_rfl) (by kernel_rfl) (by kernel_rfl) (fun _ _ _ h => h) (Or.inl ⟨by rfl, ?_⟩) (by assumption) ?_
                    rotate_left
                    · intro w' hSw; (try dsimp only at hSw); go_simp; (try with_reducible rfl)
                    try simp only [Act.put, List.setIfInBounds_toArray, List.set_cons_zero, List.set_cons_succ]
                    refine LW.wpAnyL_take (i := 7) (oi := ⟨_, _, _, _, _, _⟩) (v := ?_) rfl (by kernel_rfl) (by kernel_rfl) (by kernel_rfl) (by kernel_rfl) (fun _ _ _ h => h) (Or.inl ⟨by rfl, ?_⟩) (by assumption) ?_
                    rotate_left
                    · intro w' hSw; (try dsimp only at hSw); go_simp; (try with_reducible rfl)
                    try simp only [Act.put, List.setIfInBounds_toArray, List.set_cons_zero, List.set_cons_succ]
                    refine LW.wpAnyL_take (i := 9) (oi := ⟨_, _, _, _, _, _⟩) (v := ?_) rfl (by kernel_rfl) (by kernel_rfl) (by kernel_rfl) (by kernel_rfl) (fun _ _ _ h => h) (Or.inl ⟨by rfl, ?_⟩) (by assumption) ?_
                    rotate_left
                    · intro w' hSw; (try dsimp only at hSw); go_simp; (try with_reducible rfl)
                    try simp only [Act.put, List.setIfInBounds_toArray, List.set_cons_zero, List.set_cons_succ]
                    refine LW.wpAnyL_take (i := 10) (oi := ⟨_, _, _, _, _, _⟩) (v := ?_) rfl (by kernel_rfl) (by kernel_rfl) (by kernel_rfl) (by kernel_rfl) (fun _ _ _ h => h) (Or.inl ⟨by rfl, ?_⟩) (by assumption) ?_
                    rotate_left
                    · intro w' hSw; (try dsimp only at hSw); go_simp; (try with_reducible rfl)
                    try simp only [Act.put, List.setIfInBounds_toArray, List.set_cons_zero, List.set_cons_succ]
                    refine LW.wpAnyL_ready (rs := [2, 11]) (by kernel_rfl) (by simp) ?_
                    refine (LW.AllReadyL.cons (o := ⟨_, _, _, _, _, _⟩) rfl (fun K9 hK9 => ?_) (LW.AllReadyL.cons (o := ⟨_, _, _, _, _, _⟩) rfl (fun K9 hK9 => ?_) LW.AllReadyL.nil))
                    · refine step_build0 rfl 46 rfl 50 i0W 3 _ Try.underlying46 hiW (Nat.le_refl _) ?_
                      intro va p1 ho hb
                      have E1 := Lib.hid (E0.out.trans (hb.mono E0.out.size))
                      have OA := Lib.hid (ho.mono E0.out.size)
                      clear ho hb
                      refine hK9.out _ _ (HSX2.out _ E1.out) (fun hHeld => ?_)
                      clear hK9 K9
                      try simp only [Act.put, List.setIfInBounds_toArray, List.set_cons_zero, List.set_cons_succ]
                      refine LW.wpAnyL_ready (rs := [8, 11]) (by kernel_rfl) (by simp) ?_
                      refine (LW.AllReadyL.cons (o := ⟨_, _, _, _, _, _⟩) rfl (fun K9 hK9 => ?_) (LW.AllReadyL.cons (o := ⟨_, _, _, _, _, _⟩) rfl (fun K9 hK9 => ?_) LW.AllReadyL.nil))
                      · refine step_append_ownN (f := whyc) whyc_len whyc_flat (by decide) rfl (.tmp 91) (.tmp 96) 46 rfl u2.drew.heap.size 50 i0W zW 40 Try.underlying46 hiW hz0W hz1W hz2W rfl va 0 [] rfl OA.out s.2.1 s.2.2 s.1.2.2 s.1.2.2.length rfl HSA.out (RowsAt.below RK.out E1.out) rfl (by unfold maxLen; omega) (by omega) E1.out.size ?_
                        intro v2 p2 ho hg _
                        have E2 := Lib.hid (E1.out.grown hg E1.out.size (fun q hq => (OA.out.lt hq).1))
                        have O2 : Hid (OwnW p2 u2.drew.heap.size 50 3 v2 s.1.2.2.length (s.1.2.2.flatMap whyc)) := Lib.hid (by have h := ho; rw [Nat.zero_add, List.nil_append] at h; exact h)
                        clear ho hg
                        refine hK9.out _ _ (HSX2.out _ E2.out) (fun hHeld => ?_)
                        clear hK9 K9
                        try simp only [Act.put, List.setIfInBounds_toArray, List.set_cons_zero, List.set_cons_succ]
                        refine LW.wpAnyL_ready (rs := [11]) (by kernel_rfl) (by simp) ?_
                        refine LW.AllReadyL.cons (o := ⟨_, _, _, _, _, _⟩) rfl (fun K9 hK9 => ?_) LW.AllReadyL.nil
                        refine step_build1 (f := whyc) (m := 3) rfl 46 (.tmp 99) rfl 50 i0W zW Try.underlying46 hiW hz0W hz1W (by decide) (by decide) ((x1, x2, x3), xA, xc) _ rfl (fillW ((x1, x2, x3), xA, xc)) ?_
                        intro gb p3 nb hb hg1 hg2
                        have E3 := Lib.hid (E2.out.trans (hb.mono E2.out.size))
                        have NB := Lib.hid nb
                        have GB := Lib.hid hg2
                        have O2 := Lib.hid (OwnW.below O2.out hb)
                        clear nb hb hg1 hg2
                        refine hK9.out _ _ (HSX2.out _ E3.out) (fun hHeld => ?_)
                        clear hK9 K9
                        try simp only [Act.put, List.setIfInBounds_toArray, List.set_cons_zero, List.set_cons_succ]
                        refine LW.wpAnyL_ready (rs := [12]) (by kernel_rfl) (by simp) ?_
                        refine LW.AllReadyL.cons (o := ⟨_, _, _, _, _, _⟩) rfl (fun K9 hK9 => ?_) LW.AllReadyL.nil
                        refine step_append_ownN (f := whyc) whyc_len whyc_flat (by decide) rfl (.tmp 97) (.tmp 100) 46 rfl u2.drew.heap.size 50 i0W zW 40 Try.underlying46 hiW hz0W hz1W hz2W rfl v2 s.1.2.2.length s.1.2.2 rfl O2.out (some ⟨gb, 0, none⟩) 1 [((x1, x2, x3), xA, xc)] 1 rfl (fun h => by cases h) (NB.out.mono (fun _ h => h.elim)) rfl (by unfold maxLen; omega) (by omega) E3.out.size ?_
                        intro v9 w9 ho hg _
                        have EZ := Lib.hid (E3.out.grown hg E3.out.size (fun q hq => (O2.out.lt hq).1))
                        have OZ := Lib.hid ho
                        clear ho hg
                        refine hK9.out _ _ (HSX2.out _ EZ.out) (fun hHeld => ?_)
                        clear hK9 K9
                        try simp only [Act.put, List.setIfInBounds_toArray, List.set_cons_zero, List.set_cons_succ]
                        refine LW.wpAnyL_ready (rs := [13]) (by kernel_rfl) (by simp) ?_
                        refine LW.AllReadyL.cons (o := ⟨_, _, _, _, _, _⟩) rfl (fun K9 hK9 => ?_) LW.AllReadyL.nil
                        go_simp
                        refine hK9.out _ _ (HSX2.out _ EZ.out) (fun hHeld => ?_)
                        clear hK9 K9
                        try simp only [Act.put, List.setIfInBounds_toArray, List.set_cons_zero, List.set_cons_succ]
                        refine LW.wpAnyL_take (i := 14) (oi := ⟨_, _, _, _, _, _⟩) (v := ?_) rfl (by kernel_rfl) (by kernel_rfl) (by kernel_rfl) (by kernel_rfl) (fun _ _ _ h => h) (Or.inl ⟨by rfl, ?_⟩) (by assumption) ?_
                        rotate_left
                        · intro w' hSw; (try dsimp only at hSw); go_simp; (try with_reducible rfl)
                        try simp only [Act.put, List.setIfInBounds_toArray, List.set_cons_zero, List.set_cons_succ]
                        obtain ⟨A9, c9, ev9, -, -, -, -⟩ := OwnW.rows (l := s.1.2.2 ++ [((x1, x2, x3), xA, xc)]) (N := fun _ => False) whyc_len (by decide) OZ.out (fun _ _ h => h)
                        rw [List.length_append, List.length_singleton] at ev9
                        subst ev9
                        obtain ⟨q1, cs9, hg9, hk9⟩ := SM.out.sup_new t4 k4 f42 hj HES.out HNI.out HOKY.out (EU.out.drew.trans (EZ.out.mono EU.out.size)) OZ.out EU.out.size
                        refine LW.wpAnyL_ready (rs := [15]) (by kernel_rfl) (by simp) ?_
                        refine LW.AllReadyL.fin (o := ⟨_, _, _, _, _, _⟩) rfl (fun K9 hK9 => ?_)
                        refine LW.step_store1 rfl 46 (.tmp 103) (.tmp 101) rfl (rd.add (j * 3)).block ((rd.add (j * 3)).off + 2) (.slice A9 (s.1.2.2.length + 1) c9) _ _ rfl rfl hg9 hk9 (by kernel_rfl) rfl ?_
                        refine hK9.out _ _ ?_
                        clear hK9 K9
                        try simp only [Act.put]
                        refine LW.wpAnyL_done (by kernel_rfl) ?_ _
                        have SN := Lib.hid q1
                        clear q1 hg9 hk9 OZ EZ
                        rw [List.length_set] at SN
                        go_wp2_with fail
                        go_meet
                        exact ⟨_, _, _, _, _, rfl, SN⟩
                      · refine step_build1 (f := whyc) (m := 3) rfl 46 (.tmp 99) rfl 50 i0W zW Try.underlying46 hiW hz0W hz1W (by decide) (by decide) ((x1, x2, x3), xA, xc) _ rfl (fillW ((x1, x2, x3), xA, xc)) ?_
                        intro gb p5 nb hb hg1 hg2
                        have E5 := Lib.hid (E1.out.trans (hb.mono E1.out.size))
                        have NB := Lib.hid nb
                        have GB := Lib.hid hg2
                        have APN : Hid (∀ k, va.ownBlock = some k → k ≠ gb) := Lib.hid (fun k hk e => by have h1 := (OA.out.lt hk).2; omega)
                        have OA := Lib.hid (OwnW.below OA.out hb)
                        clear nb hb hg1 hg2
                        refine hK9.out _ _ (HSX2.out _ E5.out) (fun hHeld => ?_)
                        clear hK9 K9
                        try simp only [Act.put, List.setIfInBounds_toArray, List.set_cons_zero, List.set_cons_succ]
                        refine LW.wpAnyL_ready (rs := [8]) (by kernel_rfl) (by simp) ?_
                        refine LW.AllReadyL.cons (o := ⟨_, _, _, _, _, _⟩) rfl (fun K9 hK9 => ?_) LW.AllReadyL.nil
                        refine step_append_ownN (f := whyc) whyc_len whyc_flat (by decide) rfl (.tmp 91) (.tmp 96) 46 rfl u2.drew.heap.size 50 i0W zW 40 Try.underlying46 hiW hz0W hz1W hz2W rfl va 0 [] rfl OA.out s.2.1 s.2.2 s.1.2.2 s.1.2.2.length rfl HSA.out (RowsAt.below RK.out E5.out) rfl (by unfold maxLen; omega) (by omega) E5.out.size ?_
                        intro v2 p6 ho hg _
                        have E6 := Lib.hid (E5.out.grown hg E5.out.size (fun q hq => (OA.out.lt hq).1))
                        have O2 : Hid (OwnW p6 u2.drew.heap.size 50 3 v2 s.1.2.2.length (s.1.2.2.flatMap whyc)) := Lib.hid (by have h := ho; rw [Nat.zero_add, List.nil_append] at h; exact h)
                        have NB := Lib.hid (RowsAt.keep (F := fun k => va.ownBlock = some k) NB.out ((Keep.refl _ _).grown hg (fun q hq => .inl hq)) (fun k hk => APN.out k hk))
                        clear ho hg
                        refine hK9.out _ _ (HSX2.out _ E6.out) (fun hHeld => ?_)
                        clear hK9 K9
                        try simp only [Act.put, List.setIfInBounds_toArray, List.set_cons_zero, List.set_cons_succ]
                        refine LW.wpAnyL_ready (rs := [12]) (by kernel_rfl) (by simp) ?_
                        refine LW.AllReadyL.cons (o := ⟨_, _, _, _, _, _⟩) rfl (fun K9 hK9 => ?_) LW.AllReadyL.nil
                        refine step_append_ownN (f := whyc) whyc_len whyc_flat (by decide) rfl (.tmp 97) (.tmp 100) 46 rfl u2.drew.heap.size 50 i0W zW 40 Try.underlying46 hiW hz0W hz1W hz2W rfl v2 s.1.2.2.length s.1.2.2 rfl O2.out (some ⟨gb, 0, none⟩) 1 [((x1, x2, x3), xA, xc)] 1 rfl (fun h => by cases h) (NB.out.mono (fun _ h => h.elim)) rfl (by unfold maxLen; omega) (by omega) E6.out.size ?_
                        intro v9 w9 ho hg _
                        have EZ := Lib.hid (E6.out.grown hg E6.out.size (fun q hq => (O2.out.lt hq).1))
                        have OZ := Lib.hid ho
                        clear ho hg
                        refine hK9.out _ _ (HSX2.out _ EZ.out) (fun hHeld => ?_)
                        clear hK9 K9
                        try simp only [Act.put, List.setIfInBounds_toArray, List.set_cons_zero, List.set_cons_succ]
                        refine LW.wpAnyL_ready (rs := [13]) (by kernel_rfl) (by simp) ?_
                        refine LW.AllReadyL.cons (o := ⟨_, _, _, _, _, _⟩) rfl (fun K9 hK9 => ?_) LW.AllReadyL.nil
                        go_simp
                        refine hK9.out _ _ (HSX2.out _ EZ.out) (fun hHeld => ?_)
                        clear hK9 K9
                        try simp only [Act.put, List.setIfInBounds_toArray, List.set_cons_zero, List.set_cons_succ]
                        refine LW.wpAnyL_take (i := 14) (oi := ⟨_, _, _, _, _, _⟩) (v := ?_) rfl (by kernel_rfl) (by kernel_rfl) (by kernel_rfl) (by kernel_rfl) (fun _ _ _ h => h) (Or.inl ⟨by rfl, ?_⟩) (by assumption) ?_
                        rotate_left
                        · intro w' hSw; (try dsimp only at hSw); go_simp; (try with_reducible rfl)
                        try simp only [Act.put, List.setIfInBounds_toArray, List.set_cons_zero, List.set_cons_succ]
                        obtain ⟨A9, c9, ev9, -, -, -, -⟩ := OwnW.rows (l := s.1.2.2 ++ [((x1, x2, x3), xA, xc)]) (N := fun _ => False) whyc_len (by decide) OZ.out (fun _ _ h => h)
                        rw [List.length_append, List.length_singleton] at ev9
                        subst ev9
                        obtain ⟨q1, cs9, hg9, hk9⟩ := SM.out.sup_new t4 k4 f42 hj HES.out HNI.out HOKY.out (EU.out.drew.trans (EZ.out.mono EU.out.size)) OZ.out EU.out.size
                        refine LW.wpAnyL_ready (rs := [15]) (by kernel_rfl) (by simp) ?_
                        refine LW.AllReadyL.fin (o := ⟨_, _, _, _, _, _⟩) rfl (fun K9 hK9 => ?_)
                        refine LW.step_store1 rfl 46 (.tmp 103) (.tmp 101) rfl (rd.add (j * 3)).block ((rd.add (j * 3)).off + 2) (.slice A9 (s.1.2.2.length + 1) c9) _ _ rfl rfl hg9 hk9 (by kernel_rfl) rfl ?_
                        refine hK9.out _ _ ?_
                        clear hK9 K9
                        try simp only [Act.put]
                        refine LW.wpAnyL_done (by kernel_rfl) ?_ _
                        have SN := Lib.hid q1
                        clear q1 hg9 hk9 OZ EZ
                        rw [List.length_set] at SN
                        go_wp2_with fail
                        go_meet
                        exact ⟨_, _, _, _, _, rfl, SN⟩
                    · refine step_build1 (f := whyc) (m := 3) rfl 46 (.tmp 99) rfl 50 i0W zW Try.underlying46 hiW hz0W hz1W (by decide) (by decide) ((x1, x2, x3), xA, xc) _ rfl (fillW ((x1, x2, x3), xA, xc)) ?_
                      intro gb p8 nb hb hg1 hg2
                      have E8 := Lib.hid (E0.out.trans (hb.mono E0.out.size))
                      have NB := Lib.hid nb
                      have GB := Lib.hid hg2
                      clear nb hb hg1 hg2
                      refine hK9.out _ _ (HSX2.out _ E8.out) (fun hHeld => ?_)
                      clear hK9 K9
                      try simp only [Act.put, List.setIfInBounds_toArray, List.set_cons_zero, List.set_cons_succ]
                      refine LW.wpAnyL_ready (rs := [2]) (by kernel_rfl) (by simp) ?_
                      refine LW.AllReadyL.cons (o := ⟨_, _, _, _, _, _⟩) rfl (fun K9 hK9 => ?_) LW.AllReadyL.nil
                      refine step_build0 rfl 46 rfl 50 i0W 3 _ Try.underlying46 hiW (Nat.le_refl _) ?_
                      intro va p9 ho hb
                      have E9 := Lib.hid (E8.out.trans (hb.mono E8.out.size))
                      have OA := Lib.hid (ho.mono E8.out.size)
                      have APN : Hid (∀ k, va.ownBlock = some k → k ≠ gb) := Lib.hid (fun k hk e => by have h1 := (OwnW.lt ho hk).1; have h2 := GB.out; omega)
                      have NB := Lib.hid (RowsAt.below NB.out hb)
                      clear ho hb
                      refine hK9.out _ _ (HSX2.out _ E9.out) (fun hHeld => ?_)
                      clear hK9 K9
                      try simp only [Act.put, List.setIfInBounds_toArray, List.set_cons_zero, List.set_cons_succ]
                      refine LW.wpAnyL_ready (rs := [8]) (by kernel_rfl) (by simp) ?_
                      refine LW.AllReadyL.cons (o := ⟨_, _, _, _, _, _⟩) rfl (fun K9 hK9 => ?_) LW.AllReadyL.nil
                      refine step_append_ownN (f := whyc) whyc_len whyc_flat (by decide) rfl (.tmp 91) (.tmp 96) 46 rfl u2.drew.heap.size 50 i0W zW 40 Try.underlying46 hiW hz0W hz1W hz2W rfl va 0 [] rfl OA.out s.2.1 s.2.2 s.1.2.2 s.1.2.2.length rfl HSA.out (RowsAt.below RK.out E9.out) rfl (by unfold maxLen; omega) (by omega) E9.out.size ?_
                      intro v2 p10 ho hg _
                      have E10 := Lib.hid (E9.out.grown hg E9.out.size (fun q hq => (OA.out.lt hq).1))
                      have O2 : Hid (OwnW p10 u2.drew.heap.size 50 3 v2 s.1.2.2.length (s.1.2.2.flatMap whyc)) := Lib.hid (by have h := ho; rw [Nat.zero_add, List.nil_append] at h; exact h)
                      have NB := Lib.hid (RowsAt.keep (F := fun k => va.ownBlock = some k) NB.out ((Keep.refl _ _).grown hg (fun q hq => .inl hq)) (fun k hk => APN.out k hk))
                      clear ho hg
                      refine hK9.out _ _ (HSX2.out _ E10.out) (fun hHeld => ?_)
                      clear hK9 K9
                      try simp only [Act.put, List.setIfInBounds_toArray, List.set_cons_zero, List.set_cons_succ]
                      refine LW.wpAnyL_ready (rs := [12]) (by kernel_rfl) (by simp) ?_
                      refine LW.AllReadyL.cons (o := ⟨_, _, _, _, _, _⟩) rfl (fun K9 hK9 => ?_) LW.AllReadyL.nil
                      refine step_append_ownN (f := whyc) whyc_len whyc_flat (by decide) rfl (.tmp 97) (.tmp 100) 46 rfl u2.drew.heap.size 50 i0W zW 40 Try.underlying46 hiW hz0W hz1W hz2W rfl v2 s.1.2.2.length s.1.2.2 rfl O2.out (some ⟨gb, 0, none⟩) 1 [((x1, x2, x3), xA, xc)] 1 rfl (fun h => by cases h) (NB.out.mono (fun _ h => h.elim)) rfl (by unfold maxLen; omega) (by omega) E10.out.size ?_
                      intro v9 w9 ho hg _
                      have EZ := Lib.hid (E10.out.grown hg E10.out.size (fun q hq => (O2.out.lt hq).1))
                      have OZ := Lib.hid ho
                      clear ho hg
                      refine hK9.out _ _ (HSX2.out _ EZ.out) (fun hHeld => ?_)
                      clear hK9 K9
                      try simp only [Act.put, List.setIfInBounds_toArray, List.set_cons_zero, List.set_cons_succ]
                      refine LW.wpAnyL_ready (rs := [13]) (by kernel_rfl) (by simp) ?_
                      refine LW.AllReadyL.cons (o := ⟨_, _, _, _, _, _⟩) rfl (fun K9 hK9 => ?_) LW.AllReadyL.nil
                      go_simp
                      refine hK9.out _ _ (HSX2.out _ EZ.out) (fun hHeld => ?_)
                      clear hK9 K9
                      try simp only [Act.put, List.setIfInBounds_toArray, List.set_cons_zero, List.set_cons_succ]
                      refine LW.wpAnyL_take (i := 14) (oi := ⟨_, _, _, _, _, _⟩) (v := ?_) rfl (by kernel_rfl) (by kernel_rfl) (by kernel_rfl) (by kernel_rfl) (fun _ _ _ h => h) (Or.inl ⟨by rfl, ?_⟩) (by assumption) ?_
                      rotate_left
                      · intro w' hSw; (try dsimp only at hSw); go_simp; (try with_reducible rfl)
                      try simp only [Act.put, List.setIfInBounds_toArray, List.set_cons_zero, List.set_cons_succ]
                      obtain ⟨A9, c9, ev9, -, -, -, -⟩ := OwnW.rows (l := s.1.2.2 ++ [((x1, x2, x3), xA, xc)]) (N := fun _ => False) whyc_len (by decide) OZ.out (fun _ _ h => h)
                      rw [List.length_append, List.length_singleton] at ev9
                      subst ev9
                      obtain ⟨q1, cs9, hg9, hk9⟩ := SM.out.sup_new t4 k4 f42 hj HES.out HNI.out HOKY.out (EU.out.drew.trans (EZ.out.mono EU.out.size)) OZ.out EU.out.size
                      refine LW.wpAnyL_ready (rs := [15]) (by kernel_rfl) (by simp) ?_
                      refine LW.AllReadyL.fin (o := ⟨_, _, _, _, _, _⟩) rfl (fun K9 hK9 => ?_)
                      refine LW.step_store1 rfl 46 (.tmp 103) (.tmp 101) rfl (rd.add (j * 3)).block ((rd.add (j * 3)).off + 2) (.slice A9 (s.1.2.2.length + 1) c9) _ _ rfl rfl hg9 hk9 (by kernel_rfl) rfl ?_
                      refine hK9.out _ _ ?_
                      clear hK9 K9
                      try simp only [Act.put]
                      refine LW.wpAnyL_done (by kernel_rfl) ?_ _
                      have SN := Lib.hid q1
                      clear q1 hg9 hk9 OZ EZ
                      rw [List.length_set] at SN
                      go_wp2_with fail
                      go_meet
                      exact ⟨_, _, _, _, _, rfl, SN⟩
          · by_cases h3 : op = 3
            · as_aux_lemma =>
                subst h3
                rcases HK.out with ⟨rfl, hn⟩ | ⟨j, hj, rfl, ej⟩
                · have HFO := Lib.hid (forget_t TB.out fa)
                  go_upto_block 2 with (fail)
                  go_cut [4] (fun v wx => ∃ (F' : Nat → Prop) (P' : Pl) (C' : List Wy) (vo' : Value) (R2 : List Sf), vo' = v ∧ Hid (Sq w1 g l (i + 1) F' P' C' vo' R2 wx))
                  case rest =>
                    obtain ⟨F', P', C', vo', R2, rfl, SN⟩ := hcut
                    obtain ⟨A', c', ev, -, -, -⟩ := SN.out.row.row
                    subst ev
                    clear cO cF cX cY cS
                    have HTE := Lib.hid (SN.out.tell (by omega) (fun x hx => (HA.out _ SN.out.tab.below x hx).1))
                    go_wp2_with fail
                    refine HTE.out.mono ?_
                    rintro e w9 ⟨rfl, b9⟩
                    have SN9 := Lib.hid (SN.out.below b9)
                    clear b9 HTE SN
                    go_wp2_with fail
                    go_roundw
                    case rel => exact ⟨i + 1, _, _, _, _, _, by omega, by go_num, rfl, SN9⟩
                    case measure => first | (simp [RowKit.intOf]; done) | (simp [RowKit.intOf]; omega)
                  case first =>
                    go_wp2_with fail
                    refine HFO.out.mono ?_
                    rintro e w4 ⟨rfl, t4, k4⟩
                    have SN := Lib.hid (SB.out.forget_no hn t4 k4)
                    clear HFO t4 k4 hn
                    go_wp2_with fail
                    go_meet
                    exact ⟨_, _, _, _, _, rfl, SN⟩
                · have HFO := Lib.hid (forget_t TB.out fa)
                  obtain ⟨rd, rfl, -, -⟩ := sts_at RB.out hj
                  have hrl : R.length ≤ rc := by
                    obtain ⟨A', c', ev, -, -, hc⟩ := SB.out.row.row
                    injection ev with _ _ ev2
                    rw [ev2]; exact hc
                  have hjI : (j : Int) < (R.length : Int) := by omega
                  have hj0 : ¬ (j : Int) < 0 := by omega
                  have hj1 : (0 : Int) ≤ (j : Int) := by omega
                  have hjc : (j : Int) ≤ (rc : Int) := by omega
                  have hjw : IntKind.i64.wrap ((j : Int) + 1) = (j : Int) + 1 := IntWalk.i64_in _ (by omega)
                  go_upto_block 2 with (fail)
                  go_cut [4] (fun v wx => ∃ (F' : Nat → Prop) (P' : Pl) (C' : List Wy) (vo' : Value) (R2 : List Sf), vo' = v ∧ Hid (Sq w1 g l (i + 1) F' P' C' vo' R2 wx))
                  case rest =>
                    obtain ⟨F', P', C', vo', R2, rfl, SN⟩ := hcut
                    obtain ⟨A', c', ev, -, -, -⟩ := SN.out.row.row
                    subst ev
                    clear cO cF cX cY cS
                    have HTE := Lib.hid (SN.out.tell (by omega) (fun x hx => (HA.out _ SN.out.tab.below x hx).1))
                    go_wp2_with fail
                    refine HTE.out.mono ?_
                    rintro e w9 ⟨rfl, b9⟩
                    have SN9 := Lib.hid (SN.out.below b9)
                    clear b9 HTE SN
                    go_wp2_with fail
                    go_roundw
                    case rel => exact ⟨i + 1, _, _, _, _, _, by omega, by go_num, rfl, SN9⟩
                    case measure => first | (simp [RowKit.intOf]; done) | (simp [RowKit.intOf]; omega)
                  case first =>
                    go_wp2_with fail
                    refine HFO.out.mono ?_
                    rintro e w4 ⟨rfl, t4, k4⟩
                    have HR4 : Hid (RowsAt standc 3 (fun _ => False) w4.drew (some rd) R) := Lib.hid (by
                      obtain ⟨A', c', ev, hr, _, _⟩ := (SB.out.row.table k4 (fun _ h => .inl h)).row
                      injection ev with ev1 _ ev2
                      rw [ev1]; exact hr.below (Below.refl _ w4).drew)
                    obtain ⟨B, c2, hS, hB0, hrows⟩ := cut_from (f := standc) (m := 3) (some rd) rc (j + 1) R.length HRA.out
                    have HCS := Lib.hid hS
                    have HB0 := Lib.hid hB0
                    have E0 := Lib.hid (Below.refl w4.drew.heap.size w4.drew)
                    clear HFO hS hB0
                    go_wp2_with fail
                    refine wp_region_held_drew (S := (fun _ : World => True)) (by kernel_rfl) trivial (fun hHeld => ?_)
                    refine wpAnyH_take (i := 1) (oi := ⟨_, _, _, _, _, _⟩) (v := ?_) rfl (by kernel_rfl) (by kernel_rfl) (by kernel_rfl) (fun _ _ _ h => h) (Or.inl ⟨by rfl, ?_⟩) (by assumption) ?_
                    rotate_left
                    · intro w' hSw; (try dsimp only at hSw); go_simp; (try with_reducible rfl)
                    try simp only [Act.put, List.setIfInBounds_toArray, List.set_cons_zero, List.set_cons_succ]
                    refine wpAnyH_take (i := 2) (oi := ⟨_, _, _, _, _, _⟩) (v := ?_) rfl (by kernel_rfl) (by kernel_rfl) (by kernel_rfl) (fun _ _ _ h => h) (Or.inl ⟨by rfl, ?_⟩) (by assumption) ?_
                    rotate_left
                    · intro w' hSw; (try dsimp only at hSw); go_simp; (try with_reducible rfl)
                    try simp only [Act.put, List.setIfInBounds_toArray, List.set_cons_zero, List.set_cons_succ]
                    refine wpAnyH_take (i := 3) (oi := ⟨_, _, _, _, _, _⟩) (v := ?_) rfl (by kernel_rfl) (by kernel_rfl) (by kernel_rfl) (fun _ _ _ h => h) (Or.inl ⟨by rfl, ?_⟩) (by assumption) ?_
                    rotate_left
                    · intro w' hSw; (try dsimp only at hSw); go_simp; (try with_reducible rfl)
                    try simp only [Act.put, List.setIfInBounds_toArray, List.set_cons_zero, List.set_cons_succ]
                    refine wpAnyH_take (i := 5) (oi := ⟨_, _, _, _, _, _⟩) (v := ?_) rfl (by kernel_rfl) (by kernel_rfl) (by kernel_rfl) (fun _ _ _ h => h) (Or.inl ⟨by rfl, ?_⟩) (by assumption) ?_
                    rotate_left
                    · intro w' hSw; (try dsimp only at hSw); go_simp; (try with_reducible rfl)
                    try simp only [Act.put, List.setIfInBounds_toArray, List.set_cons_zero, List.set_cons_succ]
                    refine wpAnyH_take (i := 6) (oi := ⟨_, _, _, _, _, _⟩) (v := ?_) rfl (by kernel_rfl) (by kernel_rfl) (by kernel_rfl) (fun _ _ _ h => h) (Or.inl ⟨by rfl, ?_⟩) (by assumption) ?_
                    rotate_left
                    · intro w' hSw; (try dsimp only at hSw); go_simp; (try with_reducible rfl)
                    try simp only [Act.put, List.setIfInBounds_toArray, List.set_cons_zero, List.set_cons_succ]
                    refine wpAnyH_take (i := 7) (oi := ⟨_, _, _, _, _, _⟩) (v := ?_) rfl (by kernel_rfl) (by kernel_rfl) (by kernel_rfl) (fun _ _ _ h => h) (Or.inl ⟨by rfl, ?_⟩) (by assumption) ?_
                    rotate_left
                    · intro w' hSw; (try dsimp only at hSw); go_simp; (try with_reducible rfl)
                    try simp only [Act.put, List.setIfInBounds_toArray, List.set_cons_zero, List.set_cons_succ]
                    refine wpAnyH_take (i := 8) (oi := ⟨_, _, _, _, _, _⟩) (v := .slice B (R.length - (j + 1)) c2) rfl (by kernel_rfl) (by kernel_rfl) (by kernel_rfl) (fun _ _ _ h => h) (Or.inl ⟨by rfl, fun w' _ => exec_from (.tmp 117) (.tmp 119) 60 rfl i0S 3 Try.underlying60 hiS hz1S (some rd) R.length rc (j + 1) ((j : Int) + 1) (by omega) rfl rfl hj _ HCS.out⟩) (by assumption) ?_
                    try simp only [Act.put, List.setIfInBounds_toArray, List.set_cons_zero, List.set_cons_succ]
                    refine wpAnyH_ready (rs := [0]) (by kernel_rfl) (by simp) ?_
                    refine AllReadyH.cons (o := ⟨_, _, _, _, _, _⟩) rfl (fun K9 hK9 => ?_) AllReadyH.nil
                    refine step_build0 rfl 60 rfl 65 i0S 3 _ Try.underlying60 hiS (Nat.le_refl _) ?_
                    intro va p1 ho hb
                    have E1b := Lib.hid (E0.out.trans (hb.mono E0.out.size))
                    have OA := Lib.hid (ho.mono E0.out.size)
                    clear ho hb
                    refine hK9.out _ _ trivial (fun hHeld => ?_)
                    clear hK9 K9
                    try simp only [Act.put, List.setIfInBounds_toArray, List.set_cons_zero, List.set_cons_succ]
                    refine wpAnyH_ready (rs := [4]) (by kernel_rfl) (by simp) ?_
                    refine AllReadyH.cons (o := ⟨_, _, _, _, _, _⟩) rfl (fun K9 hK9 => ?_) AllReadyH.nil
                    refine step_append_ownN (f := standc) standc_len standc_flat (by decide) rfl (.tmp 112) (.tmp 115) 60 rfl w4.drew.heap.size 65 i0S zS 40 Try.underlying60 hiS hz0S hz1S hz2S rfl va 0 [] rfl OA.out (some rd) rc (R.take j) (j) (by rw [List.length_take]; omega) HRA.out (rows_take (HR4.out.below E1b.out) j) rfl (by unfold maxLen; omega) (by omega) E1b.out.size ?_
                    intro v2 p2 ho hg _
                    have E2b := Lib.hid (E1b.out.grown hg E1b.out.size (fun q hq => (OA.out.lt hq).1))
                    have O2 := Lib.hid ho
                    clear ho hg
                    refine hK9.out _ _ trivial (fun hHeld => ?_)
                    clear hK9 K9
                    try simp only [Act.put, List.setIfInBounds_toArray, List.set_cons_zero, List.set_cons_succ]
                    refine wpAnyH_ready (rs := [9]) (by kernel_rfl) (by simp) ?_
                    refine AllReadyH.cons (o := ⟨_, _, _, _, _, _⟩) rfl (fun K9 hK9 => ?_) AllReadyH.nil
                    refine step_append_ownN (f := standc) standc_len standc_flat (by decide) rfl (.tmp 116) (.tmp 120) 60 rfl w4.drew.heap.size 65 i0S zS 40 Try.underlying60 hiS hz0S hz1S hz2S rfl v2 (0 + j) ([] ++ (R.take j)) rfl O2.out B c2 (R.drop (j + 1)) (R.length - (j + 1)) (by rw [List.length_drop]) HB0.out (hrows _ _ R (HR4.out.below E2b.out) hrl hj) rfl (by unfold maxLen; omega) (by omega) E2b.out.size ?_
                    intro v9 w9 ho hg _
                    have EZ := Lib.hid (E2b.out.grown hg E2b.out.size (fun q hq => (O2.out.lt hq).1))
                    have OZ := Lib.hid ho
                    clear ho hg
                    refine hK9.out _ _ trivial (fun hHeld => ?_)
                    clear hK9 K9
                    try simp only [Act.put, List.setIfInBounds_toArray, List.set_cons_zero, List.set_cons_succ]
                    refine wpAnyH_take (i := 10) (oi := ⟨_, _, _, _, _, _⟩) (v := ?_) rfl (by kernel_rfl) (by kernel_rfl) (by kernel_rfl) (fun _ _ _ h => h) (Or.inl ⟨by rfl, ?_⟩) (by assumption) ?_
                    rotate_left
                    · intro w' hSw; (try dsimp only at hSw); go_simp; (try with_reducible rfl)
                    try simp only [Act.put, List.setIfInBounds_toArray, List.set_cons_zero, List.set_cons_succ]
                    refine wpAnyH_done (by kernel_rfl) ?_ _
                    clear hHeld
                    have hl9 : (R.take j ++ R.drop (j + 1)).length = 0 + j + (R.length - (j + 1)) := by rw [List.length_append, List.length_take, List.length_drop]; omega
                    have SN := Lib.hid (SB.out.forget_yes hj ej t4 k4 ((Below.refl _ w4).drew.trans EZ.out) (by rw [hl9]; exact OZ.out) (Nat.le_refl _))
                    clear t4 k4 EZ OZ hl9 O2 OA HR4 HCS
                    go_wp2_with fail
                    go_meet
                    exact ⟨_, _, _, _, _, rfl, SN⟩
            · have e1 : (op == 1) = false := by simp [h1]
              have e2 : (op == 2) = false := by simp [h2]
              have e3 : (op == 3) = false := by simp [h3]
              clear h1 h2 h3
              as_aux_lemma =>
                go_upto_region 14 with (fail)
                go_cut [48] (fun v wx => v = .bool false ∧ Hid (wB = wx))
                case first =>
                  rcases HK.out with ⟨rfl, hn⟩ | ⟨j, hj, rfl, ej⟩
                  · clear hn
                    go_wp2_with fail
                    go_meet
                    exact ⟨rfl, Lib.hid rfl⟩
                  · have hj0 : ¬ (j : Int) < 0 := by omega
                    clear ej
                    go_wp2_with fail
                    go_meet
                    exact ⟨rfl, Lib.hid rfl⟩
                case rest =>
                  obtain ⟨rfl, HWC⟩ := hcut
                  obtain rfl := HWC.out
                  clear HWC HK
                  by_cases h4 : op = 4
                  · subst h4
                    go_upto_block 2 with (fail)
                    go_cut [4] (fun v wx => ∃ (F' : Nat → Prop) (P' : Pl) (C' : List Wy) (vo' : Value) (R2 : List Sf), vo' = v ∧ Hid (Sq w1 g l (i + 1) F' P' C' vo' R2 wx))
                    case rest =>
                      obtain ⟨F', P', C', vo', R2, rfl, SN⟩ := hcut
                      obtain ⟨A', c', ev, -, -, -⟩ := SN.out.row.row
                      subst ev
                      clear cO cF cX cY cS
                      have HTE := Lib.hid (SN.out.tell (by omega) (fun x hx => (HA.out _ SN.out.tab.below x hx).1))
                      go_wp2_with fail
                      refine HTE.out.mono ?_
                      rintro e w9 ⟨rfl, b9⟩
                      have SN9 := Lib.hid (SN.out.below b9)
                      clear b9 HTE SN
                      go_wp2_with fail
                      go_roundw
                      case rel => exact ⟨i + 1, _, _, _, _, _, by omega, by go_num, rfl, SN9⟩
                      case measure => first | (simp [RowKit.intOf]; done) | (simp [RowKit.intOf]; omega)
                    case first =>
                      have SL0 := Lib.hid (SB.out.start (x1, x2, x3))
                      go_wp2_with fail
                      go_loopw [8, 9] (fun gw jv wr => ∃ (j : Nat) (gv : Value) (Rk : List Sf), j ≤ R.length ∧ jv = .int .i64 j ∧ gv = gw ∧ Rk.length = R.length ∧ Hid (Sl w1 g l i F P C (.slice RA R.length rc) gv (x1, x2, x3) j j Rk wr) ∧ Hid (wr.heap[bA]? = some (.cells #[.int .i64 4, .int .i64 fa, .int .i64 x1, .int .i64 x2, .slice xA x3.length xc] 62 (0, 0)))) (fun _ jv _ => R.length - (RowKit.intOf jv).toNat)
                      case atStart => exact ⟨0, _, R, by omega, rfl, rfl, rfl, SL0, HBK⟩
                      case round =>
                        obtain ⟨j, gv, Rk, hj, rfl, rfl, hRk, SL, HBW⟩ := hrel
                        clear SL0
                        have hrw : RowsAt standc 3 (fun _ => False) wr RA Rk := by
                          obtain ⟨A', c', ev, hr, _, _⟩ := SL.out.row.row
                          injection ev with ev1 _ ev2
                          rw [ev1]; exact hr
                        have cX := block_cell (j := 2) HBW.out rfl
                        have cY := block_cell (j := 3) HBW.out rfl
                        have cS := block_cell (j := 4) HBW.out rfl
                        by_cases hlt2 : j < R.length
                        · have hlt3 : j < Rk.length := by omega
                          have hjI : (j : Int) < (R.length : Int) := by omega
                          obtain ⟨rd, rfl, -, d0, d1, d2⟩ := sts_at hrw hlt3
                          obtain ⟨s, es⟩ : ∃ s, Rk[j] = s := ⟨_, rfl⟩
                          have hmem := List.getElem_mem hlt3
                          obtain ⟨hP2, hPe⟩ := SL.out.get hlt3
                          have hnd := SL.out.good.each _ (List.getElem_mem hP2)
                          rw [hPe] at hnd
                          rw [es] at d2 hmem hPe hnd
                          have HES := Lib.hid es
                          have HSX : Hid (∀ w', Below wr.heap.size wr w' → (fun w' : World => w'.cell? ⟨bA, 2, none⟩ = some (.int .i64 x1) ∧ w'.cell? ⟨bA, 3, none⟩ = some (.int .i64 x2) ∧ w'.cell? ⟨bA, 4, none⟩ = some (.slice xA x3.length xc) ∧ w'.cell? ⟨(rd.add (j * 3)).block, (rd.add (j * 3)).off + 2, none⟩ = some (.slice s.2.1 s.1.2.2.length s.2.2)) w') := Lib.hid (fun w' hb => ⟨cell_kept cX hb, cell_kept cY hb, cell_kept cS hb, cell_kept d2 hb⟩)
                          have HLS : Hid (RowsAt whyc 3 (fun _ => False) wr s.2.1 s.1.2.2) := Lib.hid ((SL.out.row.each _ hmem).mono (fun _ h => h.elim))
                          have HSA : Hid (s.2.1 = none → s.2.2 = 0) := Lib.hid (SL.out.row.nil _ hmem).1
                          have hcap : s.1.2.2.length ≤ s.2.2 := (SL.out.row.nil _ hmem).2
                          have hsl : s.1.2.2.length ≤ 80 := by have := SL.out.row.few _ hmem; omega
                          have HFI := Lib.hid (find_c s.2.1 s.2.2 s.1.2.2 ((x1, x2, x3), xA, xc) wr.drew (HLS.out.below (Below.refl _ wr).drew) (fun z hz => (HA.out _ SL.out.tab.below.drew z (SL.out.row.of s hmem z hz)).1) (HA.out _ SL.out.tab.below.drew _ HOKY.out).1 (by omega))
                          have ED := Lib.hid ((Below.refl wr.heap.size wr).drew)
                          have HPE := Lib.hid hPe
                          have HND := Lib.hid hnd
                          clear d0 d1 d2 cX cY cS hrw hmem es hnd
                          clear hPe
                          go_wp2_with fail
                          refine wp_region_held_drew (S := (fun w' : World => w'.cell? ⟨bA, 2, none⟩ = some (.int .i64 x1) ∧ w'.cell? ⟨bA, 3, none⟩ = some (.int .i64 x2) ∧ w'.cell? ⟨bA, 4, none⟩ = some (.slice xA x3.length xc) ∧ w'.cell? ⟨(rd.add (j * 3)).block, (rd.add (j * 3)).off + 2, none⟩ = some (.slice s.2.1 s.1.2.2.length s.2.2))) (by kernel_rfl) (HSX.out _ ED.out) (fun hHeld => ?_)
                          refine wpAnyH_take (i := 0) (oi := ⟨_, _, _, _, _, _⟩) (v := ?_) rfl (by kernel_rfl) (by kernel_rfl) (by kernel_rfl) (fun _ _ _ h => h) (Or.inl ⟨by rfl, ?_⟩) (by assumption) ?_
                          rotate_left
                          · intro w' hSw; (try dsimp only at hSw); go_simp; (try with_reducible rfl)
                          try simp only [Act.put, List.setIfInBounds_toArray, List.set_cons_zero, List.set_cons_succ]
                          refine wpAnyH_take (i := 1) (oi := ⟨_, _, _, _, _, _⟩) (v := ?_) rfl (by kernel_rfl) (by kernel_rfl) (by kernel_rfl) (fun _ _ _ h => h) (Or.inl ⟨by rfl, ?_⟩) (by assumption) ?_
                          rotate_left
                          · intro w' hSw; (try dsimp only at hSw); go_simp; (try with_reducible rfl)
                          try simp only [Act.put, List.setIfInBounds_toArray, List.set_cons_zero, List.set_cons_succ]
                          refine wpAnyH_take (i := 2) (oi := ⟨_, _, _, _, _, _⟩) (v := ?_) rfl (by kernel_rfl) (by kernel_rfl) (by kernel_rfl) (fun _ _ _ h => h) (Or.inl ⟨by rfl, ?_⟩) (by assumption) ?_
                          rotate_left
                          · intro w' hSw; (try dsimp only at hSw); go_simp; (try with_reducible rfl)
                          try simp only [Act.put, List.setIfInBounds_toArray, List.set_cons_zero, List.set_cons_succ]
                          refine wpAnyH_take (i := 3) (oi := ⟨_, _, _, _, _, _⟩) (v := ?_) rfl (by kernel_rfl) (by kernel_rfl) (by kernel_rfl) (fun _ _ _ h => h) (Or.inl ⟨by rfl, ?_⟩) (by assumption) ?_
                          rotate_left
                          · intro w' hSw; (try dsimp only at hSw); go_simp; (try with_reducible rfl)
                          try simp only [Act.put, List.setIfInBounds_toArray, List.set_cons_zero, List.set_cons_succ]
                          refine wpAnyH_take (i := 4) (oi := ⟨_, _, _, _, _, _⟩) (v := ?_) rfl (by kernel_rfl) (by kernel_rfl) (by kernel_rfl) (fun _ _ _ h => h) (Or.inl ⟨by rfl, ?_⟩) (by assumption) ?_
                          rotate_left
                          · intro w' hSw; (try dsimp only at hSw); go_simp; (try with_reducible rfl)
                          try simp only [Act.put, List.setIfInBounds_toArray, List.set_cons_zero, List.set_cons_succ]
                          refine wpAnyH_take (i := 5) (oi := ⟨_, _, _, _, _, _⟩) (v := ?_) rfl (by kernel_rfl) (by kernel_rfl) (by kernel_rfl) (fun _ _ _ h => h) (Or.inl ⟨by rfl, ?_⟩) (by assumption) ?_
                          rotate_left
                          · intro w' hSw; (try dsimp only at hSw); go_simp; (try with_reducible rfl)
                          try simp only [Act.put, List.setIfInBounds_toArray, List.set_cons_zero, List.set_cons_succ]
                          refine wpAnyH_take (i := 6) (oi := ⟨_, _, _, _, _, _⟩) (v := ?_) rfl (by kernel_rfl) (by kernel_rfl) (by kernel_rfl) (fun _ _ _ h => h) (Or.inl ⟨by rfl, ?_⟩) (by assumption) ?_
                          rotate_left
                          · intro w' hSw; (try dsimp only at hSw); go_simp; (try with_reducible rfl)
                          try simp only [Act.put, List.setIfInBounds_toArray, List.set_cons_zero, List.set_cons_succ]
                          refine wpAnyH_ready (rs := [7]) (by kernel_rfl) (by simp) ?_
                          refine AllReadyH.cons (o := ⟨_, _, _, _, _, _⟩) rfl (fun K9 hK9 => ?_) AllReadyH.nil
                          go_simp
                          (with_reducible refine (HFI.out).mono ?_)
                          rintro e u2 ⟨i1, rfl, hp1, bb2⟩
                          have EU := Lib.hid (ED.out.trans (bb2.mono ED.out.size))
                          have HPI := Lib.hid hp1
                          clear bb2 hp1
                          go_wp2_with fail
                          refine hK9.out _ _ (HSX.out _ EU.out) (fun hHeld => ?_)
                          clear hK9 K9
                          try simp only [Act.put, List.setIfInBounds_toArray, List.set_cons_zero, List.set_cons_succ]
                          refine wpAnyH_take (i := 8) (oi := ⟨_, _, _, _, _, _⟩) (v := ?_) rfl (by kernel_rfl) (by kernel_rfl) (by kernel_rfl) (fun _ _ _ h => h) (Or.inl ⟨by rfl, ?_⟩) (by assumption) ?_
                          rotate_left
                          · intro w' hSw; (try dsimp only at hSw); go_simp; (try with_reducible rfl)
                          try simp only [Act.put, List.setIfInBounds_toArray, List.set_cons_zero, List.set_cons_succ]
                          refine wpAnyH_done (by kernel_rfl) ?_ _
                          clear hHeld
                          have SLU := Lib.hid (SL.out.below EU.out)
                          have HBU : Hid (u2.heap[bA]? = some (.cells #[.int .i64 4, .int .i64 fa, .int .i64 x1, .int .i64 x2, .slice xA x3.length xc] 62 (0, 0))) := Lib.hid ((EU.out.block bA (Array.getElem?_eq_some_iff.1 HBW.out).1).trans HBW.out)
                          by_cases hy : ((x1, x2, x3) : Wy) ∈ s.1.2.2.map (·.1)
                          · obtain ⟨pre, post, ep, hnp, rfl⟩ : ∃ pre post, s.1.2.2.map (·.1) = pre ++ (x1, x2, x3) :: post ∧ (x1, x2, x3) ∉ pre ∧ i1 = (pre.length : Int) := by
                              rcases HPI.out with ⟨_, h⟩ | h
                              · exact absurd hy h
                              · exact h
                            have HCUT := Lib.hid (cut_at ep HND.out hnp)
                            have HQ := Lib.hid (fun (n : Nat) (h : n = (noW (x1, x2, x3) (s.1.2.2.map (·.1))).length) => goneQ_at (b0 := s.1.2.1) hy h)
                            generalize pre.length = x at *
                            have hxl : x < s.1.2.2.length := HCUT.out.2
                            have hxI : ¬ (x : Int) < 0 := by omega
                            have hx0 : (0 : Int) ≤ (x : Int) := by omega
                            have hx1 : (0 : Int) ≤ (x : Int) + 1 := by omega
                            obtain ⟨B, c2, hS, hB0, hrows⟩ := cut_from (f := whyc) (m := 3) s.2.1 s.2.2 (x + 1) s.1.2.2.length HSA.out
                            have HCS := Lib.hid hS
                            have HB0 := Lib.hid hB0
                            have hsc : s.1.2.2.length ≤ s.2.2 := hcap
                            have hxc : (x : Int) ≤ (s.2.2 : Int) := by omega
                            have hxw : IntKind.i64.wrap ((x : Int) + 1) = (x : Int) + 1 := IntWalk.i64_in _ (by omega)
                            have HLU : Hid (RowsAt whyc 3 (fun _ => False) u2.drew s.2.1 s.1.2.2) := Lib.hid (HLS.out.below (EU.out.drew))
                            have E0 := Lib.hid (Below.refl u2.drew.heap.size u2.drew)
                            have HS36 : Hid (∀ w', Below u2.drew.heap.size u2.drew w' → (fun w' : World => w'.cell? ⟨(rd.add (j * 3)).block, (rd.add (j * 3)).off + 2, none⟩ = some (.slice s.2.1 s.1.2.2.length s.2.2)) w') := Lib.hid (fun w' hb => (HSX.out w' (EU.out.drew.trans (hb.mono EU.out.size))).2.2.2)
                            clear ep hnp hy hS hB0 HPI HFI HSX HLS SL HBW
                            go_wp2_with fail
                            refine LW.wp_region_last (S := (fun w' : World => w'.cell? ⟨(rd.add (j * 3)).block, (rd.add (j * 3)).off + 2, none⟩ = some (.slice s.2.1 s.1.2.2.length s.2.2))) 22 (by kernel_rfl) (HS36.out _ E0.out) (fun hHeld => ?_)
                            refine LW.wpAnyL_take (i := 0) (oi := ⟨_, _, _, _, _, _⟩) (v := ?_) rfl (by kernel_rfl) (by kernel_rfl) (by kernel_rfl) (by kernel_rfl) (fun _ _ _ h => h) (Or.inl ⟨by rfl, ?_⟩) (by assumption) ?_
                            rotate_left
                            · intro w' hSw; (try dsimp only at hSw); go_simp; (try with_reducible rfl)
                            try simp only [Act.put, List.setIfInBounds_toArray, List.set_cons_zero, List.set_cons_succ]
                            refine LW.wpAnyL_take (i := 1) (oi := ⟨_, _, _, _, _, _⟩) (v := ?_) rfl (by kernel_rfl) (by kernel_rfl) (by kernel_rfl) (by kernel_rfl) (fun _ _ _ h => h) (Or.inl ⟨by rfl, ?_⟩) (by assumption) ?_
                            rotate_left
                            · intro w' hSw; (try dsimp only at hSw); go_simp; (try with_reducible rfl)
                            try simp only [Act.put, List.setIfInBounds_toArray, List.set_cons_zero, List.set_cons_succ]
                            refine LW.wpAnyL_take (i := 3) (oi := ⟨_, _, _, _, _, _⟩) (v := ?_) rfl (by kernel_rfl) (by kernel_rfl) (by kernel_rfl) (by kernel_rfl) (fun _ _ _ h => h) (Or.inl ⟨by rfl, ?_⟩) (by assumption) ?_
                            rotate_left
                            · intro w' hSw; (try dsimp only at hSw); go_simp; (try with_reducible rfl)
                            try simp only [Act.put, List.setIfInBounds_toArray, List.set_cons_zero, List.set_cons_succ]
                            refine LW.wpAnyL_take (i := 4) (oi := ⟨_, _, _, _, _, _⟩) (v := ?_) rfl (by kernel_rfl) (by kernel_rfl) (by kernel_rfl) (by kernel_rfl) (fun _ _ _ h => h) (Or.inl ⟨by rfl, ?_⟩) (by assumption) ?_
                            rotate_left
                            · intro w' hSw; (try dsimp only at hSw); go_simp; (try with_reducible rfl)
                            try simp only [Act.put, List.setIfInBounds_toArray, List.set_cons_zero, List.set_cons_succ]
                            refine LW.wpAnyL_take (i := 5) (oi := ⟨_, _, _, _, _, _⟩) (v := ?_) rfl (by kernel_rfl) (by kernel_rfl) (by kernel_rfl) (by kernel_rfl) (fun _ _ _ h => h) (Or.inl ⟨by rfl, ?_⟩) (by assumption) ?_
                            rotate_left
                            · intro w' hSw; (try dsimp only at hSw); go_simp; (try with_reducible rfl)
                            try simp only [Act.put, List.setIfInBounds_toArray, List.set_cons_zero, List.set_cons_succ]
                            refine LW.wpAnyL_take (i := 6) (oi := ⟨_, _, _, _, _, _⟩) (v := ?_) rfl (by kernel_rfl) (by kernel_rfl) (by kernel_rfl) (by kernel_rfl) (fun _ _ _ h => h) (Or.inl ⟨by rfl, ?_⟩) (by assumption) ?_
                            rotate_left
                            · intro w' hSw; (try dsimp only at hSw); go_simp; (try with_reducible rfl)
                            try simp only [Act.put, List.setIfInBounds_toArray, List.set_cons_zero, List.set_cons_succ]
                            refine LW.wpAnyL_take (i := 7) (oi := ⟨_, _, _, _, _, _⟩) (v := ?_) rfl (by kernel_rfl) (by kernel_rfl) (by kernel_rfl) (by kernel_rfl) (fun _ _ _ h => h) (Or.inl ⟨by rfl, ?_⟩) (by assumption) ?_
                            rotate_left
                            · intro w' hSw; (try dsimp only at hSw); go_simp; (try with_reducible rfl)
                            try simp only [Act.put, List.setIfInBounds_toArray, List.set_cons_zero, List.set_cons_succ]
                            refine LW.wpAnyL_take (i := 8) (oi := ⟨_, _, _, _, _, _⟩) (v := ?_) rfl (by kernel_rfl) (by kernel_rfl) (by kernel_rfl) (by kernel_rfl) (fun _ _ _ h => h) (Or.inl ⟨by rfl, ?_⟩) (by assumption) ?_
                            rotate_left
                            · intro w' hSw; (try dsimp only at hSw); go_simp; (try with_reducible rfl)
                            try simp only [Act.put, List.setIfInBounds_toArray, List.set_cons_zero, List.set_cons_succ]
                            refine LW.wpAnyL_take (i := 9) (oi := ⟨_, _, _, _, _, _⟩) (v := ?_) rfl (by kernel_rfl) (by kernel_rfl) (by kernel_rfl) (by kernel_rfl) (fun _ _ _ h => h) (Or.inl ⟨by rfl, ?_⟩) (by assumption) ?_
                            rotate_left
                            · intro w' hSw; (try dsimp only at hSw); go_simp; (try with_reducible rfl)
                            try simp only [Act.put, List.setIfInBounds_toArray, List.set_cons_zero, List.set_cons_succ]
                            refine LW.wpAnyL_take (i := 11) (oi := ⟨_, _, _, _, _, _⟩) (v := ?_) rfl (by kernel_rfl) (by kernel_rfl) (by kernel_rfl) (by kernel_rfl) (fun _ _ _ h => h) (Or.inl ⟨by rfl, ?_⟩) (by assumption) ?_
                            rotate_left
                            · intro w' hSw; (try dsimp only at hSw); go_simp; (try with_reducible rfl)
                            try simp only [Act.put, List.setIfInBounds_toArray, List.set_cons_zero, List.set_cons_succ]
                            refine LW.wpAnyL_take (i := 12) (oi := ⟨_, _, _, _, _, _⟩) (v := ?_) rfl (by kernel_rfl) (by kernel_rfl) (by kernel_rfl) (by kernel_rfl) (fun _ _ _ h => h) (Or.inl ⟨by rfl, ?_⟩) (by assumption) ?_
                            rotate_left
                            · intro w' hSw; (try dsimp only at hSw); go_simp; (try with_reducible rfl)
                            try simp only [Act.put, List.setIfInBounds_toArray, List.set_cons_zero, List.set_cons_succ]
                            refine LW.wpAnyL_take (i := 13) (oi := ⟨_, _, _, _, _, _⟩) (v := ?_) rfl (by kernel_rfl) (by kernel_rfl) (by kernel_rfl) (by kernel_rfl) (fun _ _ _ h => h) (Or.inl ⟨by rfl, ?_⟩) (by assumption) ?_
                            rotate_left
                            · intro w' hSw; (try dsimp only at hSw); go_simp; (try with_reducible rfl)
                            try simp only [Act.put, List.setIfInBounds_toArray, List.set_cons_zero, List.set_cons_succ]
                            refine LW.wpAnyL_take (i := 14) (oi := ⟨_, _, _, _, _, _⟩) (v := ?_) rfl (by kernel_rfl) (by kernel_rfl) (by kernel_rfl) (by kernel_rfl) (fun _ _ _ h => h) (Or.inl ⟨by rfl, ?_⟩) (by assumption) ?_
                            rotate_left
                            · intro w' hSw; (try dsimp only at hSw); go_simp; (try with_reducible rfl)
                            try simp only [Act.put, List.setIfInBounds_toArray, List.set_cons_zero, List.set_cons_succ]
                            refine LW.wpAnyL_take (i := 15) (oi := ⟨_, _, _, _, _, _⟩) (v := ?_) rfl (by kernel_rfl) (by kernel_rfl) (by kernel_rfl) (by kernel_rfl) (fun _ _ _ h => h) (Or.inl ⟨by rfl, ?_⟩) (by assumption) ?_
                            rotate_left
                            · intro w' hSw; (try dsimp only at hSw); go_simp; (try with_reducible rfl)
                            try simp only [Act.put, List.setIfInBounds_toArray, List.set_cons_zero, List.set_cons_succ]
                            refine LW.wpAnyL_take (i := 16) (oi := ⟨_, _, _, _, _, _⟩) (v := ?_) rfl (by kernel_rfl) (by kernel_rfl) (by kernel_rfl) (by kernel_rfl) (fun _ _ _ h => h) (Or.inl ⟨by rfl, ?_⟩) (by assumption) ?_
                            rotate_left
                            · intro w' hSw; (try dsimp only at hSw); go_simp; (try with_reducible rfl)
                            try simp only [Act.put, List.setIfInBounds_toArray, List.set_cons_zero, List.set_cons_succ]
                            refine LW.wpAnyL_take (i := 17) (oi := ⟨_, _, _, _, _, _⟩) (v := ?_) rfl (by kernel_rfl) (by kernel_rfl) (by kernel_rfl) (by kernel_rfl) (fun _ _ _ h => h) (Or.inl ⟨by rfl, ?_⟩) (by assumption) ?_
                            rotate_left
                            · intro w' hSw; (try dsimp only at hSw); go_simp; (try with_reducible rfl)
                            try simp only [Act.put, List.setIfInBounds_toArray, List.set_cons_zero, List.set_cons_succ]
                            refine LW.wpAnyL_take (i := 18) (oi := ⟨_, _, _, _, _, _⟩) (v := .slice B (s.1.2.2.length - (x + 1)) c2) rfl (by kernel_rfl) (by kernel_rfl) (by kernel_rfl) (by kernel_rfl) (fun _ _ _ h => h) (Or.inl ⟨by rfl, fun w' _ => exec_from (.tmp 155) (.tmp 157) 46 rfl i0W 3 Try.underlying46 hiW hz1W s.2.1 s.1.2.2.length s.2.2 (x + 1) ((x : Int) + 1) (by omega) rfl rfl hxl _ HCS.out⟩) (by assumption) ?_
                            try simp only [Act.put, List.setIfInBounds_toArray, List.set_cons_zero, List.set_cons_succ]
                            refine LW.wpAnyL_ready (rs := [2]) (by kernel_rfl) (by simp) ?_
                            refine LW.AllReadyL.cons (o := ⟨_, _, _, _, _, _⟩) rfl (fun K9 hK9 => ?_) LW.AllReadyL.nil
                            refine step_build0 rfl 46 rfl 50 i0W 3 _ Try.underlying46 hiW (Nat.le_refl _) ?_
                            intro va p1 ho hb
                            have E1b := Lib.hid (E0.out.trans (hb.mono E0.out.size))
                            have OA := Lib.hid (ho.mono E0.out.size)
                            clear ho hb
                            refine hK9.out _ _ (HS36.out _ E1b.out) (fun hHeld => ?_)
                            clear hK9 K9
                            try simp only [Act.put, List.setIfInBounds_toArray, List.set_cons_zero, List.set_cons_succ]
                            refine LW.wpAnyL_ready (rs := [10]) (by kernel_rfl) (by simp) ?_
                            refine LW.AllReadyL.cons (o := ⟨_, _, _, _, _, _⟩) rfl (fun K9 hK9 => ?_) LW.AllReadyL.nil
                            refine step_append_ownN (f := whyc) whyc_len whyc_flat (by decide) rfl (.tmp 142) (.tmp 149) 46 rfl u2.drew.heap.size 50 i0W zW 40 Try.underlying46 hiW hz0W hz1W hz2W rfl va 0 [] rfl OA.out s.2.1 s.2.2 (s.1.2.2.take x) (x) (by rw [List.length_take]; omega) HSA.out (rows_take (HLU.out.below E1b.out) x) rfl (by unfold maxLen; omega) (by omega) E1b.out.size ?_
                            intro v2 p2 ho hg _
                            have E2b := Lib.hid (E1b.out.grown hg E1b.out.size (fun q hq => (OA.out.lt hq).1))
                            have O2 := Lib.hid ho
                            clear ho hg
                            refine hK9.out _ _ (HS36.out _ E2b.out) (fun hHeld => ?_)
                            clear hK9 K9
                            try simp only [Act.put, List.setIfInBounds_toArray, List.set_cons_zero, List.set_cons_succ]
                            refine LW.wpAnyL_ready (rs := [19]) (by kernel_rfl) (by simp) ?_
                            refine LW.AllReadyL.cons (o := ⟨_, _, _, _, _, _⟩) rfl (fun K9 hK9 => ?_) LW.AllReadyL.nil
                            refine step_append_ownN (f := whyc) whyc_len whyc_flat (by decide) rfl (.tmp 150) (.tmp 158) 46 rfl u2.drew.heap.size 50 i0W zW 40 Try.underlying46 hiW hz0W hz1W hz2W rfl v2 (0 + x) ([] ++ (s.1.2.2.take x)) rfl O2.out B c2 (s.1.2.2.drop (x + 1)) (s.1.2.2.length - (x + 1)) (by rw [List.length_drop]) HB0.out (hrows _ _ s.1.2.2 (HLU.out.below E2b.out) hsc hxl) rfl (by unfold maxLen; omega) (by omega) E2b.out.size ?_
                            intro v9 w9 ho hg _
                            have EZ := Lib.hid (E2b.out.grown hg E2b.out.size (fun q hq => (O2.out.lt hq).1))
                            have OZ := Lib.hid ho
                            clear ho hg
                            refine hK9.out _ _ (HS36.out _ EZ.out) (fun hHeld => ?_)
                            clear hK9 K9
                            try simp only [Act.put, List.setIfInBounds_toArray, List.set_cons_zero, List.set_cons_succ]
                            refine LW.wpAnyL_ready (rs := [20]) (by kernel_rfl) (by simp) ?_
                            refine LW.AllReadyL.cons (o := ⟨_, _, _, _, _, _⟩) rfl (fun K9 hK9 => ?_) LW.AllReadyL.nil
                            go_simp
                            refine hK9.out _ _ (HS36.out _ EZ.out) (fun hHeld => ?_)
                            clear hK9 K9
                            try simp only [Act.put, List.setIfInBounds_toArray, List.set_cons_zero, List.set_cons_succ]
                            refine LW.wpAnyL_take (i := 21) (oi := ⟨_, _, _, _, _, _⟩) (v := ?_) rfl (by kernel_rfl) (by kernel_rfl) (by kernel_rfl) (by kernel_rfl) (fun _ _ _ h => h) (Or.inl ⟨by rfl, ?_⟩) (by assumption) ?_
                            rotate_left
                            · intro w' hSw; (try dsimp only at hSw); go_simp; (try with_reducible rfl)
                            try simp only [Act.put, List.setIfInBounds_toArray, List.set_cons_zero, List.set_cons_succ]
                            have hn9 : (s.1.2.2.take x ++ s.1.2.2.drop (x + 1)).length = 0 + x + (s.1.2.2.length - (x + 1)) := by rw [List.length_append, List.length_take, List.length_drop]; omega
                            obtain ⟨n9, en9⟩ : ∃ n9, n9 = 0 + x + (s.1.2.2.length - (x + 1)) := ⟨_, rfl⟩
                            have OZ2 := OZ.out
                            rw [← en9] at OZ2 hn9
                            obtain ⟨A9, c9, ev9, -, -, -, -⟩ := OwnW.rows (l := s.1.2.2.take x ++ s.1.2.2.drop (x + 1)) (N := fun _ => False) whyc_len (by decide) OZ2 (fun _ _ h => h)
                            rw [hn9] at ev9
                            subst ev9
                            have SLU2 := SLU.out
                            rw [← hRk] at SLU2
                            obtain ⟨q1, kr9, cs9, hg9, hk9⟩ := SLU2.cut hlt3 HES.out hn9 HCUT.out.1 (fun z hz => (List.mem_append.1 hz).elim List.mem_of_mem_take List.mem_of_mem_drop) ((Below.refl _ u2).drew.trans EZ.out) OZ2 (Nat.le_refl _)
                            refine LW.wpAnyL_ready (rs := [22]) (by kernel_rfl) (by simp) ?_
                            refine LW.AllReadyL.fin (o := ⟨_, _, _, _, _, _⟩) rfl (fun K9 hK9 => ?_)
                            refine LW.step_store1 rfl 46 (.tmp 161) (.tmp 159) rfl (rd.add (j * 3)).block ((rd.add (j * 3)).off + 2) (.slice A9 n9 c9) _ _ rfl rfl hg9 hk9 (by kernel_rfl) rfl ?_
                            refine hK9.out _ _ ?_
                            clear hK9 K9
                            try simp only [Act.put]
                            refine LW.wpAnyL_done (by kernel_rfl) ?_ _
                            clear hHeld
                            have hbn := (kr9.block bA (by have := (Array.getElem?_eq_some_iff.1 HBU.out).1; have h2 := EZ.out.size; exact Nat.lt_of_lt_of_le this h2) (fun e => NVB.out bA (by rw [hRk] at e; exact e) rfl)).trans ((EZ.out.block bA (Array.getElem?_eq_some_iff.1 HBU.out).1).trans HBU.out)
                            obtain ⟨R2, hR2⟩ : ∃ R2, R2 = Rk.set j ((s.1.1, s.1.2.1, s.1.2.2.take x ++ s.1.2.2.drop (x + 1)), A9, c9) := ⟨_, rfl⟩
                            have hl2 : R2.length = R.length := by rw [hR2, List.length_set, hRk]
                            have hlt4 : j < R2.length := by omega
                            have hget : R2[j] = ((s.1.1, s.1.2.1, s.1.2.2.take x ++ s.1.2.2.drop (x + 1)), A9, c9) := by
                              subst hR2
                              rw [List.getElem_set_self]
                            rw [← hR2, hl2] at q1
                            obtain ⟨wn, hwn⟩ : ∃ wn, wn = w9.setCell ⟨(rd.add (j * 3)).block, (rd.add (j * 3)).off + 2, none⟩ (.slice A9 n9 c9) := ⟨_, rfl⟩
                            rw [← hwn] at q1 hbn ⊢
                            have hrw2 : RowsAt standc 3 (fun _ => False) wn (some rd) R2 := by
                              obtain ⟨A', c', ev, hr, _, _⟩ := q1.row.row
                              injection ev with ev1 _ ev2
                              rw [ev1]; exact hr
                            obtain ⟨rd', erd, -, d0, d1, d2⟩ := sts_at hrw2 hlt4
                            injection erd with erd
                            subst erd
                            rw [hget] at d0 d1 d2
                            dsimp only at d0 d1 d2
                            have hn9b := hn9
                            rw [Sf.sl] at d2
                            dsimp only at d2
                            rw [hn9] at d2
                            have hng : n9 = (noW (x1, x2, x3) (s.1.2.2.map (·.1))).length := by
                              rw [← HCUT.out.1, List.length_map, hn9]
                            have HG : Hid (goneQ (x1, x2, x3) (some P[j].2) = !(s.1.2.1 || decide (0 < n9))) := Lib.hid (by rw [HPE.out]; exact HQ.out n9 hng)
                            have HF0 : Hid (P[j].1 = s.1.1) := Lib.hid (by rw [HPE.out])
                            have SC := Lib.hid q1
                            have NB := Lib.hid hbn
                            have hn9l : n9 ≤ 80 := by omega
                            have HGF : Hid (∀ gl, gl = ((P.take j).filter fun p => goneQ (x1, x2, x3) (some p.2)).map (·.1) → OwnI wn w1.heap.size gv gl ∧ gl.length ≤ j) := Lib.hid (fun gl e => by rw [e]; exact ⟨SC.out.gone, gone_len P _ j⟩)
                            obtain ⟨gl, egl⟩ : ∃ gl, gl = ((P.take j).filter fun p => goneQ (x1, x2, x3) (some p.2)).map (·.1) := ⟨_, rfl⟩
                            obtain ⟨hog, hgl⟩ := HGF.out gl egl
                            have HOG := Lib.hid hog
                            have HEG := Lib.hid egl
                            have HWN : Hid (w1.heap.size ≤ wn.heap.size) := Lib.hid SC.out.tab.2.2
                            have NL := hl2
                            clear hbn q1 hR2 hget hrw2 hwn hng hog egl HGF hn9 hn9b en9 OZ OZ2 EZ kr9 hg9 hk9 O2 OA E2b E1b HQ HCUT HPE SLU2 SLU HBU HND HLU HS36 HCS hrows E0 EU ED
                            generalize s.1.1 = f0 at *
                            generalize s.1.2.1 = b0 at *
                            cases b0 with
                            | true =>
                              have NX := Lib.hid (SC.out.stay hP2 (by rw [HG.out]; rfl))
                              clear HG SC HOG HEG d0 d2
                              go_wp2_with fail
                              go_roundw
                              case rel => exact ⟨j + 1, _, _, by omega, by go_num, rfl, NL, NX, NB⟩
                              case measure => first | (simp [RowKit.intOf]; done) | (simp [RowKit.intOf]; omega)
                            | false =>
                              by_cases hz : n9 = 0
                              · subst hz
                                have hgT : goneQ (x1, x2, x3) (some P[j].2) = true := by rw [HG.out]; rfl
                                have HGT := Lib.hid hgT
                                have O7 := Lib.hid (OwnW.below HOG.out ((Below.refl wn.heap.size wn).alloc (Nat.le_refl _) (.cells #[.int .i64 f0] 3)))
                                have N7 := Lib.hid (append_new (W := wn) (x := f0))
                                have E7 := Lib.hid ((Below.refl wn.heap.size wn).alloc (Nat.le_refl _) (.cells #[.int .i64 f0] 3))
                                have HB7 : Hid (w1.heap.size ≤ (wn.alloc (.cells #[.int .i64 f0] 3)).heap.size) := Lib.hid (Nat.le_trans HWN.out E7.out.size)
                                have NB7 : Hid ((wn.alloc (.cells #[.int .i64 f0] 3)).heap[bA]? = some (.cells #[.int .i64 4, .int .i64 fa, .int .i64 x1, .int .i64 x2, .slice xA x3.length xc] 62 (0, 0))) := Lib.hid ((E7.out.block bA (Array.getElem?_eq_some_iff.1 NB.out).1).trans NB.out)
                                clear hgT HG NB
                                go_wp2_with (at_builtin; (refine wpList_append_ownW (f := intc) intc_len intc_flat (by decide) rfl (.tmp 177) (.tmp 183) 35 rfl w1.heap.size 3 i0 zI 8 Try.underlying35 hi hz0 hz1 hz2 rfl gv gl.length gl rfl O7.out (some ⟨wn.heap.size, 0, none⟩) 1 [f0] (fun h => by cases h) N7.out rfl (by unfold maxLen; simp; omega) (by simp; omega) HB7.out ?_))
                                intro v8 w8 ho8 hg8 hv8
                                have O8 : OwnI w8 w1.heap.size v8 (gl ++ [f0]) := by
                                  show OwnW w8 _ _ _ v8 (gl ++ [f0]).length _
                                  rw [List.length_append, List.flatMap_append, List.flatMap_singleton]
                                  exact ho8
                                rw [HEG.out, ← HF0.out] at O8
                                have NX := Lib.hid (SC.out.goes hP2 HGT.out E7.out O8 hg8 (by simpa using hv8))
                                have k8 : Keep (fun q => gv.ownBlock = some q) (wn.alloc (.cells #[.int .i64 f0] 3)) w8 := (Keep.refl _ _).grown hg8 (fun q hq => .inl hq)
                                have NB := Lib.hid ((k8.block bA (Array.getElem?_eq_some_iff.1 NB7.out).1 (fun e => OwnW.ne O7.out NB7.out (by decide) e)).trans NB7.out)
                                clear ho8 hg8 hv8 O8 k8 SC HOG HEG HGT O7 N7 E7 d0 d1 d2 NB7
                                go_wp2_with fail
                                go_roundw
                                case rel => exact ⟨j + 1, _, _, by omega, by go_num, rfl, NL, NX, NB⟩
                                case measure => first | (simp [RowKit.intOf]; done) | (simp [RowKit.intOf]; omega)
                              · have NX := Lib.hid (SC.out.stay hP2 (by rw [HG.out, decide_eq_true (by omega)]; rfl))
                                have hzI : ¬ (n9 : Int) = 0 := by omega
                                clear HG SC HOG HEG d0
                                go_wp2_with fail
                                go_roundw
                                case rel => exact ⟨j + 1, _, _, by omega, by go_num, rfl, NL, NX, NB⟩
                                case measure => first | (simp [RowKit.intOf]; done) | (simp [RowKit.intOf]; omega)
                          · have NX := Lib.hid (SLU.out.skip hlt3 HES.out hy)
                            have hi1 : i1 = -1 := pos_no HPI.out hy
                            subst hi1
                            have NL := hRk
                            have NB := HBU
                            clear HPI HFI HSX HLS SL HBW hy SLU
                            go_wp2_with fail
                            go_roundw
                            case rel => exact ⟨j + 1, _, _, by omega, by go_num, rfl, NL, NX, NB⟩
                            case measure => first | (simp [RowKit.intOf]; done) | (simp [RowKit.intOf]; omega)
                        · obtain rfl : j = R.length := by omega
                          have hPl := Lib.hid (show R.length = P.length by rw [← SL.out.len, hRk])
                          have HLO := Lib.hid (lose_t SL.out.tab ((x1, x2, x3), xA, xc) (HA.out _ SL.out.tab.below _ HOKY.out).1 ((HA.out _ SL.out.tab.below _ HOKY.out).2.mono (fun q hq => (SL.out.tab.lt q hq).1)))
                          have hlen : (((P.take R.length).filter fun p => goneQ (x1, x2, x3) (some p.2)).map (·.1)).length ≤ 80 := Nat.le_trans (gone_len P _ _) hRl
                          have HKE := Lib.hid SL.out.good.keys
                          clear hrw hlt2
                          go_wp2_with fail
                          refine HLO.out.mono ?_
                          rintro e w4 ⟨v3, rfl, o3, t4, k4⟩
                          have SN0 := Lib.hid (SL.out.done hPl.out t4 k4)
                          have og := OwnW.keep SL.out.gone k4 SL.out.gF
                          have egr : ((P.take R.length).filter fun p => goneQ (x1, x2, x3) (some p.2)).map (·.1) = goneR P (x1, x2, x3) := by
                            rw [hPl.out, List.take_length]; rfl
                          rw [egr] at og hlen
                          obtain ⟨GA, gc, evg, rg, -, -⟩ := OwnI.row og
                          subst evg
                          obtain ⟨A3, c3, ev3, r3, -, -⟩ := OwnI.row o3
                          subst ev3
                          have R3 := Lib.hid r3
                          have HRI := Lib.hid (rising_c GA gc (goneR P (x1, x2, x3)) w4 rg (by omega))
                          clear o3 t4 k4 og egr rg r3 HLO SL cX cY cS
                          go_wp2_with fail
                          refine HRI.out.mono ?_
                          rintro e w5 ⟨v5, r, rfl, hri⟩
                          obtain ⟨A5, c5, ev5, r5, -, -⟩ := OwnI.row hri.own
                          subst ev5
                          have hp : r.Perm (goneR P (x1, x2, x3)) := by have := hri.perm; rwa [List.take_length] at this
                          have hlo : lost P (x1, x2, x3) = r := gone_lost HKE.out _ hp hri.sort
                          have hrl : r.length ≤ 80 := by rw [hp.length_eq]; exact hlen
                          have HCM := Lib.hid (cmp_c A3 c3 (lost P (x1, x2, x3)) A5 c5 r w5 (R3.out.below hri.below) r5 (by rw [hlo]; omega) (by omega))
                          have HQ0 : ∀ q : Int, (q == 0) = decide (lost P (x1, x2, x3) = r) → (q != 0) = false := fun q h => by rw [decide_eq_true hlo] at h; simpa using h
                          have SN1 := Lib.hid (SN0.out.below hri.below)
                          clear hri hp hlo r5 HRI R3 SN0
                          go_wp2_with fail
                          refine HCM.out.mono ?_
                          rintro e w6 ⟨q, rfl, hq, b6⟩
                          have hq0 : (q != 0) = false := HQ0 q hq
                          have SN := Lib.hid (SN1.out.below b6)
                          clear hq b6 SN1 HCM HQ0
                          go_wp2_with fail
                          go_meet
                          exact ⟨_, _, _, _, _, rfl, SN⟩
                  · have e4 : (op == 4) = false := by simp [h4]
                    clear h4
                    go_upto_block 2 with (fail)
                    go_cut [4] (fun v wx => ∃ (F' : Nat → Prop) (P' : Pl) (C' : List Wy) (vo' : Value) (R2 : List Sf), vo' = v ∧ Hid (Sq w1 g l (i + 1) F' P' C' vo' R2 wx))
                    case rest =>
                      obtain ⟨F', P', C', vo', R2, rfl, SN⟩ := hcut
                      obtain ⟨A', c', ev, -, -, -⟩ := SN.out.row.row
                      subst ev
                      clear cO cF cX cY cS
                      have HTE := Lib.hid (SN.out.tell (by omega) (fun x hx => (HA.out _ SN.out.tab.below x hx).1))
                      go_wp2_with fail
                      refine HTE.out.mono ?_
                      rintro e w9 ⟨rfl, b9⟩
                      have SN9 := Lib.hid (SN.out.below b9)
                      clear b9 HTE SN
                      go_wp2_with fail
                      go_roundw
                      case rel => exact ⟨i + 1, _, _, _, _, _, by omega, by go_num, rfl, SN9⟩
                      case measure => first | (simp [RowKit.intOf]; done) | (simp [RowKit.intOf]; omega)
                    case first =>
                      have SN := Lib.hid SB.out.more
                      go_wp2_with fail
                      go_meet
                      exact ⟨_, _, _, _, _, rfl, SN⟩
    · have HB := Lib.hid (E1.out.trans (HP.out.tab.below.mono E1.out.size))
      obtain rfl : i = l.length := by omega
      go_wp2_with fail
      go_ret
      exact ⟨rfl, HB.out⟩
end Go.Proofs.Ytonflknnlfffhaa
