/- The reference's numbers: what folds, a row of its own. -/
import Derived.Test.YtmadnehipagakaaGreatDoorRe
import Derived.Laws.AppendOwnNone
import Derived.Test.YtmadnehipagakaaGreatDoorLv
namespace Go.Proofs.YtmadnehipagakaaGreatDoor
open Go.RowKit Go.Lib Go.Sort KP
set_option maxRecDepth 100000 in
set_option maxHeartbeats 8000000 in
theorem rown_sub (A : Option Addr) (c : Nat) (l : List Vl) (w : World) (hv : ValsAt w A l) (hl : l.length ≤ 1000000) (hall : ∀ k (h : k < l.length), l[k].1 = 1) (hok : ∀ k (h : k < l.length), okI l[k].2.1) (h1 : l.length = 1) :
    Calls Tryz.prog 57 #[.string ⟨#[45]⟩, .slice A l.length c] w fun e w' => e = .returned (outW (foldO subO 0 (nums l))) ∧ Below w.heap.size w w' := by
  have h0 : Hid (Below w.heap.size w (w.alloc (.cells #[.int .i64 0, .int .i64 0, .string ⟨#[]⟩] 26))) := Lib.hid ((Below.refl _ _).alloc (Nat.le_refl _) _)
  have V := Lib.hid (fun W (h : Below w.heap.size w W) => hv.below h)
  have AL := Lib.hid hall
  have AL2 := AL
  clear hv hall
  obtain ⟨n, hn⟩ : ∃ n, n = nums l := ⟨_, rfl⟩
  have hnl : n.length = l.length := by rw [hn]; unfold nums; simp
  rw [← hn]
  have MK : Hid (∀ k (h : k < (0 :: n).length), okI (0 :: n)[k]) := Lib.hid (fun k h => by
    cases k with
    | zero => show okI 0; unfold okI; omega
    | succ k => subst hn; simp [nums]; exact hok k (by simpa [nums] using h))
  obtain ⟨R, hR⟩ : ∃ R, R = foldO subO 0 n := ⟨_, rfl⟩
  rw [← hR]
  have HR : Hid (foldO subO 0 ((0 :: n).drop 1) = R) := Lib.hid hR.symm
  have HX0 : Hid (okI 0) := Lib.hid (by unfold okI; omega)
  have HNL := Lib.hid hnl
  have HN1 := Lib.hid h1
  clear h1
  obtain ⟨i32, hi, hz0, hz1, hz2⟩ := info_parts infoV
  clear hR hok
  have hlI : (l.length : Int) ≤ 1000000 := by omega
  go_enter Tryz.func57, Tryz.ntmps57
  go_wp2_with fail
  go_loopw [6] (fun i wr => ∃ k : Nat, k ≤ l.length ∧ i = .int .i64 k ∧ wr = w.alloc (.cells #[.int .i64 0, .int .i64 0, .string ⟨#[]⟩] 26)) (fun i _ => l.length - (intOf i).toNat)
  case atStart => exact ⟨0, by omega, rfl, rfl⟩
  case round =>
    obtain ⟨k, hk, rfl, rfl⟩ := hrel
    by_cases hlt : k < l.length
    · have hltI : (k : Int) < (l.length : Int) := by omega
      obtain ⟨ad, rfl, c0, c1, c2⟩ := (V.out _ h0.out).at hlt
      have h1 := AL.out k hlt
      generalize l[k] = v at *
      obtain ⟨a, b, s2⟩ := v
      dsimp only at c0 c1 c2 h1
      subst h1
      go_wp2_with fail
      exact ⟨⟨k + 1, by omega, by go_num, by first | rfl | trivial⟩, by simp [intOf]; omega⟩
    · obtain rfl : k = l.length := by omega
      obtain ⟨wz, hwz⟩ : ∃ wz, wz = w.alloc (.cells #[.int .i64 0, .int .i64 0, .string ⟨#[]⟩] 26) := ⟨_, rfl⟩
      have HZ : Hid (wz.heap[w.heap.size]? = some (.cells #[.int .i64 0, .int .i64 0, .string ⟨#[]⟩] 26)) := Lib.hid (by rw [hwz]; exact heap_alloc_new w _)
      rw [← hwz] at h0 ⊢
      have hlz := Lib.hid (show w.heap.size < wz.heap.size by rw [hwz]; simp)
      clear AL hwz hlt hk
      obtain ⟨v, rfl⟩ : ∃ v, l = [v] := by
        have := HN1.out
        match l, this with
        | [v], _ => exact ⟨v, rfl⟩
      obtain ⟨v1, x0, s0⟩ := v
      obtain rfl : v1 = 1 := AL2.out 0 (by simp)
      have HNL : Hid (n.length = 1) := Lib.hid (by rw [hn]; rfl)
      obtain ⟨ad, rfl, hcc⟩ := (V.out _ h0.out) 0 (by simp)
      have HS : Hid (∀ W : World, Below wz.heap.size wz W → (fun W : World => Below wz.heap.size wz W ∧ W.cell? ad = some (.int .i64 1) ∧ W.cell? ⟨ad.block, ad.off + 1, none⟩ = some (.int .i64 x0) ∧ W.cell? ⟨ad.block, ad.off + 2, none⟩ = some (.string s0)) W) := Lib.hid (fun W h => by
        obtain ⟨ad', e, d0, d1, d2⟩ := (V.out W (h0.out.trans (h.mono h0.out.size))).at (k := 0) (by simp)
        injection e with e
        subst e
        refine ⟨h, ?_, ?_, ?_⟩
        · simpa [Addr.add] using d0
        · simpa [Addr.add] using d1
        · simpa [Addr.add] using d2)
      have EZ := Lib.hid (Below.refl wz.heap.size wz)
      obtain ⟨_, d0, d1, d2⟩ := HS.out _ EZ.out
      clear hcc
      go_wp2_with fail
      refine wp_region_held_drew (S := (fun W : World => Below wz.heap.size wz W ∧ W.cell? ad = some (.int .i64 1) ∧ W.cell? ⟨ad.block, ad.off + 1, none⟩ = some (.int .i64 x0) ∧ W.cell? ⟨ad.block, ad.off + 2, none⟩ = some (.string s0))) (by kernel_rfl) (HS.out _ (belN EZ.out 1)) (fun hHeld => ?_)
      refine wpAnyH_take (i := 1) (oi := ⟨_, _, _, _, _, _⟩) (v := ?_) rfl (by kernel_rfl) (by kernel_rfl) (by kernel_rfl) (fun _ _ _ h => h) (Or.inl ⟨by rfl, ?_⟩) (by assumption) ?_
      rotate_left
      · intro w' hSw; (try dsimp only at hSw); go_simp; (try with_reducible rfl)
      try simp only [Act.put, List.setIfInBounds_toArray, List.set_cons_zero, List.set_cons_succ]
      refine wpAnyH_take (i := 2) (oi := ⟨_, _, _, _, _, _⟩) (v := ?_) rfl (by kernel_rfl) (by kernel_rfl) (by kernel_rfl) (fun _ _ _ h => h) (Or.inl ⟨by rfl, ?_⟩) (by assumption) ?_
      rotate_left
      · intro w' hSw; (try dsimp only at hSw); go_simp; (try with_reducible rfl)
      try simp only [Act.put, List.setIfInBounds_toArray, List.set_cons_zero, List.set_cons_succ]
      refine wpAnyH_take (i := 3) (oi := ⟨_, _, _, _, _, _⟩) (v := ?_) rfl (by kernel_rfl) (by kernel_rfl) (by kernel_rfl) (fun _ _ _ h => h) (Or.inl ⟨by rfl, ?_⟩) (by assumption) ?_
      rotate_left
      · intro w' hSw; (try dsimp only at hSw); go_simp; (try with_reducible rfl)
      try simp only [Act.put, List.setIfInBounds_toArray, List.set_cons_zero, List.set_cons_succ]
      refine wpAnyH_ready (rs := [0]) (by kernel_rfl) (by simp) ?_
      refine AllReadyH.cons (o := ⟨_, _, _, _, _, _⟩) rfl (fun K9 hK9 => ?_) AllReadyH.nil
      go_simp
      (with_reducible refine ((rInt_c 0 _)).mono ?_)
      rintro e w3 ⟨rfl, b3⟩
      have B3 := Lib.hid (hHeld.1.trans (b3.mono hHeld.1.size))
      clear b3
      go_wp2_with fail
      refine hK9.out _ _ (HS.out _ B3.out) (fun hHeld => ?_)
      clear hK9 K9
      try simp only [Act.put, List.setIfInBounds_toArray, List.set_cons_zero, List.set_cons_succ]
      refine wpAnyH_ready (rs := [4]) (by kernel_rfl) (by simp) ?_
      refine AllReadyH.cons (o := ⟨_, _, _, _, _, _⟩) rfl (fun K9 hK9 => ?_) AllReadyH.nil
      go_simp
      refine hK9.out _ _ (HS.out _ (B3.out.alloc B3.out.size (.cells #[.int .i64 1, .int .i64 0, .string ⟨#[]⟩, .int .i64 1, .int .i64 x0, .string s0] 26))) (fun hHeld => ?_)
      clear hK9 K9
      try simp only [Act.put, List.setIfInBounds_toArray, List.set_cons_zero, List.set_cons_succ]
      refine wpAnyH_take (i := 5) (oi := ⟨_, _, _, _, _, _⟩) (v := ?_) rfl (by kernel_rfl) (by kernel_rfl) (by kernel_rfl) (fun _ _ _ h => h) (Or.inl ⟨by rfl, ?_⟩) (by assumption) ?_
      rotate_left
      · intro w' hSw; (try dsimp only at hSw); go_simp; (try with_reducible rfl)
      try simp only [Act.put, List.setIfInBounds_toArray, List.set_cons_zero, List.set_cons_succ]
      refine wpAnyH_done (by kernel_rfl) ?_ _
      have hO5 : Hid ((w3.alloc (.cells #[.int .i64 1, .int .i64 0, .string ⟨#[]⟩, .int .i64 1, .int .i64 x0, .string s0] 26)).ownsRow wz.heap.size 26 3 (.slice (some ⟨w3.heap.size, 0, none⟩) 2 2) 2 (valsC (vI 0 :: [((1 : Int), x0, s0)]))) := Lib.hid ⟨rfl, .inr ⟨w3.heap.size, 2, _, rfl, B3.out.size, heap_alloc_new w3 _, Nat.le_refl _, by unfold maxLen; omega, rfl, rfl⟩⟩
      have hB5 := Lib.hid (B3.out.alloc B3.out.size (.cells #[.int .i64 1, .int .i64 0, .string ⟨#[]⟩, .int .i64 1, .int .i64 x0, .string s0] 26))
      clear hHeld d0 d1 d2
      generalize w3.alloc (.cells #[.int .i64 1, .int .i64 0, .string ⟨#[]⟩, .int .i64 1, .int .i64 x0, .string s0] 26) = wp at *
      have EWp := Lib.hid (h0.out.trans (hB5.out.mono h0.out.size))
      obtain ⟨hln, ho⟩ := vals_owns hO5.out
      rcases ho with ⟨h, _⟩ | ⟨g, cp, cur, hev, hg, hBg, hcp, hcur⟩
      · exact absurd h (by omega)
      obtain ⟨rfl, rfl⟩ : g = w3.heap.size ∧ cp = 2 := by
        injection hev with e1 e2 e3
        injection e1 with e1
        injection e1 with e1
        exact ⟨e1.symm, e3.symm⟩
      have hgb : w3.heap.size < wp.heap.size := (Array.getElem?_eq_some_iff.1 hg).1
      have CM : Hid (∀ W, Below wp.heap.size wp W → ∀ k (h : k < (0 :: n).length), W.cell? ⟨w3.heap.size, k * 3 + 1, none⟩ = some (.int .i64 (0 :: n)[k])) := Lib.hid (fun W h k hk => by
        have hk2 : k < (vI 0 :: [((1 : Int), x0, s0)]).length := by have := HNL.out; simp at hk ⊢; omega
        refine (own_row ((h.block w3.heap.size hgb).trans hg) hcur hk2).trans ?_
        cases k with
        | zero => rfl
        | succ k => first | (exfalso; have := HNL.out; simp at hk; omega) | (subst hn; simp [nums]; done))
      have hc0 : wp.cell? ⟨w3.heap.size, 1, none⟩ = some (.int .i64 0) := by
        have := CM.out _ (Below.refl _ _) 0 (by simp)
        simpa using this
      have HM : Hid ((0 :: n).length = 2) := Lib.hid (by have := HNL.out; rw [List.length_cons, this])
      have hl1 : (1 : Int) ≤ (2 : Int) := by omega
      clear hln hBg hcp hg hcur hgb B3 V hn HS AL2
      go_wp2_with fail
      go_loopw [9, 10] (fun v i wr => ∃ (k : Nat) (x : Int), 1 ≤ k ∧ k ≤ 2 ∧ i = .int .i64 k ∧ v = .int .i64 x ∧ Hid (okI x) ∧ Hid (foldO subO x ((0 :: n).drop k) = R) ∧ Hid (Below wp.heap.size wp wr)) (fun _ i _ => 2 - (intOf i).toNat)
      case atStart => exact ⟨1, 0, by omega, by omega, rfl, rfl, HX0, HR, Lib.hid (Below.refl _ _)⟩
      case round =>
        obtain ⟨k, x, hk1, hk, rfl, rfl, hx, hF, hB⟩ := hrel
        have EB := Lib.hid (hB5.out.trans (hB.out.mono hB5.out.size))
        obtain ⟨⟨_, _, _⟩, ⟨_, _, _⟩⟩ := new3g HZ.out EB.out
        have E10 := Lib.hid (h0.out.trans (EB.out.mono h0.out.size))
        by_cases hlt : k < 2
        · have hltI : (k : Int) < ((2 : Nat) : Int) := by omega
          have hlt2 : k < (0 :: n).length := by have := HM.out; omega
          have c1 := CM.out _ hB.out k hlt2
          have hF2 := Lib.hid ((foldO_drop hlt2).symm.trans hF.out)
          have hoy := Lib.hid (MK.out k hlt2)
          obtain ⟨y, hy⟩ : ∃ y, y = (0 :: n)[k] := ⟨_, rfl⟩
          rw [← hy] at c1 hF2 hoy
          clear hy hF
          have hC := Lib.hid (fun W => two_sub x y W hx.out hoy.out)
          cases ho : subO x y with
          | none =>
            have hC2 := Lib.hid (fun W => numV_no (hC.out W) ho)
            have hRn : Hid (R = none) := Lib.hid (by have := hF2.out; rw [ho] at this; exact this.symm)
            clear hC hF2 ho
            go_wp2_with fail
            refine (hC2.out _).mono ?_
            rintro e w' ⟨rfl, rfl⟩
            go_wp2_with fail
            exact bodyPost_ret (v := .tuple #[Vl.val v0, .int .i64 11]) (by simp [results, Tryz.results57, go_sem, *]) rfl ⟨out_none hRn.out, put3 E10.out⟩
          | some z =>
            have hC2 := Lib.hid (fun W => numV_yes (hC.out W) ho)
            have hF3 : Hid (foldO subO z ((0 :: n).drop (k + 1)) = R) := Lib.hid (by have := hF2.out; rw [ho] at this; exact this)
            have hz := Lib.hid (subO_ok2 hx.out hoy.out ho)
            clear hC hF2 ho
            go_wp2_with fail
            refine (hC2.out _).mono ?_
            rintro e w' ⟨rfl, rfl⟩
            go_wp2_with fail
            exact ⟨⟨k + 1, z, by omega, by omega, by go_num, rfl, hz, hF3, hB⟩, by simp [intOf]; omega⟩
        · obtain rfl : k = 2 := by omega
          have hRs : Hid (R = some x) := Lib.hid (by have := hF.out; rw [List.drop_of_length_le (by have := HM.out; omega)] at this; exact this.symm)
          clear hF
          go_wp2_with fail
          refine (rInt_c x _).mono ?_
          rintro e w9 ⟨rfl, b9⟩
          have E11 := Lib.hid (EB.out.trans (b9.mono EB.out.size))
          obtain ⟨⟨_, _, _⟩, ⟨_, _, _⟩⟩ := new3g HZ.out E11.out
          have E12 := Lib.hid (h0.out.trans (E11.out.mono h0.out.size))
          clear b9
          go_wp2_with fail
          exact bodyPost_ret (v := .tuple #[Vl.val (vI x), .int .i64 0]) (by simp [results, Tryz.results57, go_sem, *]) rfl ⟨out_some hRs.out, put3 E12.out⟩
set_option maxRecDepth 100000 in
set_option maxHeartbeats 8000000 in
theorem rown_abs (A : Option Addr) (c : Nat) (l : List Vl) (w : World) (hv : ValsAt w A l) (hl : l.length ≤ 1000000) (hall : ∀ k (h : k < l.length), l[k].1 = 1) (hok : ∀ k (h : k < l.length), okI l[k].2.1) (h1 : l.length = 1) (hneg : ∀ k (h : k < l.length), l[k].2.1 < 0) :
    Calls Tryz.prog 57 #[.string ⟨#[97, 98, 115]⟩, .slice A l.length c] w fun e w' => e = .returned (outW (foldO subO 0 (nums l))) ∧ Below w.heap.size w w' := by
  have h0 : Hid (Below w.heap.size w (w.alloc (.cells #[.int .i64 0, .int .i64 0, .string ⟨#[]⟩] 26))) := Lib.hid ((Below.refl _ _).alloc (Nat.le_refl _) _)
  have V := Lib.hid (fun W (h : Below w.heap.size w W) => hv.below h)
  have AL := Lib.hid hall
  have AL2 := AL
  clear hv hall
  obtain ⟨n, hn⟩ : ∃ n, n = nums l := ⟨_, rfl⟩
  have hnl : n.length = l.length := by rw [hn]; unfold nums; simp
  rw [← hn]
  have MK : Hid (∀ k (h : k < (0 :: n).length), okI (0 :: n)[k]) := Lib.hid (fun k h => by
    cases k with
    | zero => show okI 0; unfold okI; omega
    | succ k => subst hn; simp [nums]; exact hok k (by simpa [nums] using h))
  obtain ⟨R, hR⟩ : ∃ R, R = foldO subO 0 n := ⟨_, rfl⟩
  rw [← hR]
  have HR : Hid (foldO subO 0 ((0 :: n).drop 1) = R) := Lib.hid hR.symm
  have HX0 : Hid (okI 0) := Lib.hid (by unfold okI; omega)
  have HNL := Lib.hid hnl
  have HN1 := Lib.hid h1
  clear h1
  have HNG := Lib.hid hneg
  clear hneg
  obtain ⟨i32, hi, hz0, hz1, hz2⟩ := info_parts infoV
  clear hR hok
  have hlI : (l.length : Int) ≤ 1000000 := by omega
  go_enter Tryz.func57, Tryz.ntmps57
  go_wp2_with fail
  go_loopw [6] (fun i wr => ∃ k : Nat, k ≤ l.length ∧ i = .int .i64 k ∧ wr = w.alloc (.cells #[.int .i64 0, .int .i64 0, .string ⟨#[]⟩] 26)) (fun i _ => l.length - (intOf i).toNat)
  case atStart => exact ⟨0, by omega, rfl, rfl⟩
  case round =>
    obtain ⟨k, hk, rfl, rfl⟩ := hrel
    by_cases hlt : k < l.length
    · have hltI : (k : Int) < (l.length : Int) := by omega
      obtain ⟨ad, rfl, c0, c1, c2⟩ := (V.out _ h0.out).at hlt
      have h1 := AL.out k hlt
      generalize l[k] = v at *
      obtain ⟨a, b, s2⟩ := v
      dsimp only at c0 c1 c2 h1
      subst h1
      go_wp2_with fail
      exact ⟨⟨k + 1, by omega, by go_num, by first | rfl | trivial⟩, by simp [intOf]; omega⟩
    · obtain rfl : k = l.length := by omega
      obtain ⟨wz, hwz⟩ : ∃ wz, wz = w.alloc (.cells #[.int .i64 0, .int .i64 0, .string ⟨#[]⟩] 26) := ⟨_, rfl⟩
      have HZ : Hid (wz.heap[w.heap.size]? = some (.cells #[.int .i64 0, .int .i64 0, .string ⟨#[]⟩] 26)) := Lib.hid (by rw [hwz]; exact heap_alloc_new w _)
      rw [← hwz] at h0 ⊢
      have hlz := Lib.hid (show w.heap.size < wz.heap.size by rw [hwz]; simp)
      clear AL hwz hlt hk
      obtain ⟨v, rfl⟩ : ∃ v, l = [v] := by
        have := HN1.out
        match l, this with
        | [v], _ => exact ⟨v, rfl⟩
      obtain ⟨v1, x0, s0⟩ := v
      obtain rfl : v1 = 1 := AL2.out 0 (by simp)
      have HNL : Hid (n.length = 1) := Lib.hid (by rw [hn]; rfl)
      obtain ⟨ad, rfl, hcc⟩ := (V.out _ h0.out) 0 (by simp)
      have HS : Hid (∀ W : World, Below wz.heap.size wz W → (fun W : World => Below wz.heap.size wz W ∧ W.cell? ad = some (.int .i64 1) ∧ W.cell? ⟨ad.block, ad.off + 1, none⟩ = some (.int .i64 x0) ∧ W.cell? ⟨ad.block, ad.off + 2, none⟩ = some (.string s0)) W) := Lib.hid (fun W h => by
        obtain ⟨ad', e, d0, d1, d2⟩ := (V.out W (h0.out.trans (h.mono h0.out.size))).at (k := 0) (by simp)
        injection e with e
        subst e
        refine ⟨h, ?_, ?_, ?_⟩
        · simpa [Addr.add] using d0
        · simpa [Addr.add] using d1
        · simpa [Addr.add] using d2)
      have EZ := Lib.hid (Below.refl wz.heap.size wz)
      obtain ⟨_, d0, d1, d2⟩ := HS.out _ EZ.out
      have hng : x0 < 0 := HNG.out 0 (by simp)
      clear hcc
      go_wp2_with fail
      refine wp_region_held_drew (S := (fun W : World => Below wz.heap.size wz W ∧ W.cell? ad = some (.int .i64 1) ∧ W.cell? ⟨ad.block, ad.off + 1, none⟩ = some (.int .i64 x0) ∧ W.cell? ⟨ad.block, ad.off + 2, none⟩ = some (.string s0))) (by kernel_rfl) (HS.out _ (belN EZ.out 1)) (fun hHeld => ?_)
      refine wpAnyH_take (i := 1) (oi := ⟨_, _, _, _, _, _⟩) (v := ?_) rfl (by kernel_rfl) (by kernel_rfl) (by kernel_rfl) (fun _ _ _ h => h) (Or.inl ⟨by rfl, ?_⟩) (by assumption) ?_
      rotate_left
      · intro w' hSw; (try dsimp only at hSw); go_simp; (try with_reducible rfl)
      try simp only [Act.put, List.setIfInBounds_toArray, List.set_cons_zero, List.set_cons_succ]
      refine wpAnyH_take (i := 2) (oi := ⟨_, _, _, _, _, _⟩) (v := ?_) rfl (by kernel_rfl) (by kernel_rfl) (by kernel_rfl) (fun _ _ _ h => h) (Or.inl ⟨by rfl, ?_⟩) (by assumption) ?_
      rotate_left
      · intro w' hSw; (try dsimp only at hSw); go_simp; (try with_reducible rfl)
      try simp only [Act.put, List.setIfInBounds_toArray, List.set_cons_zero, List.set_cons_succ]
      refine wpAnyH_take (i := 3) (oi := ⟨_, _, _, _, _, _⟩) (v := ?_) rfl (by kernel_rfl) (by kernel_rfl) (by kernel_rfl) (fun _ _ _ h => h) (Or.inl ⟨by rfl, ?_⟩) (by assumption) ?_
      rotate_left
      · intro w' hSw; (try dsimp only at hSw); go_simp; (try with_reducible rfl)
      try simp only [Act.put, List.setIfInBounds_toArray, List.set_cons_zero, List.set_cons_succ]
      refine wpAnyH_ready (rs := [0]) (by kernel_rfl) (by simp) ?_
      refine AllReadyH.cons (o := ⟨_, _, _, _, _, _⟩) rfl (fun K9 hK9 => ?_) AllReadyH.nil
      go_simp
      (with_reducible refine ((rInt_c 0 _)).mono ?_)
      rintro e w3 ⟨rfl, b3⟩
      have B3 := Lib.hid (hHeld.1.trans (b3.mono hHeld.1.size))
      clear b3
      go_wp2_with fail
      refine hK9.out _ _ (HS.out _ B3.out) (fun hHeld => ?_)
      clear hK9 K9
      try simp only [Act.put, List.setIfInBounds_toArray, List.set_cons_zero, List.set_cons_succ]
      refine wpAnyH_ready (rs := [4]) (by kernel_rfl) (by simp) ?_
      refine AllReadyH.cons (o := ⟨_, _, _, _, _, _⟩) rfl (fun K9 hK9 => ?_) AllReadyH.nil
      go_simp
      refine hK9.out _ _ (HS.out _ (B3.out.alloc B3.out.size (.cells #[.int .i64 1, .int .i64 0, .string ⟨#[]⟩, .int .i64 1, .int .i64 x0, .string s0] 26))) (fun hHeld => ?_)
      clear hK9 K9
      try simp only [Act.put, List.setIfInBounds_toArray, List.set_cons_zero, List.set_cons_succ]
      refine wpAnyH_take (i := 5) (oi := ⟨_, _, _, _, _, _⟩) (v := ?_) rfl (by kernel_rfl) (by kernel_rfl) (by kernel_rfl) (fun _ _ _ h => h) (Or.inl ⟨by rfl, ?_⟩) (by assumption) ?_
      rotate_left
      · intro w' hSw; (try dsimp only at hSw); go_simp; (try with_reducible rfl)
      try simp only [Act.put, List.setIfInBounds_toArray, List.set_cons_zero, List.set_cons_succ]
      refine wpAnyH_done (by kernel_rfl) ?_ _
      have hO5 : Hid ((w3.alloc (.cells #[.int .i64 1, .int .i64 0, .string ⟨#[]⟩, .int .i64 1, .int .i64 x0, .string s0] 26)).ownsRow wz.heap.size 26 3 (.slice (some ⟨w3.heap.size, 0, none⟩) 2 2) 2 (valsC (vI 0 :: [((1 : Int), x0, s0)]))) := Lib.hid ⟨rfl, .inr ⟨w3.heap.size, 2, _, rfl, B3.out.size, heap_alloc_new w3 _, Nat.le_refl _, by unfold maxLen; omega, rfl, rfl⟩⟩
      have hB5 := Lib.hid (B3.out.alloc B3.out.size (.cells #[.int .i64 1, .int .i64 0, .string ⟨#[]⟩, .int .i64 1, .int .i64 x0, .string s0] 26))
      clear hHeld d0 d1 d2
      generalize w3.alloc (.cells #[.int .i64 1, .int .i64 0, .string ⟨#[]⟩, .int .i64 1, .int .i64 x0, .string s0] 26) = wp at *
      have EWp := Lib.hid (h0.out.trans (hB5.out.mono h0.out.size))
      obtain ⟨hln, ho⟩ := vals_owns hO5.out
      rcases ho with ⟨h, _⟩ | ⟨g, cp, cur, hev, hg, hBg, hcp, hcur⟩
      · exact absurd h (by omega)
      obtain ⟨rfl, rfl⟩ : g = w3.heap.size ∧ cp = 2 := by
        injection hev with e1 e2 e3
        injection e1 with e1
        injection e1 with e1
        exact ⟨e1.symm, e3.symm⟩
      have hgb : w3.heap.size < wp.heap.size := (Array.getElem?_eq_some_iff.1 hg).1
      have CM : Hid (∀ W, Below wp.heap.size wp W → ∀ k (h : k < (0 :: n).length), W.cell? ⟨w3.heap.size, k * 3 + 1, none⟩ = some (.int .i64 (0 :: n)[k])) := Lib.hid (fun W h k hk => by
        have hk2 : k < (vI 0 :: [((1 : Int), x0, s0)]).length := by have := HNL.out; simp at hk ⊢; omega
        refine (own_row ((h.block w3.heap.size hgb).trans hg) hcur hk2).trans ?_
        cases k with
        | zero => rfl
        | succ k => first | (exfalso; have := HNL.out; simp at hk; omega) | (subst hn; simp [nums]; done))
      have hc0 : wp.cell? ⟨w3.heap.size, 1, none⟩ = some (.int .i64 0) := by
        have := CM.out _ (Below.refl _ _) 0 (by simp)
        simpa using this
      have HM : Hid ((0 :: n).length = 2) := Lib.hid (by have := HNL.out; rw [List.length_cons, this])
      have hl1 : (1 : Int) ≤ (2 : Int) := by omega
      clear hln hBg hcp hg hcur hgb B3 V hn HS AL2
      go_wp2_with fail
      go_loopw [9, 10] (fun v i wr => ∃ (k : Nat) (x : Int), 1 ≤ k ∧ k ≤ 2 ∧ i = .int .i64 k ∧ v = .int .i64 x ∧ Hid (okI x) ∧ Hid (foldO subO x ((0 :: n).drop k) = R) ∧ Hid (Below wp.heap.size wp wr)) (fun _ i _ => 2 - (intOf i).toNat)
      case atStart => exact ⟨1, 0, by omega, by omega, rfl, rfl, HX0, HR, Lib.hid (Below.refl _ _)⟩
      case round =>
        obtain ⟨k, x, hk1, hk, rfl, rfl, hx, hF, hB⟩ := hrel
        have EB := Lib.hid (hB5.out.trans (hB.out.mono hB5.out.size))
        obtain ⟨⟨_, _, _⟩, ⟨_, _, _⟩⟩ := new3g HZ.out EB.out
        have E10 := Lib.hid (h0.out.trans (EB.out.mono h0.out.size))
        by_cases hlt : k < 2
        · have hltI : (k : Int) < ((2 : Nat) : Int) := by omega
          have hlt2 : k < (0 :: n).length := by have := HM.out; omega
          have c1 := CM.out _ hB.out k hlt2
          have hF2 := Lib.hid ((foldO_drop hlt2).symm.trans hF.out)
          have hoy := Lib.hid (MK.out k hlt2)
          obtain ⟨y, hy⟩ : ∃ y, y = (0 :: n)[k] := ⟨_, rfl⟩
          rw [← hy] at c1 hF2 hoy
          clear hy hF
          have hC := Lib.hid (fun W => two_abs x y W hx.out hoy.out)
          cases ho : subO x y with
          | none =>
            have hC2 := Lib.hid (fun W => numV_no (hC.out W) ho)
            have hRn : Hid (R = none) := Lib.hid (by have := hF2.out; rw [ho] at this; exact this.symm)
            clear hC hF2 ho
            go_wp2_with fail
            refine (hC2.out _).mono ?_
            rintro e w' ⟨rfl, rfl⟩
            go_wp2_with fail
            exact bodyPost_ret (v := .tuple #[Vl.val v0, .int .i64 11]) (by simp [results, Tryz.results57, go_sem, *]) rfl ⟨out_none hRn.out, put3 E10.out⟩
          | some z =>
            have hC2 := Lib.hid (fun W => numV_yes (hC.out W) ho)
            have hF3 : Hid (foldO subO z ((0 :: n).drop (k + 1)) = R) := Lib.hid (by have := hF2.out; rw [ho] at this; exact this)
            have hz := Lib.hid (subO_ok2 hx.out hoy.out ho)
            clear hC hF2 ho
            go_wp2_with fail
            refine (hC2.out _).mono ?_
            rintro e w' ⟨rfl, rfl⟩
            go_wp2_with fail
            exact ⟨⟨k + 1, z, by omega, by omega, by go_num, rfl, hz, hF3, hB⟩, by simp [intOf]; omega⟩
        · obtain rfl : k = 2 := by omega
          have hRs : Hid (R = some x) := Lib.hid (by have := hF.out; rw [List.drop_of_length_le (by have := HM.out; omega)] at this; exact this.symm)
          clear hF
          go_wp2_with fail
          refine (rInt_c x _).mono ?_
          rintro e w9 ⟨rfl, b9⟩
          have E11 := Lib.hid (EB.out.trans (b9.mono EB.out.size))
          obtain ⟨⟨_, _, _⟩, ⟨_, _, _⟩⟩ := new3g HZ.out E11.out
          have E12 := Lib.hid (h0.out.trans (E11.out.mono h0.out.size))
          clear b9
          go_wp2_with fail
          exact bodyPost_ret (v := .tuple #[Vl.val (vI x), .int .i64 0]) (by simp [results, Tryz.results57, go_sem, *]) rfl ⟨out_some hRs.out, put3 E12.out⟩
end Go.Proofs.YtmadnehipagakaaGreatDoor
