/- The reference's numbers: what folds, a row of its own. -/
import Derived.Test.YtmadnehipagakaaGreatDoorRd
import Derived.Laws.AppendOwnNone
import Derived.Test.YtmadnehipagakaaGreatDoorLv
namespace Go.Proofs.YtmadnehipagakaaGreatDoor
open Go.RowKit Go.Lib Go.Sort KP
theorem valsC_flat : ∀ (l : List Vl), ∀ u ∈ valsC l, u.oneCell' = true
  | [], u, h => by cases h
  | v :: l, u, h => by
    have h2 : u ∈ v3 v ++ valsC l := h
    rcases List.mem_append.1 h2 with h | h
    · exact v3_flat v u h
    · exact valsC_flat l u h
theorem vals_cells {W : World} {ad : Addr} {l : List Vl} (h : ValsAt W (some ad) l) : ∀ j u, (valsC l)[j]? = some u → W.cell? (ad.add j) = some u := by
  intro j u hu
  have hj : j < l.length * 3 := by
    have := (List.getElem?_eq_some_iff.1 hu).1
    rwa [valsC_len] at this
  have hk : j / 3 < l.length := by omega
  obtain ⟨ad', e, hc⟩ := h (j / 3) hk
  injection e with e
  subst e
  have hr : j % 3 < 3 := Nat.mod_lt _ (by omega)
  obtain ⟨v, hv⟩ : ∃ v, l[j / 3].cs[j % 3]? = some v := by
    generalize j % 3 = r at hr
    match r, hr with
    | 0, _ => exact ⟨_, rfl⟩
    | 1, _ => exact ⟨_, rfl⟩
    | 2, _ => exact ⟨_, rfl⟩
  have h1 := valsC_at l (j / 3) hk (j % 3) v hv
  rw [show j / 3 * 3 + j % 3 = j by omega] at h1
  have huv : u = v := Option.some.inj (hu.symm.trans h1)
  subst huv
  have h2 := hc (j % 3) u hv
  have e2 : (ad.add (j / 3 * 3)).add (j % 3) = ad.add j := by
    have : j = j / 3 * 3 + j % 3 := by omega
    generalize j / 3 * 3 = p at *
    generalize j % 3 = r at *
    subst this
    simp [Addr.add]
    split <;> split <;> simp_all <;> omega
  rwa [e2] at h2
theorem owns_v3 (W : World) (v : Vl) (B : Nat) (hB : B ≤ W.heap.size) : (W.alloc (.cells #[.int .i64 v.1, .int .i64 v.2.1, .string v.2.2] 26)).ownsRow B 26 3 (.slice (some ⟨W.heap.size, 0, none⟩) 1 1) 1 (v3 v) :=
  ⟨rfl, .inr ⟨W.heap.size, 1, _, rfl, hB, heap_alloc_new W _, Nat.le_refl _, by unfold maxLen; omega, rfl, rfl⟩⟩
theorem own_row {W : World} {g n : Nat} {cur : Array Value} {l : List Vl} {T : TypeId} {fr : Nat × Nat} (hg : W.heap[g]? = some (.cells cur T fr)) (hc : cur.toList.take (n * 3) = valsC l) {k : Nat} (hk : k < l.length) : W.cell? ⟨g, k * 3 + 1, none⟩ = some (.int .i64 l[k].2.1) := by
  have h1 := (valsC_get hk).2.1
  rw [← hc, List.getElem?_take] at h1
  split at h1
  · exact block_cell hg (by simpa using h1)
  · cases h1
set_option maxRecDepth 100000 in
set_option maxHeartbeats 8000000 in
theorem rown_add (A : Option Addr) (c : Nat) (l : List Vl) (w : World) (hv : ValsAt w A l) (hl : l.length ≤ 1000000) (hall : ∀ k (h : k < l.length), l[k].1 = 1) (hok : ∀ k (h : k < l.length), okI l[k].2.1) (hA : A = none → c = 0) :
    Calls Tryz.prog 57 #[.string ⟨#[43]⟩, .slice A l.length c] w fun e w' => e = .returned (outW (foldO addO 0 (nums l))) ∧ Below w.heap.size w w' := by
  have h0 : Hid (Below w.heap.size w (w.alloc (.cells #[.int .i64 0, .int .i64 0, .string ⟨#[]⟩] 26))) := Lib.hid ((Below.refl _ _).alloc (Nat.le_refl _) _)
  have V := Lib.hid (fun W (h : Below w.heap.size w W) => hv.below h)
  have AL := Lib.hid hall
  clear hv hall
  obtain ⟨n, hn⟩ : ∃ n, n = nums l := ⟨_, rfl⟩
  have hnl : n.length = l.length := by rw [hn]; unfold nums; simp
  rw [← hn]
  have MK : Hid (∀ k (h : k < (0 :: n).length), okI (0 :: n)[k]) := Lib.hid (fun k h => by
    cases k with
    | zero => show okI 0; unfold okI; omega
    | succ k => subst hn; simp [nums]; exact hok k (by simpa [nums] using h))
  obtain ⟨R, hR⟩ : ∃ R, R = foldO addO 0 n := ⟨_, rfl⟩
  rw [← hR]
  have HR : Hid (foldO addO 0 ((0 :: n).drop 1) = R) := Lib.hid hR.symm
  have HX0 : Hid (okI 0) := Lib.hid (by unfold okI; omega)
  have HNL := Lib.hid hnl
  have HA := Lib.hid hA
  clear hA
  obtain ⟨i32, hi, hz0, hz1, hz2⟩ := info_parts infoV
  clear hR hok
  have hlI : (l.length : Int) ≤ 1000000 := by omega
  go_enter Tryz.func57, Tryz.ntmps57
  go_wp2_with fail
  go_loopw [6] (fun i wr => ∃ k : Nat, k ≤ l.length ∧ i = .int .i64 k ∧ wr = w.alloc (.cells #[.int .i64 0, .int .i64 0, .string ⟨#[]⟩] 26)) (fun i _ => l.length - (intOf i).toNat)
  case atStart => exact ⟨0, by omega, rfl, rfl⟩
  case round =>
    obtain ⟨k, hk, rfl, rfl⟩ := hrel
    by_cases hlt : k < l.length
    · have hltI : (k : Int) < (l.length : Int) := by omega
      obtain ⟨ad, rfl, c0, c1, c2⟩ := (V.out _ h0.out).at hlt
      have h1 := AL.out k hlt
      generalize l[k] = v at *
      obtain ⟨a, b, s2⟩ := v
      dsimp only at c0 c1 c2 h1
      subst h1
      go_wp2_with fail
      exact ⟨⟨k + 1, by omega, by go_num, by first | rfl | trivial⟩, by simp [intOf]; omega⟩
    · obtain rfl : k = l.length := by omega
      obtain ⟨wz, hwz⟩ : ∃ wz, wz = w.alloc (.cells #[.int .i64 0, .int .i64 0, .string ⟨#[]⟩] 26) := ⟨_, rfl⟩
      have HZ : Hid (wz.heap[w.heap.size]? = some (.cells #[.int .i64 0, .int .i64 0, .string ⟨#[]⟩] 26)) := Lib.hid (by rw [hwz]; exact heap_alloc_new w _)
      rw [← hwz] at h0 ⊢
      have hlz := Lib.hid (show w.heap.size < wz.heap.size by rw [hwz]; simp)
      clear AL hwz hlt hk
      cases A with
      | none =>
        obtain rfl := HA.out rfl
        have hl0 : l = [] := by
          cases l with
          | nil => rfl
          | cons a l' => obtain ⟨ad, e, _⟩ := (V.out _ h0.out) 0 (by simp); cases e
        subst hl0
        have HNL : Hid (n.length = 0) := Lib.hid (by rw [hn]; rfl)
        go_wp2_with fail
        refine (rInt_c 0 _).mono ?_
        rintro e w3 ⟨rfl, b3⟩
        have B3 := Lib.hid b3; clear b3
        have O3 := Lib.hid (owns_v3 w3 (vI 0) wz.heap.size B3.out.size)
        have B4 := Lib.hid (B3.out.alloc B3.out.size (.cells #[.int .i64 1, .int .i64 0, .string ⟨#[]⟩] 26))
        go_wp2_with (at_builtin; refine wpList_append_own_none rfl (.tmp 83) (.tmp 84) 22 rfl wz.heap.size 26 i32 3 rfl hi _ 1 _ rfl O3.out rfl ?_)
        have hO5 : Hid ((w3.alloc (.cells #[.int .i64 1, .int .i64 0, .string ⟨#[]⟩] 26)).ownsRow wz.heap.size 26 3 (.slice (some ⟨w3.heap.size, 0, none⟩) 1 1) 1 (valsC (vI 0 :: []))) := O3
        have hB5 := B4
        generalize w3.alloc (.cells #[.int .i64 1, .int .i64 0, .string ⟨#[]⟩] 26) = wp at *
        have EWp := Lib.hid (h0.out.trans (hB5.out.mono h0.out.size))
        obtain ⟨hln, ho⟩ := vals_owns hO5.out
        rcases ho with ⟨h, _⟩ | ⟨g, cp, cur, hev, hg, hBg, hcp, hcur⟩
        · exact absurd h (by omega)
        obtain ⟨rfl, rfl⟩ : g = w3.heap.size ∧ cp = 1 := by
          injection hev with e1 e2 e3
          injection e1 with e1
          injection e1 with e1
          exact ⟨e1.symm, e3.symm⟩
        have hgb : w3.heap.size < wp.heap.size := (Array.getElem?_eq_some_iff.1 hg).1
        have CM : Hid (∀ W, Below wp.heap.size wp W → ∀ k (h : k < (0 :: n).length), W.cell? ⟨w3.heap.size, k * 3 + 1, none⟩ = some (.int .i64 (0 :: n)[k])) := Lib.hid (fun W h k hk => by
          have hk2 : k < (vI 0 :: ([] : List Vl)).length := by have := HNL.out; simp at hk ⊢; omega
          refine (own_row ((h.block w3.heap.size hgb).trans hg) hcur hk2).trans ?_
          cases k with
          | zero => rfl
          | succ k => first | (exfalso; have := HNL.out; simp at hk; omega) | (subst hn; simp [nums]; done))
        have hc0 : wp.cell? ⟨w3.heap.size, 1, none⟩ = some (.int .i64 0) := by
          have := CM.out _ (Below.refl _ _) 0 (by simp)
          simpa using this
        have HM : Hid ((0 :: n).length = 1) := Lib.hid (by have := HNL.out; rw [List.length_cons]; omega)
        have hl1 : (1 : Int) ≤ (1 : Int) := by omega
        clear hln hBg hcp hg hcur hgb O3 B4 B3 V hn
        go_wp2_with fail
        go_loopw [9, 10] (fun v i wr => ∃ (k : Nat) (x : Int), 1 ≤ k ∧ k ≤ 1 ∧ i = .int .i64 k ∧ v = .int .i64 x ∧ Hid (okI x) ∧ Hid (foldO addO x ((0 :: n).drop k) = R) ∧ Hid (Below wp.heap.size wp wr)) (fun _ i _ => 1 - (intOf i).toNat)
        case atStart => exact ⟨1, 0, by omega, by omega, rfl, rfl, HX0, HR, Lib.hid (Below.refl _ _)⟩
        case round =>
          obtain ⟨k, x, hk1, hk, rfl, rfl, hx, hF, hB⟩ := hrel
          have EB := Lib.hid (hB5.out.trans (hB.out.mono hB5.out.size))
          obtain ⟨⟨_, _, _⟩, ⟨_, _, _⟩⟩ := new3g HZ.out EB.out
          have E10 := Lib.hid (h0.out.trans (EB.out.mono h0.out.size))
          by_cases hlt : k < 1
          · omega
          · obtain rfl : k = 1 := by omega
            have hRs : Hid (R = some x) := Lib.hid (by have := hF.out; rw [List.drop_of_length_le (by have := HM.out; omega)] at this; exact this.symm)
            clear hF
            go_wp2_with fail
            refine (rInt_c x _).mono ?_
            rintro e w9 ⟨rfl, b9⟩
            have E11 := Lib.hid (EB.out.trans (b9.mono EB.out.size))
            obtain ⟨⟨_, _, _⟩, ⟨_, _, _⟩⟩ := new3g HZ.out E11.out
            have E12 := Lib.hid (h0.out.trans (E11.out.mono h0.out.size))
            clear b9
            go_wp2_with fail
            exact bodyPost_ret (v := .tuple #[Vl.val (vI x), .int .i64 0]) (by simp [results, Tryz.results57, go_sem, *]) rfl ⟨out_some hRs.out, put3 E12.out⟩
      | some ad =>
        go_wp2_with fail
        refine (rInt_c 0 _).mono ?_
        rintro e w3 ⟨rfl, b3⟩
        have B3 := Lib.hid b3; clear b3
        have O3 := Lib.hid (owns_v3 w3 (vI 0) wz.heap.size B3.out.size)
        have B4 := Lib.hid (B3.out.alloc B3.out.size (.cells #[.int .i64 1, .int .i64 0, .string ⟨#[]⟩] 26))
        have NW := Lib.hid (vals_cells (V.out _ (h0.out.trans (B4.out.mono h0.out.size))))
        have FL : Hid (∀ u ∈ valsC l, u.oneCell' = true) := Lib.hid (valsC_flat l)
        go_wp2_with (at_builtin; refine wpList_append_own _ rfl (.tmp 83) (.tmp 84) 22 rfl wz.heap.size 26 i32 zV 3 32 Tryz.underlying22 hi hz0 hz1 hz2 rfl (by decide) _ 1 _ rfl O3.out ad l.length c (valsC l) rfl (valsC_len l) NW.out FL.out (by unfold maxLen; omega) (by omega) B4.out.size ?_)
        intro wv wp hown hgr hnil
        have hO5 : Hid (wp.ownsRow wz.heap.size 26 3 wv (1 + l.length) (valsC (vI 0 :: l))) := Lib.hid hown
        have hB5 := Lib.hid (B4.out.grown hgr B4.out.size (fun q hq => (O3.out.lt q hq).1))
        clear hown hgr hnil NW FL
        have EWp := Lib.hid (h0.out.trans (hB5.out.mono h0.out.size))
        obtain ⟨hln, ho⟩ := vals_owns hO5.out
        rcases ho with ⟨h, _⟩ | ⟨g, cp, cur, rfl, hg, hBg, hcp, hcur⟩
        · exact absurd h (by omega)
        have hgb : g < wp.heap.size := (Array.getElem?_eq_some_iff.1 hg).1
        have CM : Hid (∀ W, Below wp.heap.size wp W → ∀ k (h : k < (0 :: n).length), W.cell? ⟨g, k * 3 + 1, none⟩ = some (.int .i64 (0 :: n)[k])) := Lib.hid (fun W h k hk => by
          have hk2 : k < (vI 0 :: l).length := by have := HNL.out; simp at hk ⊢; omega
          refine (own_row ((h.block g hgb).trans hg) hcur hk2).trans ?_
          cases k with
          | zero => rfl
          | succ k => first | (exfalso; have := HNL.out; simp at hk; omega) | (subst hn; simp [nums]; done))
        have hc0 : wp.cell? ⟨g, 1, none⟩ = some (.int .i64 0) := by
          have := CM.out _ (Below.refl _ _) 0 (by simp)
          simpa using this
        have HM : Hid ((0 :: n).length = (1 + l.length)) := Lib.hid (by have := HNL.out; rw [List.length_cons]; omega)
        have hl1 : (1 : Int) ≤ ((1 + l.length) : Int) := by omega
        clear hln hBg hcp hg hcur hgb O3 B4 B3 V hn
        go_wp2_with fail
        go_loopw [9, 10] (fun v i wr => ∃ (k : Nat) (x : Int), 1 ≤ k ∧ k ≤ (1 + l.length) ∧ i = .int .i64 k ∧ v = .int .i64 x ∧ Hid (okI x) ∧ Hid (foldO addO x ((0 :: n).drop k) = R) ∧ Hid (Below wp.heap.size wp wr)) (fun _ i _ => (1 + l.length) - (intOf i).toNat)
        case atStart => exact ⟨1, 0, by omega, by omega, rfl, rfl, HX0, HR, Lib.hid (Below.refl _ _)⟩
        case round =>
          obtain ⟨k, x, hk1, hk, rfl, rfl, hx, hF, hB⟩ := hrel
          have EB := Lib.hid (hB5.out.trans (hB.out.mono hB5.out.size))
          obtain ⟨⟨_, _, _⟩, ⟨_, _, _⟩⟩ := new3g HZ.out EB.out
          have E10 := Lib.hid (h0.out.trans (EB.out.mono h0.out.size))
          by_cases hlt : k < (1 + l.length)
          · have hltI : (k : Int) < (((1 + l.length) : Nat) : Int) := by omega
            have hlt2 : k < (0 :: n).length := by have := HM.out; omega
            have c1 := CM.out _ hB.out k hlt2
            have hF2 := Lib.hid ((foldO_drop hlt2).symm.trans hF.out)
            have hoy := Lib.hid (MK.out k hlt2)
            obtain ⟨y, hy⟩ : ∃ y, y = (0 :: n)[k] := ⟨_, rfl⟩
            rw [← hy] at c1 hF2 hoy
            clear hy hF
            have hC := Lib.hid (fun W => two_add x y W hx.out hoy.out)
            cases ho : addO x y with
            | none =>
              have hC2 := Lib.hid (fun W => numV_no (hC.out W) ho)
              have hRn : Hid (R = none) := Lib.hid (by have := hF2.out; rw [ho] at this; exact this.symm)
              clear hC hF2 ho
              go_wp2_with fail
              refine (hC2.out _).mono ?_
              rintro e w' ⟨rfl, rfl⟩
              go_wp2_with fail
              exact bodyPost_ret (v := .tuple #[Vl.val v0, .int .i64 11]) (by simp [results, Tryz.results57, go_sem, *]) rfl ⟨out_none hRn.out, put3 E10.out⟩
            | some z =>
              have hC2 := Lib.hid (fun W => numV_yes (hC.out W) ho)
              have hF3 : Hid (foldO addO z ((0 :: n).drop (k + 1)) = R) := Lib.hid (by have := hF2.out; rw [ho] at this; exact this)
              have hz := Lib.hid (addO_ok2 hx.out hoy.out ho)
              clear hC hF2 ho
              go_wp2_with fail
              refine (hC2.out _).mono ?_
              rintro e w' ⟨rfl, rfl⟩
              go_wp2_with fail
              exact ⟨⟨k + 1, z, by omega, by omega, by go_num, rfl, hz, hF3, hB⟩, by simp [intOf]; omega⟩
          · obtain rfl : k = (1 + l.length) := by omega
            have hRs : Hid (R = some x) := Lib.hid (by have := hF.out; rw [List.drop_of_length_le (by have := HM.out; omega)] at this; exact this.symm)
            clear hF
            go_wp2_with fail
            refine (rInt_c x _).mono ?_
            rintro e w9 ⟨rfl, b9⟩
            have E11 := Lib.hid (EB.out.trans (b9.mono EB.out.size))
            obtain ⟨⟨_, _, _⟩, ⟨_, _, _⟩⟩ := new3g HZ.out E11.out
            have E12 := Lib.hid (h0.out.trans (E11.out.mono h0.out.size))
            clear b9
            go_wp2_with fail
            exact bodyPost_ret (v := .tuple #[Vl.val (vI x), .int .i64 0]) (by simp [results, Tryz.results57, go_sem, *]) rfl ⟨out_some hRs.out, put3 E12.out⟩
set_option maxRecDepth 100000 in
set_option maxHeartbeats 8000000 in
theorem rown_mul (A : Option Addr) (c : Nat) (l : List Vl) (w : World) (hv : ValsAt w A l) (hl : l.length ≤ 1000000) (hall : ∀ k (h : k < l.length), l[k].1 = 1) (hok : ∀ k (h : k < l.length), okI l[k].2.1) (hA : A = none → c = 0) :
    Calls Tryz.prog 57 #[.string ⟨#[42]⟩, .slice A l.length c] w fun e w' => e = .returned (outW (foldO mulO 1 (nums l))) ∧ Below w.heap.size w w' := by
  have h0 : Hid (Below w.heap.size w (w.alloc (.cells #[.int .i64 0, .int .i64 0, .string ⟨#[]⟩] 26))) := Lib.hid ((Below.refl _ _).alloc (Nat.le_refl _) _)
  have V := Lib.hid (fun W (h : Below w.heap.size w W) => hv.below h)
  have AL := Lib.hid hall
  clear hv hall
  obtain ⟨n, hn⟩ : ∃ n, n = nums l := ⟨_, rfl⟩
  have hnl : n.length = l.length := by rw [hn]; unfold nums; simp
  rw [← hn]
  have MK : Hid (∀ k (h : k < (1 :: n).length), okI (1 :: n)[k]) := Lib.hid (fun k h => by
    cases k with
    | zero => show okI 1; unfold okI; omega
    | succ k => subst hn; simp [nums]; exact hok k (by simpa [nums] using h))
  obtain ⟨R, hR⟩ : ∃ R, R = foldO mulO 1 n := ⟨_, rfl⟩
  rw [← hR]
  have HR : Hid (foldO mulO 1 ((1 :: n).drop 1) = R) := Lib.hid hR.symm
  have HX0 : Hid (okI 1) := Lib.hid (by unfold okI; omega)
  have HNL := Lib.hid hnl
  have HA := Lib.hid hA
  clear hA
  obtain ⟨i32, hi, hz0, hz1, hz2⟩ := info_parts infoV
  clear hR hok
  have hlI : (l.length : Int) ≤ 1000000 := by omega
  go_enter Tryz.func57, Tryz.ntmps57
  go_wp2_with fail
  go_loopw [6] (fun i wr => ∃ k : Nat, k ≤ l.length ∧ i = .int .i64 k ∧ wr = w.alloc (.cells #[.int .i64 0, .int .i64 0, .string ⟨#[]⟩] 26)) (fun i _ => l.length - (intOf i).toNat)
  case atStart => exact ⟨0, by omega, rfl, rfl⟩
  case round =>
    obtain ⟨k, hk, rfl, rfl⟩ := hrel
    by_cases hlt : k < l.length
    · have hltI : (k : Int) < (l.length : Int) := by omega
      obtain ⟨ad, rfl, c0, c1, c2⟩ := (V.out _ h0.out).at hlt
      have h1 := AL.out k hlt
      generalize l[k] = v at *
      obtain ⟨a, b, s2⟩ := v
      dsimp only at c0 c1 c2 h1
      subst h1
      go_wp2_with fail
      exact ⟨⟨k + 1, by omega, by go_num, by first | rfl | trivial⟩, by simp [intOf]; omega⟩
    · obtain rfl : k = l.length := by omega
      obtain ⟨wz, hwz⟩ : ∃ wz, wz = w.alloc (.cells #[.int .i64 0, .int .i64 0, .string ⟨#[]⟩] 26) := ⟨_, rfl⟩
      have HZ : Hid (wz.heap[w.heap.size]? = some (.cells #[.int .i64 0, .int .i64 0, .string ⟨#[]⟩] 26)) := Lib.hid (by rw [hwz]; exact heap_alloc_new w _)
      rw [← hwz] at h0 ⊢
      have hlz := Lib.hid (show w.heap.size < wz.heap.size by rw [hwz]; simp)
      clear AL hwz hlt hk
      cases A with
      | none =>
        obtain rfl := HA.out rfl
        have hl0 : l = [] := by
          cases l with
          | nil => rfl
          | cons a l' => obtain ⟨ad, e, _⟩ := (V.out _ h0.out) 0 (by simp); cases e
        subst hl0
        have HNL : Hid (n.length = 0) := Lib.hid (by rw [hn]; rfl)
        go_wp2_with fail
        refine (rInt_c 1 _).mono ?_
        rintro e w3 ⟨rfl, b3⟩
        have B3 := Lib.hid b3; clear b3
        have O3 := Lib.hid (owns_v3 w3 (vI 1) wz.heap.size B3.out.size)
        have B4 := Lib.hid (B3.out.alloc B3.out.size (.cells #[.int .i64 1, .int .i64 1, .string ⟨#[]⟩] 26))
        go_wp2_with (at_builtin; refine wpList_append_own_none rfl (.tmp 89) (.tmp 90) 22 rfl wz.heap.size 26 i32 3 rfl hi _ 1 _ rfl O3.out rfl ?_)
        have hO5 : Hid ((w3.alloc (.cells #[.int .i64 1, .int .i64 1, .string ⟨#[]⟩] 26)).ownsRow wz.heap.size 26 3 (.slice (some ⟨w3.heap.size, 0, none⟩) 1 1) 1 (valsC (vI 1 :: []))) := O3
        have hB5 := B4
        generalize w3.alloc (.cells #[.int .i64 1, .int .i64 1, .string ⟨#[]⟩] 26) = wp at *
        have EWp := Lib.hid (h0.out.trans (hB5.out.mono h0.out.size))
        obtain ⟨hln, ho⟩ := vals_owns hO5.out
        rcases ho with ⟨h, _⟩ | ⟨g, cp, cur, hev, hg, hBg, hcp, hcur⟩
        · exact absurd h (by omega)
        obtain ⟨rfl, rfl⟩ : g = w3.heap.size ∧ cp = 1 := by
          injection hev with e1 e2 e3
          injection e1 with e1
          injection e1 with e1
          exact ⟨e1.symm, e3.symm⟩
        have hgb : w3.heap.size < wp.heap.size := (Array.getElem?_eq_some_iff.1 hg).1
        have CM : Hid (∀ W, Below wp.heap.size wp W → ∀ k (h : k < (1 :: n).length), W.cell? ⟨w3.heap.size, k * 3 + 1, none⟩ = some (.int .i64 (1 :: n)[k])) := Lib.hid (fun W h k hk => by
          have hk2 : k < (vI 1 :: ([] : List Vl)).length := by have := HNL.out; simp at hk ⊢; omega
          refine (own_row ((h.block w3.heap.size hgb).trans hg) hcur hk2).trans ?_
          cases k with
          | zero => rfl
          | succ k => first | (exfalso; have := HNL.out; simp at hk; omega) | (subst hn; simp [nums]; done))
        have hc0 : wp.cell? ⟨w3.heap.size, 1, none⟩ = some (.int .i64 1) := by
          have := CM.out _ (Below.refl _ _) 0 (by simp)
          simpa using this
        have HM : Hid ((1 :: n).length = 1) := Lib.hid (by have := HNL.out; rw [List.length_cons]; omega)
        have hl1 : (1 : Int) ≤ (1 : Int) := by omega
        clear hln hBg hcp hg hcur hgb O3 B4 B3 V hn
        go_wp2_with fail
        go_loopw [9, 10] (fun v i wr => ∃ (k : Nat) (x : Int), 1 ≤ k ∧ k ≤ 1 ∧ i = .int .i64 k ∧ v = .int .i64 x ∧ Hid (okI x) ∧ Hid (foldO mulO x ((1 :: n).drop k) = R) ∧ Hid (Below wp.heap.size wp wr)) (fun _ i _ => 1 - (intOf i).toNat)
        case atStart => exact ⟨1, 1, by omega, by omega, rfl, rfl, HX0, HR, Lib.hid (Below.refl _ _)⟩
        case round =>
          obtain ⟨k, x, hk1, hk, rfl, rfl, hx, hF, hB⟩ := hrel
          have EB := Lib.hid (hB5.out.trans (hB.out.mono hB5.out.size))
          obtain ⟨⟨_, _, _⟩, ⟨_, _, _⟩⟩ := new3g HZ.out EB.out
          have E10 := Lib.hid (h0.out.trans (EB.out.mono h0.out.size))
          by_cases hlt : k < 1
          · omega
          · obtain rfl : k = 1 := by omega
            have hRs : Hid (R = some x) := Lib.hid (by have := hF.out; rw [List.drop_of_length_le (by have := HM.out; omega)] at this; exact this.symm)
            clear hF
            go_wp2_with fail
            refine (rInt_c x _).mono ?_
            rintro e w9 ⟨rfl, b9⟩
            have E11 := Lib.hid (EB.out.trans (b9.mono EB.out.size))
            obtain ⟨⟨_, _, _⟩, ⟨_, _, _⟩⟩ := new3g HZ.out E11.out
            have E12 := Lib.hid (h0.out.trans (E11.out.mono h0.out.size))
            clear b9
            go_wp2_with fail
            exact bodyPost_ret (v := .tuple #[Vl.val (vI x), .int .i64 0]) (by simp [results, Tryz.results57, go_sem, *]) rfl ⟨out_some hRs.out, put3 E12.out⟩
      | some ad =>
        go_wp2_with fail
        refine (rInt_c 1 _).mono ?_
        rintro e w3 ⟨rfl, b3⟩
        have B3 := Lib.hid b3; clear b3
        have O3 := Lib.hid (owns_v3 w3 (vI 1) wz.heap.size B3.out.size)
        have B4 := Lib.hid (B3.out.alloc B3.out.size (.cells #[.int .i64 1, .int .i64 1, .string ⟨#[]⟩] 26))
        have NW := Lib.hid (vals_cells (V.out _ (h0.out.trans (B4.out.mono h0.out.size))))
        have FL : Hid (∀ u ∈ valsC l, u.oneCell' = true) := Lib.hid (valsC_flat l)
        go_wp2_with (at_builtin; refine wpList_append_own _ rfl (.tmp 89) (.tmp 90) 22 rfl wz.heap.size 26 i32 zV 3 32 Tryz.underlying22 hi hz0 hz1 hz2 rfl (by decide) _ 1 _ rfl O3.out ad l.length c (valsC l) rfl (valsC_len l) NW.out FL.out (by unfold maxLen; omega) (by omega) B4.out.size ?_)
        intro wv wp hown hgr hnil
        have hO5 : Hid (wp.ownsRow wz.heap.size 26 3 wv (1 + l.length) (valsC (vI 1 :: l))) := Lib.hid hown
        have hB5 := Lib.hid (B4.out.grown hgr B4.out.size (fun q hq => (O3.out.lt q hq).1))
        clear hown hgr hnil NW FL
        have EWp := Lib.hid (h0.out.trans (hB5.out.mono h0.out.size))
        obtain ⟨hln, ho⟩ := vals_owns hO5.out
        rcases ho with ⟨h, _⟩ | ⟨g, cp, cur, rfl, hg, hBg, hcp, hcur⟩
        · exact absurd h (by omega)
        have hgb : g < wp.heap.size := (Array.getElem?_eq_some_iff.1 hg).1
        have CM : Hid (∀ W, Below wp.heap.size wp W → ∀ k (h : k < (1 :: n).length), W.cell? ⟨g, k * 3 + 1, none⟩ = some (.int .i64 (1 :: n)[k])) := Lib.hid (fun W h k hk => by
          have hk2 : k < (vI 1 :: l).length := by have := HNL.out; simp at hk ⊢; omega
          refine (own_row ((h.block g hgb).trans hg) hcur hk2).trans ?_
          cases k with
          | zero => rfl
          | succ k => first | (exfalso; have := HNL.out; simp at hk; omega) | (subst hn; simp [nums]; done))
        have hc0 : wp.cell? ⟨g, 1, none⟩ = some (.int .i64 1) := by
          have := CM.out _ (Below.refl _ _) 0 (by simp)
          simpa using this
        have HM : Hid ((1 :: n).length = (1 + l.length)) := Lib.hid (by have := HNL.out; rw [List.length_cons]; omega)
        have hl1 : (1 : Int) ≤ ((1 + l.length) : Int) := by omega
        clear hln hBg hcp hg hcur hgb O3 B4 B3 V hn
        go_wp2_with fail
        go_loopw [9, 10] (fun v i wr => ∃ (k : Nat) (x : Int), 1 ≤ k ∧ k ≤ (1 + l.length) ∧ i = .int .i64 k ∧ v = .int .i64 x ∧ Hid (okI x) ∧ Hid (foldO mulO x ((1 :: n).drop k) = R) ∧ Hid (Below wp.heap.size wp wr)) (fun _ i _ => (1 + l.length) - (intOf i).toNat)
        case atStart => exact ⟨1, 1, by omega, by omega, rfl, rfl, HX0, HR, Lib.hid (Below.refl _ _)⟩
        case round =>
          obtain ⟨k, x, hk1, hk, rfl, rfl, hx, hF, hB⟩ := hrel
          have EB := Lib.hid (hB5.out.trans (hB.out.mono hB5.out.size))
          obtain ⟨⟨_, _, _⟩, ⟨_, _, _⟩⟩ := new3g HZ.out EB.out
          have E10 := Lib.hid (h0.out.trans (EB.out.mono h0.out.size))
          by_cases hlt : k < (1 + l.length)
          · have hltI : (k : Int) < (((1 + l.length) : Nat) : Int) := by omega
            have hlt2 : k < (1 :: n).length := by have := HM.out; omega
            have c1 := CM.out _ hB.out k hlt2
            have hF2 := Lib.hid ((foldO_drop hlt2).symm.trans hF.out)
            have hoy := Lib.hid (MK.out k hlt2)
            obtain ⟨y, hy⟩ : ∃ y, y = (1 :: n)[k] := ⟨_, rfl⟩
            rw [← hy] at c1 hF2 hoy
            clear hy hF
            have hC := Lib.hid (fun W => two_mul x y W hx.out hoy.out)
            cases ho : mulO x y with
            | none =>
              have hC2 := Lib.hid (fun W => numV_no (hC.out W) ho)
              have hRn : Hid (R = none) := Lib.hid (by have := hF2.out; rw [ho] at this; exact this.symm)
              clear hC hF2 ho
              go_wp2_with fail
              refine (hC2.out _).mono ?_
              rintro e w' ⟨rfl, rfl⟩
              go_wp2_with fail
              exact bodyPost_ret (v := .tuple #[Vl.val v0, .int .i64 11]) (by simp [results, Tryz.results57, go_sem, *]) rfl ⟨out_none hRn.out, put3 E10.out⟩
            | some z =>
              have hC2 := Lib.hid (fun W => numV_yes (hC.out W) ho)
              have hF3 : Hid (foldO mulO z ((1 :: n).drop (k + 1)) = R) := Lib.hid (by have := hF2.out; rw [ho] at this; exact this)
              have hz := Lib.hid (mulO_ok2 hx.out hoy.out ho)
              clear hC hF2 ho
              go_wp2_with fail
              refine (hC2.out _).mono ?_
              rintro e w' ⟨rfl, rfl⟩
              go_wp2_with fail
              exact ⟨⟨k + 1, z, by omega, by omega, by go_num, rfl, hz, hF3, hB⟩, by simp [intOf]; omega⟩
          · obtain rfl : k = (1 + l.length) := by omega
            have hRs : Hid (R = some x) := Lib.hid (by have := hF.out; rw [List.drop_of_length_le (by have := HM.out; omega)] at this; exact this.symm)
            clear hF
            go_wp2_with fail
            refine (rInt_c x _).mono ?_
            rintro e w9 ⟨rfl, b9⟩
            have E11 := Lib.hid (EB.out.trans (b9.mono EB.out.size))
            obtain ⟨⟨_, _, _⟩, ⟨_, _, _⟩⟩ := new3g HZ.out E11.out
            have E12 := Lib.hid (h0.out.trans (E11.out.mono h0.out.size))
            clear b9
            go_wp2_with fail
            exact bodyPost_ret (v := .tuple #[Vl.val (vI x), .int .i64 0]) (by simp [results, Tryz.results57, go_sem, *]) rfl ⟨out_some hRs.out, put3 E12.out⟩
end Go.Proofs.YtmadnehipagakaaGreatDoor
