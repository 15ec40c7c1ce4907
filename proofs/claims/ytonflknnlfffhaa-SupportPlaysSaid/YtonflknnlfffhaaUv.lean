/- The law's tell: a table is as its row. -/
import Derived.Test.YtonflknnlfffhaaUu
import Derived.Test.YtonflknnlfffhaaUs
namespace Go.Proofs.Ytonflknnlfffhaa
open Go.RowKit Go.Lib KP MR RW
abbrev Sf.pl (s : Sf) : Int × Bool × List Wy := (s.1.1, s.1.2.1, s.1.2.2.map (·.1))
/-- A table's rows and what came, right. -/
structure Good (P : Pl) (C : List Wy) : Prop where
  keys : (P.map (·.1)).Nodup
  once : C.Nodup
  mem : ∀ w, w ∈ C ↔ ∃ p ∈ P, w ∈ p.2.2
  each : ∀ p ∈ P, p.2.2.Nodup
theorem pos_yes {l : List Wy} {w : Wy} {i : Int} (h : PosIs l w i) (hm : w ∈ l) : decide (i < 0) = false := by
  rcases h with ⟨_, h⟩ | ⟨pre, post, _, _, rfl⟩
  · exact absurd hm h
  · exact decide_eq_false (by omega)
theorem pos_no {l : List Wy} {w : Wy} {i : Int} (h : PosIs l w i) (hm : w ∉ l) : i = -1 := by
  rcases h with ⟨h, _⟩ | ⟨pre, post, e, _, _⟩
  · exact h
  · exact absurd (by rw [e]; simp) hm
theorem wh_of {P : Pl} (hn : (P.map (·.1)).Nodup) {p : Int × Bool × List Wy} (hp : p ∈ P) : lk P p.1 = some p.2 := mem_lk hn hp
def cnt (R : List Sf) (k : Nat) : Nat := ((R.take k).filter fun s => s.1.2.1 || decide (0 < s.1.2.2.length)).length
theorem cnt_step (R : List Sf) (k : Nat) (h : k < R.length) : cnt R (k + 1) = cnt R k + if R[k].1.2.1 || decide (0 < R[k].1.2.2.length) then 1 else 0 := by
  unfold cnt
  rw [List.take_succ_eq_append_getElem h, List.filter_append, List.length_append, List.filter_cons, List.filter_nil]
  split <;> rfl
theorem cnt_le (R : List Sf) (k : Nat) : cnt R k ≤ k := by
  unfold cnt
  refine Nat.le_trans (List.length_filter_le _ _) ?_
  rw [List.length_take]
  omega
theorem cnt_all (R : List Sf) : cnt R R.length = ((R.map Sf.pl).filter standP).length := by
  unfold cnt
  rw [List.take_length, List.filter_map, List.length_map]
  congr 1
  refine List.filter_congr (fun s _ => ?_)
  simp [standP, Function.comp]
theorem flat_few (R : List Sf) (k : Nat) (h : ∀ s ∈ R, s.1.2.2.length ≤ 200) : ((R.take k).flatMap (fun s => s.1.2.2)).length ≤ k * 200 := by
  induction k with
  | zero => simp
  | succ k ih =>
    by_cases hk : k < R.length
    · rw [List.take_succ_eq_append_getElem hk, List.flatMap_append, List.flatMap_singleton, List.length_append]
      have := h _ (List.getElem_mem hk)
      omega
    · rw [List.take_of_length_le (by omega)] at ih ⊢
      omega
set_option maxRecDepth 100000 in
set_option maxHeartbeats 16000000 in
theorem tell_c {B : Nat} {w0 : World} {F : Nat → Prop} {g : Nat} {P : Pl} {C : List Wy} {W : World} (h : Tab B w0 F g P C W) (hG : Good P C) (RA : Option Addr) (rc : Nat) (R : List Sf) (hR : R.map Sf.pl = P) (hI : RowsAt standc 3 (fun _ => False) W RA R)
    (hE : ∀ s ∈ R, RowsAt whyc 3 (fun _ => False) W s.2.1 s.1.2.2 ∧ (s.2.1 = none → s.2.2 = 0)) (hX : ∀ s ∈ R, ∀ x ∈ s.1.2.2, ArgY W x) (hl : R.length ≤ 200) (hl2 : ∀ s ∈ R, s.1.2.2.length ≤ 200) (hlC : C.length ≤ 100000) :
    Calls Try.prog 33 #[.pointer (some ⟨g, 0, none⟩), .slice RA R.length rc] W fun e w' => e = .returned (.bool true) ∧ Below W.heap.size W w' := by
  obtain ⟨i0, hi, hz0, hz1, hz2⟩ := info_parts infoW
  have HT := Lib.hid (fun w' (hb : Below W.heap.size W w') => h.grow hb)
  have HI := Lib.hid (fun w' (hb : Below W.heap.size W w') => RowsAt.below hI hb)
  have HE := Lib.hid (fun w' (hb : Below W.heap.size W w') s (hs : s ∈ R) => And.intro ((hE s hs).1.below hb) (hE s hs).2)
  have HX := Lib.hid (fun w' (hb : Below W.heap.size W w') s (hs : s ∈ R) x (hx : x ∈ s.1.2.2) => (hX s hs x hx).below hb)
  have HG := Lib.hid hG
  have HR := Lib.hid hR
  have HL2 := Lib.hid hl2
  have hlI : (R.length : Int) ≤ 200 := by omega
  have B0 := Lib.hid (Below.refl W.heap.size W)
  have O0 : Hid (OwnW W W.heap.size 50 3 (.slice none 0 0) ([] : List Wf).length (([] : List Wf).flatMap whyc)) := Lib.hid (OwnW.nil _ _ _ _)
  clear h hG hR hI hE hX hl2
  go_enter Try.func33, Try.ntmps33
  go_wp2_with fail
  go_loopw [5, 6, 7] (fun n v iv wr => ∃ (k : Nat) (vo : Value) (al : List Wf), k ≤ R.length ∧ iv = .int .i64 k ∧ vo = v ∧ n = .int .i64 (cnt R k) ∧ al.length ≤ k * 200 ∧ Hid (al = (R.take k).flatMap (fun s => s.1.2.2)) ∧ Hid (OwnW wr W.heap.size 50 3 vo al.length (al.flatMap whyc)) ∧ Hid (Below W.heap.size W wr)) (fun _ _ iv _ => R.length - (RowKit.intOf iv).toNat)
  case atStart => exact ⟨0, _, [], by omega, rfl, rfl, rfl, by simp, Lib.hid rfl, O0, B0⟩
  case round =>
    obtain ⟨k, vo, al, hk, rfl, rfl, rfl, hall, HAL, HO, HB⟩ := hrel
    clear O0 B0
    by_cases hlt : k < R.length
    · have hkI : (k : Int) < (R.length : Int) := by omega
      have hcI : (cnt R k : Int) ≤ 200 := by have := cnt_le R k; omega
      obtain ⟨ad, rfl, -, c0, c1, c2⟩ := sts_at (HI.out _ HB.out) hlt
      have hmem := List.getElem_mem hlt
      have HC : Hid (∀ w', Below wr.heap.size wr w' → w'.cell? (ad.add (k * 3)) = some (.int .i64 R[k].1.1) ∧ w'.cell? ⟨(ad.add (k * 3)).block, (ad.add (k * 3)).off + 1, none⟩ = some (.bool R[k].1.2.1) ∧ w'.cell? ⟨(ad.add (k * 3)).block, (ad.add (k * 3)).off + 2, none⟩ = some R[k].sl) := Lib.hid (fun w' hb => ⟨cell_kept c0 hb, cell_kept c1 hb, cell_kept c2 hb⟩)
      have hP : lk P R[k].1.1 = some (R[k].1.2.1, R[k].1.2.2.map (·.1)) := wh_of HG.out.keys (by rw [← HR.out]; exact List.mem_map.2 ⟨_, hmem, rfl⟩)
      have HW : Hid (Calls Try.prog 23 #[.pointer (some ⟨g, 0, none⟩), .int .i64 R[k].1.1] wr (ToldW wr (R[k].1.2.2.map (·.1)) R[k].1.2.1)) := Lib.hid (by
        have := why_t (HT.out _ HB.out) R[k].1.1
        unfold wh at this
        rw [hP] at this
        exact this)
      have HS : Hid (∀ w', Below wr.heap.size wr w' → Calls Try.prog 26 #[.pointer (some ⟨g, 0, none⟩), .int .i64 R[k].1.1] w' fun e w'' => e = .returned (.bool (R[k].1.2.1 || decide (0 < R[k].1.2.2.length))) ∧ w' = w'') := Lib.hid (fun w' hb => by
        have := stands_t (HT.out _ (HB.out.trans (hb.mono HB.out.size))) R[k].1.1
        rw [hP] at this
        simpa [standQ] using this)
      have HXS : Hid (∀ w', Below wr.heap.size wr w' → RowsAt whyc 3 (fun _ => False) w' R[k].2.1 R[k].1.2.2) := Lib.hid (fun w' hb => (HE.out w' (HB.out.trans (hb.mono HB.out.size)) _ hmem).1)
      have HNIL : Hid (R[k].2.1 = none → R[k].2.2 = 0) := Lib.hid (HE.out _ HB.out _ hmem).2
      have hxl := HL2.out _ hmem
      have HRW : Hid (∀ w' A9 ys, Below wr.heap.size wr w' → RowsAt whyc 3 (fun _ => False) w' A9 ys → (∀ y ∈ ys, ArgY w' y) → ys.map (·.1) = R[k].1.2.2.map (·.1) → Calls Try.prog 24 #[.slice A9 R[k].1.2.2.length R[k].1.2.2.length, .slice R[k].2.1 R[k].1.2.2.length R[k].2.2] w' fun e w'' => e = .returned (.bool true) ∧ Below w'.heap.size w' w'') := Lib.hid (fun w' A9 ys hb hr hy hm => by
        have hyl : ys.length = R[k].1.2.2.length := by have := congrArg List.length hm; simpa using this
        have hb2 := HB.out.trans (hb.mono HB.out.size)
        exact rows_yes A9 _ _ ys R[k].2.1 R[k].2.2 _ R[k].1.2.2 w' hyl rfl hm hr hy (HXS.out w' hb) (fun z hz => HX.out w' hb2 _ hmem z hz) (by omega))
      have HTA : Hid ((R.take (k + 1)).flatMap (fun s => s.1.2.2) = (R.take k).flatMap (fun s => s.1.2.2) ++ R[k].1.2.2) := Lib.hid (by rw [List.take_succ_eq_append_getElem hlt, List.flatMap_append, List.flatMap_singleton])
      have HCT := Lib.hid (cnt_step R k hlt)
      clear hmem hP
      generalize R[k] = s at *
      obtain ⟨⟨f, b, xs⟩, xA, xc⟩ := s
      dsimp only at c0 c1 c2 HC HW HS HXS HNIL hxl HRW HTA HCT
      have hxsI : (xs.length : Int) ≤ 200 := by omega
      have hallI : (al.length : Int) ≤ 40000 := by omega
      cases b with
      | true =>
        go_wp2_with fail
        refine HW.out.mono ?_
        rintro e w3 ⟨v3, rfl, A3, ys, e3, hys, hoy, hfy, b3⟩
        injection e3 with e3
        rw [List.length_map] at e3 hoy
        subst e3
        obtain ⟨A', c', e', hr3, -, -, -⟩ := OwnW.rows (N := fun _ => False) whyc_len (by decide) hoy (fun _ _ h => h)
        injection e' with e1 e2 e3
        subst e1
        clear e2 e3
        obtain ⟨d0, d1, d2⟩ := HC.out _ b3
        have HR3 := Lib.hid (HRW.out w3 A3 ys b3 hr3 (fun y hy => (hfy y hy).arg) hys)
        have B3 := Lib.hid b3
        have HLL : ys.length = xs.length := by have := congrArg List.length hys; simpa using this
        clear hys hoy hfy b3 hr3 c0 c1 c2
        clear HLL
        go_wp2_with fail
        refine HR3.out.mono ?_
        rintro e w4 ⟨rfl, b4⟩
        have B4 := Lib.hid (B3.out.trans (b4.mono B3.out.size))
        clear d0 d1 d2 HR3 b4
        obtain ⟨d0, d1, d2⟩ := HC.out _ B4.out
        have HST := Lib.hid (HS.out _ B4.out)
        go_wp2_with fail
        refine HST.out.mono ?_
        rintro e w5 ⟨rfl, rfl⟩
        have O4 := Lib.hid (OwnW.below HO.out B4.out)
        have R4 := Lib.hid (HXS.out _ B4.out)
        have E4 := Lib.hid (HB.out.trans (B4.out.mono HB.out.size))
        clear HST
        go_wp2_with (at_builtin; (refine wpList_append_ownW (f := whyc) whyc_len whyc_flat (by decide) rfl (.tmp 75) (.tmp 80) 46 rfl W.heap.size 50 i0 zW 40 Try.underlying46 hi hz0 hz1 hz2 rfl vo al.length al rfl O4.out xA xc xs HNIL.out R4.out rfl (by unfold maxLen; omega) (by omega) E4.out.size ?_))
        intro v8 w8 ho8 hg8 _
        have HB8 := Lib.hid (E4.out.grown hg8 E4.out.size (fun q hq => (O4.out.lt hq).1))
        have HO8 : Hid (OwnW w8 W.heap.size 50 3 v8 (al ++ xs).length ((al ++ xs).flatMap whyc)) := Lib.hid (by
          rw [List.length_append, List.flatMap_append]
          simpa using ho8)
        have HCN : cnt R (k + 1) = cnt R k + 1 := by
          have h := HCT.out
          simp at h
          exact h
        have HNX : Hid ((R.take (k + 1)).flatMap (fun s => s.1.2.2) = al ++ xs) := Lib.hid (by rw [HTA.out, ← HAL.out])
        clear ho8 hg8 d0 d1 d2 HW HS HRW HXS HC O4 R4 E4 HO HCT
        go_wp2_with fail
        go_roundw
        case rel => exact ⟨k + 1, v8, al ++ xs, by omega, by go_num, rfl, by rw [HCN] <;> go_num, by rw [List.length_append]; omega, Lib.hid HNX.out.symm, HO8, HB8⟩
        case measure => first | (simp [RowKit.intOf]; done) | (simp [RowKit.intOf]; omega)
      | false =>
        by_cases hz : xs.length = 0
        · have hzI : decide ((0 : Int) < (xs.length : Int)) = false := decide_eq_false (by omega)
          have hzN : decide (0 < xs.length) = false := decide_eq_false (by omega)
          rw [hzN] at HS HCT
          clear hz
          go_wp2_with fail
          refine HW.out.mono ?_
          rintro e w3 ⟨v3, rfl, A3, ys, e3, hys, hoy, hfy, b3⟩
          injection e3 with e3
          rw [List.length_map] at e3 hoy
          subst e3
          obtain ⟨A', c', e', hr3, -, -, -⟩ := OwnW.rows (N := fun _ => False) whyc_len (by decide) hoy (fun _ _ h => h)
          injection e' with e1 e2 e3
          subst e1
          clear e2 e3
          obtain ⟨d0, d1, d2⟩ := HC.out _ b3
          have HR3 := Lib.hid (HRW.out w3 A3 ys b3 hr3 (fun y hy => (hfy y hy).arg) hys)
          have B3 := Lib.hid b3
          have HLL : ys.length = xs.length := by have := congrArg List.length hys; simpa using this
          clear hys hoy hfy b3 hr3 c0 c1 c2
          clear HLL
          go_wp2_with fail
          refine HR3.out.mono ?_
          rintro e w4 ⟨rfl, b4⟩
          have B4 := Lib.hid (B3.out.trans (b4.mono B3.out.size))
          clear d0 d1 d2 HR3 b4
          obtain ⟨d0, d1, d2⟩ := HC.out _ B4.out
          have HST := Lib.hid (HS.out _ B4.out)
          go_wp2_with fail
          refine HST.out.mono ?_
          rintro e w5 ⟨rfl, rfl⟩
          have O4 := Lib.hid (OwnW.below HO.out B4.out)
          have R4 := Lib.hid (HXS.out _ B4.out)
          have E4 := Lib.hid (HB.out.trans (B4.out.mono HB.out.size))
          clear HST
          go_wp2_with (at_builtin; (refine wpList_append_ownW (f := whyc) whyc_len whyc_flat (by decide) rfl (.tmp 75) (.tmp 80) 46 rfl W.heap.size 50 i0 zW 40 Try.underlying46 hi hz0 hz1 hz2 rfl vo al.length al rfl O4.out xA xc xs HNIL.out R4.out rfl (by unfold maxLen; omega) (by omega) E4.out.size ?_))
          intro v8 w8 ho8 hg8 _
          have HB8 := Lib.hid (E4.out.grown hg8 E4.out.size (fun q hq => (O4.out.lt hq).1))
          have HO8 : Hid (OwnW w8 W.heap.size 50 3 v8 (al ++ xs).length ((al ++ xs).flatMap whyc)) := Lib.hid (by
            rw [List.length_append, List.flatMap_append]
            simpa using ho8)
          have HCN : cnt R (k + 1) = cnt R k := by
            have h := HCT.out
            simp at h
            exact h
          have HNX : Hid ((R.take (k + 1)).flatMap (fun s => s.1.2.2) = al ++ xs) := Lib.hid (by rw [HTA.out, ← HAL.out])
          clear ho8 hg8 d0 d1 d2 HW HS HRW HXS HC O4 R4 E4 HO HCT
          go_wp2_with fail
          go_roundw
          case rel => exact ⟨k + 1, v8, al ++ xs, by omega, by go_num, rfl, by rw [HCN] <;> go_num, by rw [List.length_append]; omega, Lib.hid HNX.out.symm, HO8, HB8⟩
          case measure => first | (simp [RowKit.intOf]; done) | (simp [RowKit.intOf]; omega)
        · have hzI : decide ((0 : Int) < (xs.length : Int)) = true := decide_eq_true (by omega)
          have hzN : decide (0 < xs.length) = true := decide_eq_true (by omega)
          rw [hzN] at HS HCT
          clear hz
          go_wp2_with fail
          refine HW.out.mono ?_
          rintro e w3 ⟨v3, rfl, A3, ys, e3, hys, hoy, hfy, b3⟩
          injection e3 with e3
          rw [List.length_map] at e3 hoy
          subst e3
          obtain ⟨A', c', e', hr3, -, -, -⟩ := OwnW.rows (N := fun _ => False) whyc_len (by decide) hoy (fun _ _ h => h)
          injection e' with e1 e2 e3
          subst e1
          clear e2 e3
          obtain ⟨d0, d1, d2⟩ := HC.out _ b3
          have HR3 := Lib.hid (HRW.out w3 A3 ys b3 hr3 (fun y hy => (hfy y hy).arg) hys)
          have B3 := Lib.hid b3
          have HLL : ys.length = xs.length := by have := congrArg List.length hys; simpa using this
          clear hys hoy hfy b3 hr3 c0 c1 c2
          clear HLL
          go_wp2_with fail
          refine HR3.out.mono ?_
          rintro e w4 ⟨rfl, b4⟩
          have B4 := Lib.hid (B3.out.trans (b4.mono B3.out.size))
          clear d0 d1 d2 HR3 b4
          obtain ⟨d0, d1, d2⟩ := HC.out _ B4.out
          have HST := Lib.hid (HS.out _ B4.out)
          go_wp2_with fail
          refine HST.out.mono ?_
          rintro e w5 ⟨rfl, rfl⟩
          have O4 := Lib.hid (OwnW.below HO.out B4.out)
          have R4 := Lib.hid (HXS.out _ B4.out)
          have E4 := Lib.hid (HB.out.trans (B4.out.mono HB.out.size))
          clear HST
          go_wp2_with (at_builtin; (refine wpList_append_ownW (f := whyc) whyc_len whyc_flat (by decide) rfl (.tmp 75) (.tmp 80) 46 rfl W.heap.size 50 i0 zW 40 Try.underlying46 hi hz0 hz1 hz2 rfl vo al.length al rfl O4.out xA xc xs HNIL.out R4.out rfl (by unfold maxLen; omega) (by omega) E4.out.size ?_))
          intro v8 w8 ho8 hg8 _
          have HB8 := Lib.hid (E4.out.grown hg8 E4.out.size (fun q hq => (O4.out.lt hq).1))
          have HO8 : Hid (OwnW w8 W.heap.size 50 3 v8 (al ++ xs).length ((al ++ xs).flatMap whyc)) := Lib.hid (by
            rw [List.length_append, List.flatMap_append]
            simpa using ho8)
          have HCN : cnt R (k + 1) = cnt R k + 1 := by
            have h := HCT.out
            simp at h
            exact h
          have HNX : Hid ((R.take (k + 1)).flatMap (fun s => s.1.2.2) = al ++ xs) := Lib.hid (by rw [HTA.out, ← HAL.out])
          clear ho8 hg8 d0 d1 d2 HW HS HRW HXS HC O4 R4 E4 HO HCT
          go_wp2_with fail
          go_roundw
          case rel => exact ⟨k + 1, v8, al ++ xs, by omega, by go_num, rfl, by rw [HCN] <;> go_num, by rw [List.length_append]; omega, Lib.hid HNX.out.symm, HO8, HB8⟩
          case measure => first | (simp [RowKit.intOf]; done) | (simp [RowKit.intOf]; omega)
    · obtain rfl : k = R.length := by omega
      rw [List.take_length] at HAL
      have HALM : Hid (∀ w, w ∈ C ↔ w ∈ al.map (·.1)) := Lib.hid (fun w => by
        rw [HG.out.mem, HAL.out, ← HR.out]
        simp only [List.mem_map, List.mem_flatMap]
        constructor
        · rintro ⟨p, ⟨s, hs, rfl⟩, hw⟩
          obtain ⟨x, hx, rfl⟩ := List.mem_map.1 hw
          exact ⟨x, ⟨s, hs, hx⟩, rfl⟩
        · rintro ⟨x, ⟨s, hs, hx⟩, rfl⟩
          exact ⟨_, ⟨s, hs, rfl⟩, List.mem_map.2 ⟨x, hx, rfl⟩⟩)
      have HALX : Hid (∀ w', Below W.heap.size W w' → ∀ x ∈ al, ArgY w' x) := Lib.hid (fun w' hb x hx => by
        rw [HAL.out] at hx
        obtain ⟨s, hs, hx⟩ := List.mem_flatMap.1 hx
        exact HX.out w' hb s hs x hx)
      have HCN : Hid (((P.filter standP).length : Int) = (cnt R R.length : Int)) := Lib.hid (by rw [cnt_all, HR.out])
      have hcn : (cnt R R.length : Int) ≤ 200 := by have := cnt_le R R.length; omega
      have hal : al.length ≤ 40000 := by omega
      generalize cnt R R.length = n at *
      have HTA := Lib.hid (all_t (HT.out _ HB.out))
      clear HAL hlt hall HR HL2 HE HX HI
      obtain ⟨aA, ac, rfl, -, -, -⟩ := OwnY.row HO.out
      go_wp2_with fail
      refine HTA.out.mono ?_
      rintro e w3 ⟨A3, ys, rfl, hys, hoy, hfy, b3⟩
      obtain ⟨A', c', e', hr3, -, -, -⟩ := OwnW.rows (N := fun _ => False) whyc_len (by decide) hoy (fun _ _ h => h)
      injection e' with e1 e2 e3
      subst e1
      clear e3
      have HYS := Lib.hid hys
      have B3 := Lib.hid (HB.out.trans (b3.mono HB.out.size))
      have HYR := Lib.hid (fun w' (hb : Below w3.heap.size w3 w') => RowsAt.below hr3 hb)
      have HYA : Hid (∀ w', Below w3.heap.size w3 w' → ∀ y ∈ ys, ArgY w' y) := Lib.hid (fun w' hb y hy => (hfy y hy).arg.below hb)
      have HAR : Hid (∀ w', Below w3.heap.size w3 w' → RowsAt whyc 3 (fun _ => False) w' aA al) := Lib.hid (fun w' hb => by
        obtain ⟨A9, c9, e9, hr, -, -⟩ := OwnY.row (HO.out.below (b3.trans (hb.mono b3.size)))
        injection e9 with e9 _ _
        rw [e9]; exact hr)
      have HALX3 : Hid (∀ w', Below w3.heap.size w3 w' → ∀ x ∈ al, ArgY w' x) := Lib.hid (fun w' hb => HALX.out w' (B3.out.trans (hb.mono B3.out.size)))
      have HT3 : Hid (∀ w', Below w3.heap.size w3 w' → Calls Try.prog 43 #[.pointer (some ⟨g, 0, none⟩)] w' fun e w'' => e = .returned (.int .i64 n) ∧ Below w'.heap.size w' w'') := Lib.hid (fun w' hb => by
        rw [← HCN.out]
        exact len_t (HT.out _ (B3.out.trans (hb.mono B3.out.size))))
      have hyl : C.length = ys.length := e2
      have C0 := Lib.hid (Below.refl w3.heap.size w3)
      have HND : Hid ((ys.map (·.1)).Nodup) := Lib.hid (by rw [hys]; exact HG.out.once)
      have HMEM : Hid (∀ w, w ∈ ys.map (·.1) ↔ w ∈ al.map (·.1)) := Lib.hid (fun w => by rw [hys]; exact HALM.out w)
      rw [hyl] at hlC ⊢
      have hlCI : (ys.length : Int) ≤ 100000 := by omega
      have halI : (al.length : Int) ≤ 40000 := by omega
      clear hys hoy hfy b3 hr3 e2 hyl HTA HALM HALX HYS HG HCN HO HT
      go_wp2_with fail
      go_loopw [12] (fun iv wr => ∃ k : Nat, k ≤ al.length ∧ iv = .int .i64 k ∧ Hid (Below w3.heap.size w3 wr)) (fun iv _ => al.length - (RowKit.intOf iv).toNat)
      case atStart => exact ⟨0, by omega, rfl, C0⟩
      case round =>
        obtain ⟨k, hk, rfl, HB2⟩ := hrel
        clear C0
        by_cases hlt : k < al.length
        · have hkI : (k : Int) < (al.length : Int) := by omega
          obtain ⟨ad, rfl, -, c0, c1, c2⟩ := whys_at (HAR.out _ HB2.out) hlt
          have hmem := List.getElem_mem hlt
          have HF := Lib.hid (find_c A3 ys.length ys al[k] wr (HYR.out _ HB2.out) (HYA.out _ HB2.out) (HALX3.out _ HB2.out _ hmem) hlC)
          have HIN : Hid (al[k].1 ∈ ys.map (·.1)) := Lib.hid ((HMEM.out _).2 (List.mem_map.2 ⟨_, hmem, rfl⟩))
          clear hmem
          generalize al[k] = x at *
          obtain ⟨⟨x1, x2, x3⟩, xA, xc⟩ := x
          dsimp only at c0 c1 c2 HF HIN
          go_wp2_with fail
          refine HF.out.mono ?_
          rintro e w4 ⟨i1, rfl, hp1, b4⟩
          have hi1 : decide (i1 < 0) = false := pos_yes hp1 HIN.out
          have hi2 : ¬ i1 < 0 := of_decide_eq_false hi1
          have NX := Lib.hid (HB2.out.trans (b4.mono HB2.out.size))
          clear hp1 b4 HF HIN hi1
          go_wp2_with fail
          go_roundw
          case rel => exact ⟨k + 1, by omega, by go_num, NX⟩
          case measure => first | (simp [RowKit.intOf]; done) | (simp [RowKit.intOf]; omega)
        · obtain rfl : k = al.length := by omega
          go_wp2_with fail
          go_loopw [13] (fun iv wr => ∃ k : Nat, k ≤ ys.length ∧ iv = .int .i64 k ∧ Hid (Below w3.heap.size w3 wr)) (fun iv _ => ys.length - (RowKit.intOf iv).toNat)
          case atStart => exact ⟨0, by omega, rfl, HB2⟩
          case round =>
            clear HB2
            obtain ⟨k, hk, rfl, HB2⟩ := hrel
            by_cases hlt : k < ys.length
            · have hkI : (k : Int) < (ys.length : Int) := by omega
              have hkI2 : (k : Int) ≤ (ys.length : Int) := by omega
              obtain ⟨bd, rfl, -, c0, c1, c2⟩ := whys_at (HYR.out _ HB2.out) hlt
              have hmem := List.getElem_mem hlt
              have HF1 : Hid (∀ w', Below wr.heap.size wr w' → Calls Try.prog 22 #[.slice aA al.length ac, Wf.val ys[k]] w' (FindR (al.map (·.1)) ys[k].1 w')) := Lib.hid (fun w' hb => by
                have hb2 := HB2.out.trans (hb.mono HB2.out.size)
                exact find_c aA ac al ys[k] w' (HAR.out _ hb2) (HALX3.out _ hb2) (HYA.out _ hb2 _ hmem) (by omega))
              have HF2 : Hid (∀ w', Below wr.heap.size wr w' → Calls Try.prog 22 #[.slice (some bd) k ys.length, Wf.val ys[k]] w' (FindR ((ys.take k).map (·.1)) ys[k].1 w')) := Lib.hid (fun w' hb => by
                have hb2 := HB2.out.trans (hb.mono HB2.out.size)
                have e : (ys.take k).length = k := by rw [List.length_take]; omega
                have := find_c (some bd) ys.length (ys.take k) ys[k] w' (rows_take (HYR.out _ hb2) k) (fun y hy => HYA.out _ hb2 y (List.mem_of_mem_take hy)) (HYA.out _ hb2 _ hmem) (by omega)
                rw [e] at this
                exact this)
              have HIN : Hid (ys[k].1 ∈ al.map (·.1)) := Lib.hid ((HMEM.out _).1 (List.mem_map.2 ⟨_, hmem, rfl⟩))
              have HNI : Hid (ys[k].1 ∉ (ys.take k).map (·.1)) := Lib.hid (fun hm => by
                obtain ⟨y, hy, e⟩ := List.mem_map.1 hm
                obtain ⟨j, hj, rfl⟩ := List.getElem_of_mem hy
                rw [List.getElem_take] at e
                rw [List.length_take] at hj
                have := List.pairwise_iff_getElem.1 HND.out j k (by rw [List.length_map]; omega) (by rw [List.length_map]; omega) (by omega)
                rw [List.getElem_map, List.getElem_map] at this
                exact this e)
              have HS2 : Hid (∀ w', Below wr.heap.size wr w' → w'.cell? (bd.add (k * 3)) = some (.int .i64 ys[k].1.1) ∧ w'.cell? ⟨(bd.add (k * 3)).block, (bd.add (k * 3)).off + 1, none⟩ = some (.int .i64 ys[k].1.2.1) ∧ w'.cell? ⟨(bd.add (k * 3)).block, (bd.add (k * 3)).off + 2, none⟩ = some ys[k].sl) := Lib.hid (fun w' hb => ⟨cell_kept c0 hb, cell_kept c1 hb, cell_kept c2 hb⟩)
              have ED := Lib.hid ((Below.refl wr.heap.size wr).drew)
              clear hmem c0 c1 c2
              generalize ys[k] = x at *
              obtain ⟨⟨x1, x2, x3⟩, xA, xc⟩ := x
              dsimp only at HF1 HF2 HIN HNI HS2
              go_wp2_with fail
              refine wp_region_held_drew (S := (fun w' : World => w'.cell? (bd.add (k * 3)) = some (.int .i64 x1) ∧ w'.cell? ⟨(bd.add (k * 3)).block, (bd.add (k * 3)).off + 1, none⟩ = some (.int .i64 x2) ∧ w'.cell? ⟨(bd.add (k * 3)).block, (bd.add (k * 3)).off + 2, none⟩ = some (.slice xA x3.length xc))) (by kernel_rfl) (HS2.out _ ED.out) (fun hHeld => ?_)
              refine wpAnyH_take (i := 0) (oi := ⟨_, _, _, _, _, _⟩) (v := ?_) rfl (by kernel_rfl) (by kernel_rfl) (by kernel_rfl) (fun _ _ _ h => h) (Or.inl ⟨by rfl, ?_⟩) (by assumption) ?_
              rotate_left
              · intro w' hSw; (try dsimp only at hSw); go_simp; (try with_reducible rfl)
              try simp only [Act.put, List.setIfInBounds_toArray, List.set_cons_zero, List.set_cons_succ]
              refine wpAnyH_take (i := 1) (oi := ⟨_, _, _, _, _, _⟩) (v := ?_) rfl (by kernel_rfl) (by kernel_rfl) (by kernel_rfl) (fun _ _ _ h => h) (Or.inl ⟨by rfl, ?_⟩) (by assumption) ?_
              rotate_left
              · intro w' hSw; (try dsimp only at hSw); go_simp; (try with_reducible rfl)
              try simp only [Act.put, List.setIfInBounds_toArray, List.set_cons_zero, List.set_cons_succ]
              refine wpAnyH_take (i := 2) (oi := ⟨_, _, _, _, _, _⟩) (v := ?_) rfl (by kernel_rfl) (by kernel_rfl) (by kernel_rfl) (fun _ _ _ h => h) (Or.inl ⟨by rfl, ?_⟩) (by assumption) ?_
              rotate_left
              · intro w' hSw; (try dsimp only at hSw); go_simp; (try with_reducible rfl)
              try simp only [Act.put, List.setIfInBounds_toArray, List.set_cons_zero, List.set_cons_succ]
              refine wpAnyH_take (i := 3) (oi := ⟨_, _, _, _, _, _⟩) (v := ?_) rfl (by kernel_rfl) (by kernel_rfl) (by kernel_rfl) (fun _ _ _ h => h) (Or.inl ⟨by rfl, ?_⟩) (by assumption) ?_
              rotate_left
              · intro w' hSw; (try dsimp only at hSw); go_simp; (try with_reducible rfl)
              try simp only [Act.put, List.setIfInBounds_toArray, List.set_cons_zero, List.set_cons_succ]
              refine wpAnyH_take (i := 4) (oi := ⟨_, _, _, _, _, _⟩) (v := ?_) rfl (by kernel_rfl) (by kernel_rfl) (by kernel_rfl) (fun _ _ _ h => h) (Or.inl ⟨by rfl, ?_⟩) (by assumption) ?_
              rotate_left
              · intro w' hSw; (try dsimp only at hSw); go_simp; (try with_reducible rfl)
              try simp only [Act.put, List.setIfInBounds_toArray, List.set_cons_zero, List.set_cons_succ]
              refine wpAnyH_ready (rs := [5]) (by kernel_rfl) (by simp) ?_
              refine AllReadyH.cons (o := ⟨_, _, _, _, _, _⟩) rfl (fun K9 hK9 => ?_) AllReadyH.nil
              go_simp
              (with_reducible refine (HF1.out _ ED.out).mono ?_)
              rintro e p2 ⟨i1, rfl, hp1, bb2⟩
              have E2 := Lib.hid (ED.out.trans (bb2.mono ED.out.size))
              have hi1 : decide (i1 < 0) = false := pos_yes hp1 HIN.out
              clear bb2 hp1
              go_wp2_with fail
              refine hK9.out _ _ (HS2.out _ E2.out) (fun hHeld => ?_)
              clear hK9 K9
              try simp only [Act.put, List.setIfInBounds_toArray, List.set_cons_zero, List.set_cons_succ]
              refine wpAnyH_take (i := 6) (oi := ⟨_, _, _, _, _, _⟩) (v := ?_) rfl (by kernel_rfl) (by kernel_rfl) (by kernel_rfl) (fun _ _ _ h => h) (Or.inl ⟨by rfl, ?_⟩) (by assumption) ?_
              rotate_left
              · intro w' hSw; (try dsimp only at hSw); go_simp; (try with_reducible rfl)
              try simp only [Act.put, List.setIfInBounds_toArray, List.set_cons_zero, List.set_cons_succ]
              refine wpAnyH_take (i := 7) (oi := ⟨_, _, _, _, _, _⟩) (v := ?_) rfl (by kernel_rfl) (by kernel_rfl) (by kernel_rfl) (fun _ _ _ h => h) (Or.inl ⟨by rfl, ?_⟩) (by assumption) ?_
              rotate_left
              · intro w' hSw; (try dsimp only at hSw); go_simp; (try with_reducible rfl)
              try simp only [Act.put, List.setIfInBounds_toArray, List.set_cons_zero, List.set_cons_succ]
              refine wpAnyH_take (i := 8) (oi := ⟨_, _, _, _, _, _⟩) (v := ?_) rfl (by kernel_rfl) (by kernel_rfl) (by kernel_rfl) (fun _ _ _ h => h) (Or.inl ⟨by rfl, ?_⟩) (by assumption) ?_
              rotate_left
              · intro w' hSw; (try dsimp only at hSw); go_simp; (try with_reducible rfl)
              try simp only [Act.put, List.setIfInBounds_toArray, List.set_cons_zero, List.set_cons_succ]
              refine wpAnyH_take (i := 9) (oi := ⟨_, _, _, _, _, _⟩) (v := ?_) rfl (by kernel_rfl) (by kernel_rfl) (by kernel_rfl) (fun _ _ _ h => h) (Or.inl ⟨by rfl, ?_⟩) (by assumption) ?_
              rotate_left
              · intro w' hSw; (try dsimp only at hSw); go_simp; (try with_reducible rfl)
              try simp only [Act.put, List.setIfInBounds_toArray, List.set_cons_zero, List.set_cons_succ]
              refine wpAnyH_take (i := 10) (oi := ⟨_, _, _, _, _, _⟩) (v := ?_) rfl (by kernel_rfl) (by kernel_rfl) (by kernel_rfl) (fun _ _ _ h => h) (Or.inl ⟨by rfl, ?_⟩) (by assumption) ?_
              rotate_left
              · intro w' hSw; (try dsimp only at hSw); go_simp; (try with_reducible rfl)
              try simp only [Act.put, List.setIfInBounds_toArray, List.set_cons_zero, List.set_cons_succ]
              refine wpAnyH_take (i := 11) (oi := ⟨_, _, _, _, _, _⟩) (v := ?_) rfl (by kernel_rfl) (by kernel_rfl) (by kernel_rfl) (fun _ _ _ h => h) (Or.inl ⟨by rfl, ?_⟩) (by assumption) ?_
              rotate_left
              · intro w' hSw; (try dsimp only at hSw); go_simp; (try with_reducible rfl)
              try simp only [Act.put, List.setIfInBounds_toArray, List.set_cons_zero, List.set_cons_succ]
              refine wpAnyH_take (i := 12) (oi := ⟨_, _, _, _, _, _⟩) (v := ?_) rfl (by kernel_rfl) (by kernel_rfl) (by kernel_rfl) (fun _ _ _ h => h) (Or.inl ⟨by rfl, ?_⟩) (by assumption) ?_
              rotate_left
              · intro w' hSw; (try dsimp only at hSw); go_simp; (try with_reducible rfl)
              try simp only [Act.put, List.setIfInBounds_toArray, List.set_cons_zero, List.set_cons_succ]
              refine wpAnyH_take (i := 13) (oi := ⟨_, _, _, _, _, _⟩) (v := ?_) rfl (by kernel_rfl) (by kernel_rfl) (by kernel_rfl) (fun _ _ _ h => h) (Or.inl ⟨by rfl, ?_⟩) (by assumption) ?_
              rotate_left
              · intro w' hSw; (try dsimp only at hSw); go_simp; (try with_reducible rfl)
              try simp only [Act.put, List.setIfInBounds_toArray, List.set_cons_zero, List.set_cons_succ]
              refine wpAnyH_take (i := 14) (oi := ⟨_, _, _, _, _, _⟩) (v := ?_) rfl (by kernel_rfl) (by kernel_rfl) (by kernel_rfl) (fun _ _ _ h => h) (Or.inl ⟨by rfl, ?_⟩) (by assumption) ?_
              rotate_left
              · intro w' hSw; (try dsimp only at hSw); go_simp; (try with_reducible rfl)
              try simp only [Act.put, List.setIfInBounds_toArray, List.set_cons_zero, List.set_cons_succ]
              refine wpAnyH_ready (rs := [15]) (by kernel_rfl) (by simp) ?_
              refine AllReadyH.cons (o := ⟨_, _, _, _, _, _⟩) rfl (fun K9 hK9 => ?_) AllReadyH.nil
              go_simp
              (with_reducible refine (HF2.out _ E2.out).mono ?_)
              rintro e p3 ⟨i2, rfl, hp2, bb3⟩
              have E3 := Lib.hid (E2.out.trans (bb3.mono E2.out.size))
              obtain rfl := pos_no hp2 HNI.out
              clear bb3 hp2
              go_wp2_with fail
              refine hK9.out _ _ (HS2.out _ E3.out) (fun hHeld => ?_)
              clear hK9 K9
              try simp only [Act.put, List.setIfInBounds_toArray, List.set_cons_zero, List.set_cons_succ]
              refine wpAnyH_take (i := 16) (oi := ⟨_, _, _, _, _, _⟩) (v := ?_) rfl (by kernel_rfl) (by kernel_rfl) (by kernel_rfl) (fun _ _ _ h => h) (Or.inl ⟨by rfl, ?_⟩) (by assumption) ?_
              rotate_left
              · intro w' hSw; (try dsimp only at hSw); go_simp; (try with_reducible rfl)
              try simp only [Act.put, List.setIfInBounds_toArray, List.set_cons_zero, List.set_cons_succ]
              refine wpAnyH_take (i := 17) (oi := ⟨_, _, _, _, _, _⟩) (v := ?_) rfl (by kernel_rfl) (by kernel_rfl) (by kernel_rfl) (fun _ _ _ h => h) (Or.inl ⟨by rfl, ?_⟩) (by assumption) ?_
              rotate_left
              · intro w' hSw; (try dsimp only at hSw); go_simp; (try with_reducible rfl)
              try simp only [Act.put, List.setIfInBounds_toArray, List.set_cons_zero, List.set_cons_succ]
              refine wpAnyH_done (by kernel_rfl) ?_ _
              clear hHeld
              have NX := Lib.hid (HB2.out.trans (E3.out.mono HB2.out.size))
              clear HF1 HF2 HIN HNI HS2 ED E2 E3 hi1
              go_wp2_with fail
              go_roundw
              case rel => exact ⟨k + 1, by omega, by go_num, NX⟩
              case measure => first | (simp [RowKit.intOf]; done) | (simp [RowKit.intOf]; omega)
            · obtain rfl : k = ys.length := by omega
              have HL := Lib.hid (HT3.out _ HB2.out)
              have E3 := Lib.hid (B3.out.trans (HB2.out.mono B3.out.size))
              clear HT3
              go_wp2_with fail
              refine HL.out.mono ?_
              rintro e w9 ⟨rfl, b9⟩
              have HD := Lib.hid (E3.out.trans (b9.mono E3.out.size))
              clear b9 HL
              go_wp2_with fail
              go_ret
              exact ⟨rfl, HD.out⟩
end Go.Proofs.Ytonflknnlfffhaa
