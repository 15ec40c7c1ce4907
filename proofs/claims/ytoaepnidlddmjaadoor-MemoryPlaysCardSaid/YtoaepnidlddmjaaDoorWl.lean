/- wm.Memory: All, Of. -/
import Derived.Test.YtoaepnidlddmjaaDoorWk
namespace Go.Proofs.YtoaepnidlddmjaaDoor
open Go.RowKit Go.Lib KP MR RW
theorem str_eq {a b : ByteArray} (h : a = b) : (a.toList == b.toList) = true := by subst h; simp
theorem str_ne {a b : ByteArray} (h : ¬ a = b) : (a.toList == b.toList) = false := beq_eq_false_iff_ne.2 (fun e => h (by rw [ByteArray.toList_eq, ByteArray.toList_eq] at e; exact ByteArray.ext (Array.ext' e)))
/-- Facts told in a row of the call's own. -/
def ToldF (W : World) (T : List Ft) (e : Ending) (w' : World) : Prop :=
  ∃ (A : Option Addr) (ys : List Fs), e = .returned (.slice A T.length T.length) ∧ ys.map (fun y : Fs => y.1) = T ∧ OwnW w' W.heap.size 55 3 (.slice A T.length T.length) T.length (ys.flatMap fsc) ∧ (∀ y ∈ ys, FreshV W.heap.size w' y) ∧ Below W.heap.size W w'
set_option maxRecDepth 100000 in
set_option maxHeartbeats 4000000 in
theorem all_c {B : Nat} {F : Nat → Prop} {g : Nat} {T : List Ft} {nx : Int} {w0 W : World} (h : Inv B w0 F g T nx W) : Calls Tryd.prog 14 #[.pointer (some ⟨g, 0, none⟩)] W (ToldF W T) := by
  obtain ⟨i0, hi, hz0, hz1, hz2⟩ := info_parts infoF
  obtain ⟨m, v, xs, e, hm, h0⟩ := h
  obtain ⟨A0, c0, rfl, _, _, _⟩ := hm.rows
  have HM := Lib.hid (fun W' (hb : Below W.heap.size W W') => hm.grow hb)
  have hcell := block_cell (j := 0) hm.blk rfl
  have hn1 := hm.few
  have hnI : (xs.length : Int) ≤ 1000 := by omega
  have HE := Lib.hid e
  clear hm h0 e
  go_enter Tryd.func14, Tryd.ntmps14
  go_wp2_with fail
  go_loopw [3, 11] (fun v i wr => ∃ (k : Nat) (ys : List Fs) (vo : Value), k ≤ xs.length ∧ i = .int .i64 k ∧ vo = v ∧ ys.length ≤ k ∧ Hid (ys.map (·.1) = T.take k) ∧ Hid (OwnW wr W.heap.size 55 3 vo ys.length (ys.flatMap fsc)) ∧ Hid (∀ y ∈ ys, FreshV W.heap.size wr y) ∧ Hid (Below W.heap.size W wr)) (fun _ i _ => xs.length - (RowKit.intOf i).toNat)
  case atStart => exact ⟨0, [], _, by omega, rfl, rfl, by simp, Lib.hid (by simp), Lib.hid (OwnW.nil _ _ _ _), Lib.hid (fun _ h => by cases h), Lib.hid (Below.refl _ _)⟩
  case round =>
    obtain ⟨k, ys, vo, hk, rfl, rfl, hyk, hYS, hO, hFr, hB⟩ := hrel
    clear hcell
    by_cases hlt : k < xs.length
    · have hm1 := HM.out _ hB.out
      obtain ⟨gl, cap, hv, hc0, hc1, hc2⟩ := hm1.row_at hlt
      injection hv with hv1 hv2 hv3
      subst hv1
      have HV := Lib.hid ((hm1.vals xs[k] (List.getElem_mem hlt)).mono (M := fun _ => False) (fun _ h => h.elim))
      have HTS := Lib.hid (hm1.ts xs[k] (List.getElem_mem hlt))
      have hkI : (k : Int) < (xs.length : Int) := by omega
      have HT1 := Lib.hid (show T.take (k + 1) = T.take k ++ [xs[k].1] by
        have hT : k < T.length := by rw [← HE.out, List.length_map]; exact hlt
        rw [List.take_succ_eq_append_getElem hT]
        have := HE.out
        subst this
        simp)
      clear hm1 hv2 hv3
      generalize xs[k] = x at *
      obtain ⟨⟨x1, t, l⟩, xA, xc⟩ := x
      dsimp only at hc0 hc1 hc2 HV HTS HT1
      have YN := Lib.hid (fun (y : Fs) (hy : y.1 = (x1, t, l)) => (show (ys ++ [y]).map (·.1) = T.take (k + 1) by
        rw [HT1.out, List.map_append, hYS.out]; simp [hy]))
      clear HT1
      have E5 := Lib.hid (hB.out.alloc hB.out.size (.cells #[.int .i64 x1, .string t, .slice xA l.length xc] 55))
      have D5 := Lib.hid ((Below.refl wr.heap.size wr).alloc (Nat.le_refl _) (.cells #[.int .i64 x1, .string t, .slice xA l.length xc] 55))
      go_wp2_with fail
      refine (apart_f ((x1, t, l), xA, xc) _ (HV.out.below D5.out) HTS.out).mono ?_
      rintro e w6 ⟨A', c', rfl, hf, b6⟩
      have E6 := Lib.hid (E5.out.trans (b6.mono E5.out.size))
      have D6 := Lib.hid (D5.out.trans (b6.mono D5.out.size))
      have HF6 := Lib.hid (show FreshV W.heap.size w6 ((x1, t, l), A', c') from ⟨hf.own.mono E5.out.size, hf.few, hf.ok, hf.ts⟩)
      clear hf b6 hc0 hc1 hc2
      have O7 := Lib.hid ((hO.out.below D6.out).below ((Below.refl w6.heap.size w6).alloc (Nat.le_refl _) (.cells #[.int .i64 x1, .string t, .slice A' l.length c'] 55)))
      have N7 := Lib.hid (new_one (f := fsc) (m := 3) (N := fun _ => False) w6 ((x1, t, l), A', c') 55 (fun h => h))
      have E7 := Lib.hid (E6.out.alloc E6.out.size (.cells #[.int .i64 x1, .string t, .slice A' l.length c'] 55))
      have F7 : Hid (∀ y ∈ ys ++ [((x1, t, l), A', c')], FreshV W.heap.size (w6.alloc (.cells #[.int .i64 x1, .string t, .slice A' l.length c'] 55)) y) := Lib.hid (fun y hy => by
        rcases List.mem_append.1 hy with hy | hy
        · exact ((hFr.out y hy).below D6.out).below ((Below.refl w6.heap.size w6).alloc (Nat.le_refl _) _)
        · obtain rfl := List.mem_singleton.1 hy
          exact HF6.out.below ((Below.refl w6.heap.size w6).alloc (Nat.le_refl _) _))
      go_wp2_with (at_builtin; (refine wpList_append_ownW (f := fsc) fsc_len fsc_flat (by decide) rfl (.tmp 15) (.tmp 18) 40 rfl W.heap.size 55 i0 zF 48 Tryd.underlying40 hi hz0 hz1 hz2 rfl vo ys.length ys rfl O7.out (some ⟨w6.heap.size, 0, none⟩) 1 [((x1, t, l), A', c')] (fun h => by cases h) N7.out rfl (by unfold maxLen; simp; omega) (by simp; omega) E7.out.size ?_))
      intro v8 w8 ho8 hg8 _
      have E8 := Lib.hid (E7.out.grown hg8 E7.out.size (fun q hq => (O7.out.lt hq).1))
      have O8 := Lib.hid (show OwnW w8 W.heap.size 55 3 v8 (ys ++ [((x1, t, l), A', c')]).length ((ys ++ [((x1, t, l), A', c')]).flatMap fsc) by rw [List.length_append, List.flatMap_append, List.flatMap_singleton]; exact ho8)
      have K8 := Lib.hid ((Keep.refl (fun k => vo.ownBlock = some k) _).grown hg8 (fun q hq => .inl hq))
      have F8 : Hid (∀ y ∈ ys ++ [((x1, t, l), A', c')], FreshV W.heap.size w8 y) := Lib.hid (fun y hy => (F7.out y hy).keep K8.out (fun q hq hv => own_apart O7.out (F7.out y hy).own (by decide) q hv hq))
      clear ho8 hg8
      go_wp2_with fail
      go_roundw
      case rel => exact ⟨k + 1, ys ++ [((x1, t, l), A', c')], _, by omega, by go_num, rfl, by simp; omega, Lib.hid (YN.out _ rfl), O8, F8, E8⟩
      case measure => first | (simp [RowKit.intOf]; done) | (simp [RowKit.intOf]; omega)
    · obtain rfl : k = xs.length := by omega
      have HN := Lib.hid (show ys.map (·.1) = T by
        rw [hYS.out, List.take_of_length_le (by rw [← HE.out, List.length_map]; exact Nat.le_refl _)])
      have hyn := Lib.hid (show ys.length = T.length by rw [← HN.out, List.length_map])
      obtain ⟨A, c, hv, _, _, hle, _⟩ := hO.out.rows (N := fun _ => False) fsc_len (by decide) (fun _ _ h => h)
      subst hv
      have HC := Lib.hid hO.out.clip
      clear hlt hYS
      go_wp2_with fail
      refine (clipF_c A ys.length c _ hle).mono ?_
      rintro e w9 ⟨rfl, rfl⟩
      go_wp2_with fail
      go_ret
      exact ⟨A, ys, by rw [← hyn.out]; rfl, HN.out, by rw [← hyn.out]; exact HC.out, hFr.out, hB.out⟩
set_option maxRecDepth 100000 in
set_option maxHeartbeats 4000000 in
theorem of_c (s : ByteArray) {B : Nat} {F : Nat → Prop} {g : Nat} {T : List Ft} {nx : Int} {w0 W : World} (h : Inv B w0 F g T nx W) : Calls Tryd.prog 16 #[.pointer (some ⟨g, 0, none⟩), .string s] W (ToldF W (T.filter fun f => decide (f.2.1 = s))) := by
  obtain ⟨i0, hi, hz0, hz1, hz2⟩ := info_parts infoF
  obtain ⟨m, v, xs, e, hm, h0⟩ := h
  obtain ⟨A0, c0, rfl, _, _, _⟩ := hm.rows
  have HM := Lib.hid (fun W' (hb : Below W.heap.size W W') => hm.grow hb)
  have hcell := block_cell (j := 0) hm.blk rfl
  have hn1 := hm.few
  have hnI : (xs.length : Int) ≤ 1000 := by omega
  have HE := Lib.hid e
  clear hm h0 e
  go_enter Tryd.func16, Tryd.ntmps16
  go_wp2_with fail
  go_loopw [5, 13] (fun v i wr => ∃ (k : Nat) (ys : List Fs) (vo : Value), k ≤ xs.length ∧ i = .int .i64 k ∧ vo = v ∧ ys.length ≤ k ∧ Hid (ys.map (·.1) = ((T.take k).filter fun f => decide (f.2.1 = s))) ∧ Hid (OwnW wr W.heap.size 55 3 vo ys.length (ys.flatMap fsc)) ∧ Hid (∀ y ∈ ys, FreshV W.heap.size wr y) ∧ Hid (Below W.heap.size W wr)) (fun _ i _ => xs.length - (RowKit.intOf i).toNat)
  case atStart => exact ⟨0, [], _, by omega, rfl, rfl, by simp, Lib.hid (by simp), Lib.hid (OwnW.nil _ _ _ _), Lib.hid (fun _ h => by cases h), Lib.hid (Below.refl _ _)⟩
  case round =>
    obtain ⟨k, ys, vo, hk, rfl, rfl, hyk, hYS, hO, hFr, hB⟩ := hrel
    clear hcell
    by_cases hlt : k < xs.length
    · have hm1 := HM.out _ hB.out
      obtain ⟨gl, cap, hv, hc0, hc1, hc2⟩ := hm1.row_at hlt
      injection hv with hv1 hv2 hv3
      subst hv1
      have HV := Lib.hid ((hm1.vals xs[k] (List.getElem_mem hlt)).mono (M := fun _ => False) (fun _ h => h.elim))
      have HTS := Lib.hid (hm1.ts xs[k] (List.getElem_mem hlt))
      have hkI : (k : Int) < (xs.length : Int) := by omega
      have HT1 := Lib.hid (show T.take (k + 1) = T.take k ++ [xs[k].1] by
        have hT : k < T.length := by rw [← HE.out, List.length_map]; exact hlt
        rw [List.take_succ_eq_append_getElem hT]
        have := HE.out
        subst this
        simp)
      clear hm1 hv2 hv3
      generalize xs[k] = x at *
      obtain ⟨⟨x1, t, l⟩, xA, xc⟩ := x
      dsimp only at hc0 hc1 hc2 HV HTS HT1
      by_cases hts : t = s
      · have q1 := str_eq hts
        have YN := Lib.hid (fun (y : Fs) (hy : y.1 = (x1, t, l)) => (show (ys ++ [y]).map (·.1) = ((T.take (k + 1)).filter fun f => decide (f.2.1 = s)) by
          rw [HT1.out, List.map_append, hYS.out, List.filter_append, List.filter_cons_of_pos (by simp [hts])]; simp [hy]))
        clear hts HT1
        have E5 := Lib.hid (hB.out.alloc hB.out.size (.cells #[.int .i64 x1, .string t, .slice xA l.length xc] 55))
        have D5 := Lib.hid ((Below.refl wr.heap.size wr).alloc (Nat.le_refl _) (.cells #[.int .i64 x1, .string t, .slice xA l.length xc] 55))
        go_wp2_with fail
        refine (apart_f ((x1, t, l), xA, xc) _ (HV.out.below D5.out) HTS.out).mono ?_
        rintro e w6 ⟨A', c', rfl, hf, b6⟩
        have E6 := Lib.hid (E5.out.trans (b6.mono E5.out.size))
        have D6 := Lib.hid (D5.out.trans (b6.mono D5.out.size))
        have HF6 := Lib.hid (show FreshV W.heap.size w6 ((x1, t, l), A', c') from ⟨hf.own.mono E5.out.size, hf.few, hf.ok, hf.ts⟩)
        clear hf b6 hc0 hc1 hc2
        have O7 := Lib.hid ((hO.out.below D6.out).below ((Below.refl w6.heap.size w6).alloc (Nat.le_refl _) (.cells #[.int .i64 x1, .string t, .slice A' l.length c'] 55)))
        have N7 := Lib.hid (new_one (f := fsc) (m := 3) (N := fun _ => False) w6 ((x1, t, l), A', c') 55 (fun h => h))
        have E7 := Lib.hid (E6.out.alloc E6.out.size (.cells #[.int .i64 x1, .string t, .slice A' l.length c'] 55))
        have F7 : Hid (∀ y ∈ ys ++ [((x1, t, l), A', c')], FreshV W.heap.size (w6.alloc (.cells #[.int .i64 x1, .string t, .slice A' l.length c'] 55)) y) := Lib.hid (fun y hy => by
          rcases List.mem_append.1 hy with hy | hy
          · exact ((hFr.out y hy).below D6.out).below ((Below.refl w6.heap.size w6).alloc (Nat.le_refl _) _)
          · obtain rfl := List.mem_singleton.1 hy
            exact HF6.out.below ((Below.refl w6.heap.size w6).alloc (Nat.le_refl _) _))
        go_wp2_with (at_builtin; (refine wpList_append_ownW (f := fsc) fsc_len fsc_flat (by decide) rfl (.tmp 21) (.tmp 24) 40 rfl W.heap.size 55 i0 zF 48 Tryd.underlying40 hi hz0 hz1 hz2 rfl vo ys.length ys rfl O7.out (some ⟨w6.heap.size, 0, none⟩) 1 [((x1, t, l), A', c')] (fun h => by cases h) N7.out rfl (by unfold maxLen; simp; omega) (by simp; omega) E7.out.size ?_))
        intro v8 w8 ho8 hg8 _
        have E8 := Lib.hid (E7.out.grown hg8 E7.out.size (fun q hq => (O7.out.lt hq).1))
        have O8 := Lib.hid (show OwnW w8 W.heap.size 55 3 v8 (ys ++ [((x1, t, l), A', c')]).length ((ys ++ [((x1, t, l), A', c')]).flatMap fsc) by rw [List.length_append, List.flatMap_append, List.flatMap_singleton]; exact ho8)
        have K8 := Lib.hid ((Keep.refl (fun k => vo.ownBlock = some k) _).grown hg8 (fun q hq => .inl hq))
        have F8 : Hid (∀ y ∈ ys ++ [((x1, t, l), A', c')], FreshV W.heap.size w8 y) := Lib.hid (fun y hy => (F7.out y hy).keep K8.out (fun q hq hv => own_apart O7.out (F7.out y hy).own (by decide) q hv hq))
        clear ho8 hg8
        go_wp2_with fail
        go_roundw
        case rel => exact ⟨k + 1, ys ++ [((x1, t, l), A', c')], _, by omega, by go_num, rfl, by simp; omega, Lib.hid (YN.out _ rfl), O8, F8, E8⟩
        case measure => first | (simp [RowKit.intOf]; done) | (simp [RowKit.intOf]; omega)
      · have q1 := str_ne hts
        have YN := Lib.hid (show ys.map (·.1) = ((T.take (k + 1)).filter fun f => decide (f.2.1 = s)) by
          rw [HT1.out, hYS.out, List.filter_append, List.filter_cons_of_neg (by simp [hts])]; simp)
        clear hts HT1
        have E5 := Lib.hid (hB.out.alloc hB.out.size (.cells #[.int .i64 x1, .string t, .slice xA l.length xc] 55))
        have D5 := Lib.hid ((Below.refl wr.heap.size wr).alloc (Nat.le_refl _) (.cells #[.int .i64 x1, .string t, .slice xA l.length xc] 55))
        have O7 := Lib.hid (hO.out.below D5.out)
        have F7 : Hid (∀ y ∈ ys, FreshV W.heap.size (wr.alloc (.cells #[.int .i64 x1, .string t, .slice xA l.length xc] 55)) y) := Lib.hid (fun y hy => (hFr.out y hy).below D5.out)
        go_wp2_with fail
        go_roundw
        case rel => exact ⟨k + 1, ys, _, by omega, by go_num, rfl, by omega, YN, O7, F7, E5⟩
        case measure => first | (simp [RowKit.intOf]; done) | (simp [RowKit.intOf]; omega)
    · obtain rfl : k = xs.length := by omega
      have HN := Lib.hid (show ys.map (·.1) = (T.filter fun f => decide (f.2.1 = s)) by
        rw [hYS.out, List.take_of_length_le (by rw [← HE.out, List.length_map]; exact Nat.le_refl _)])
      have hyn := Lib.hid (show ys.length = (T.filter fun f => decide (f.2.1 = s)).length by rw [← HN.out, List.length_map])
      obtain ⟨A, c, hv, _, _, hle, _⟩ := hO.out.rows (N := fun _ => False) fsc_len (by decide) (fun _ _ h => h)
      subst hv
      have HC := Lib.hid hO.out.clip
      clear hlt hYS
      go_wp2_with fail
      refine (clipF_c A ys.length c _ hle).mono ?_
      rintro e w9 ⟨rfl, rfl⟩
      go_wp2_with fail
      go_ret
      exact ⟨A, ys, by rw [← hyn.out]; rfl, HN.out, by rw [← hyn.out]; exact HC.out, hFr.out, hB.out⟩
end Go.Proofs.YtoaepnidlddmjaaDoor
