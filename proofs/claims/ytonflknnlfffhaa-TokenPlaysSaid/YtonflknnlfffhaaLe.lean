/- The law's own path. -/
import Derived.Test.YtonflknnlfffhaaLd
namespace Go.Proofs.Ytonflknnlfffhaa
open Go.RowKit Go.Lib KP MR RW
set_option maxRecDepth 100000 in
set_option maxHeartbeats 4000000 in
theorem path_l_no (A : Option Addr) (c : Nat) (T : List Tk) (id : Int) (W : World) (hT : ToksAt (fun _ => False) W A T) (hl : T.length ≤ 900) (h0 : id ≠ 0) (hn : ∀ t ∈ T, t.1 ≠ id) :
    Calls Try.prog 17 #[.slice A T.length c, .int .i64 id] W fun e w' => e = .returned (.slice none 0 0) ∧ W = w' := by
  have HC := Lib.hid (at_c A c T id W hT (by omega))
  have hz : (id != 0) = true := by simp [h0]
  have HN := Lib.hid hn
  clear hT h0 hn
  go_enter Try.func17, Try.ntmps17
  go_wp2_with fail
  go_loopw [1, 5] (fun iv v wr => iv = .int .i64 id ∧ v = .slice none 0 0 ∧ Hid (W = wr)) (fun _ _ _ => 0)
  case atStart => exact ⟨rfl, rfl, Lib.hid rfl⟩
  case round =>
    obtain ⟨rfl, rfl, hW⟩ := hrel
    obtain rfl := hW.out
    clear hW
    go_wp2_with fail
    refine HC.out.mono ?_
    rintro e w1 ⟨a, rfl, hat, rfl⟩
    rcases hat with ⟨rfl, _⟩ | ⟨j, hj, rfl, ej⟩
    · clear HC
      go_wp2_with fail
      go_ret
      exact ⟨rfl, rfl⟩
    · exact absurd ej (HN.out _ (List.getElem_mem hj))
set_option maxRecDepth 100000 in
set_option maxHeartbeats 4000000 in
theorem path_l (A : Option Addr) (c : Nat) (T : List Tk) (id : Int) (W : World) (hT : ToksAt (fun _ => False) W A T) (hw : WF T) (hl : T.length ≤ 900) {l : List Int} (hu : Up T id l) (hll : l.length ≤ 1000000) :
    Calls Try.prog 17 #[.slice A T.length c, .int .i64 id] W fun e w' => ∃ v, e = .returned v ∧ OwnI w' W.heap.size v l.reverse ∧ Below W.heap.size W w' := by
  obtain ⟨i0, hi, hz0, hz1, hz2⟩ := info_parts infoI
  have HT := Lib.hid (fun w' (h : Below W.heap.size W w') => RowsAt.below hT h)
  have HW := Lib.hid hw
  have HU := Lib.hid (show ∃ done rest, l = done ++ rest ∧ Up T id rest ∧ OwnI W W.heap.size (.slice none 0 0) done.reverse ∧ Below W.heap.size W W from ⟨[], l, rfl, hu, OwnW.nil _ _ _ _, Below.refl _ _⟩)
  have hTI : (T.length : Int) ≤ 900 := by omega
  clear hT hu hw
  go_enter Try.func17, Try.ntmps17
  go_wp2_with fail
  go_loopw [1, 5] (fun iv v wr => ∃ (cur : Int) (vo : Value), iv = .int .i64 cur ∧ vo = v ∧ Hid (∃ done rest, l = done ++ rest ∧ Up T cur rest ∧ OwnI wr W.heap.size vo done.reverse ∧ Below W.heap.size W wr)) (fun iv _ _ => (RowKit.intOf iv).toNat)
  case atStart => exact ⟨id, _, rfl, rfl, HU⟩
  case round =>
    obtain ⟨cur, vo, rfl, rfl, HP⟩ := hrel
    clear HU
    obtain ⟨done, rest, he, hup, hown, hb⟩ := HP.out
    clear HP
    have hpos := hup.pos HW.out
    by_cases hz : cur = 0
    · subst hz
      have hrn := hup.isNil HW.out
      subst hrn
      rw [List.append_nil] at he
      subst he
      have hzb : ((0 : Int) != 0) = false := rfl
      have HO := Lib.hid hown
      have HB := Lib.hid hb
      clear hown hb hup
      go_wp2_with fail
      go_ret
      exact ⟨vo, rfl, HO.out, HB.out⟩
    · have hzb : (cur != 0) = true := by simp [hz]
      obtain ⟨t, ht, et, rest', er, hup'⟩ := hup.step hz
      subst er
      have hdl : done.length + 1 ≤ 1000000 := by rw [he] at hll; simp at hll; omega
      have HC := Lib.hid (at_c A c T cur wr (HT.out _ hb) (by omega))
      have HE := Lib.hid he; have HUP := Lib.hid hup'; have HOW := Lib.hid hown; have HB := Lib.hid hb
      have HTT := Lib.hid ht; have HET := Lib.hid et
      have hlt : t.2.1.toNat < cur.toNat := by
        have h1 := (HW.out.par t ht).2
        omega
      clear he hup hup' hown hb ht et hz
      go_wp2_with fail
      refine HC.out.mono ?_
      rintro e w1 ⟨a, rfl, hat, rfl⟩
      rcases hat with ⟨rfl, hn⟩ | ⟨j, hj, rfl, ej⟩
      · exact absurd HET.out (hn t HTT.out)
      · obtain rfl := HW.out.uniq HTT.out (List.getElem_mem hj) (HET.out.trans ej.symm)
        have hjI : ¬ ((j : Int) < 0) := by omega
        have hjT : (j : Int) < (T.length : Int) := by omega
        obtain ⟨ad, rfl, -, -, -, c2⟩ := ToksAt.at (HT.out _ HB.out) hj
        obtain ⟨VA, vc, ev, hr, hA, _⟩ := OwnI.row HOW.out
        subst ev
        have HC1 := Lib.hid (fun w' (h : Below W.heap.size W w') => by
          obtain ⟨ad', e', -, -, c1, -⟩ := ToksAt.at (HT.out w' h) hj
          obtain rfl := Option.some.inj e'
          exact c1)
        obtain ⟨fc, hfc⟩ : ∃ fc, Hid (fc = T[j].2.2) := ⟨_, Lib.hid rfl⟩
        obtain ⟨par, hpar⟩ : ∃ par, Hid (par = T[j].2.1) := ⟨_, Lib.hid rfl⟩
        rw [← hfc.out] at c2 HE
        rw [← hpar.out] at HUP hlt HC1
        have D5 := Lib.hid ((Below.refl wr.heap.size wr).alloc (Nat.le_refl _) (.cells #[.int .i64 fc] 3))
        have B5 := Lib.hid (HB.out.trans (D5.out.mono HB.out.size))
        have O5 : Hid (OwnW (wr.alloc (.cells #[.int .i64 fc] 3)) W.heap.size 3 1 (.slice (some ⟨wr.heap.size, 0, none⟩) 1 1) 1 ([fc].flatMap intc)) := Lib.hid (OwnW.made (f := intc) intc_len wr fc 3 HB.out.size)
        have R5 := Lib.hid (RowsAt.below hr D5.out)
        have HA := Lib.hid hA
        have hrl : done.reverse.length = done.length := List.length_reverse
        have LL : Hid ([fc] ++ done.reverse = (done ++ [fc]).reverse) := Lib.hid (by simp)
        have HLE : Hid (l = (done ++ [fc]) ++ rest') := Lib.hid (by rw [HE.out]; simp)
        rw [hrl]
        generalize done.reverse = dr at *
        clear hr hA HOW HC HE D5 HTT HET
        go_wp2_with (at_builtin; (refine wpList_append_ownW (f := intc) intc_len intc_flat (by decide) rfl (.tmp 19) (.tmp 20) 35 rfl W.heap.size 3 i0 zI 8 Try.underlying35 hi hz0 hz1 hz2 rfl (.slice (some ⟨wr.heap.size, 0, none⟩) 1 1) 1 [fc] rfl O5.out VA vc dr HA.out R5.out (by rw [hrl]; rfl) (by unfold maxLen; omega) (by omega) B5.out.size ?_))
        intro v6 w6 ho6 hg6 _
        have O6 := Lib.hid (show OwnI w6 W.heap.size v6 (done ++ [fc]).reverse by
          rw [← LL.out]
          unfold OwnI
          rw [List.length_append, hrl]
          exact ho6)
        have B6 := Lib.hid (B5.out.grown hg6 B5.out.size (fun q hq => (O5.out.lt hq).1))
        have c16 := HC1.out w6 B6.out
        have NX := Lib.hid (show ∃ done rest, l = done ++ rest ∧ Up T par rest ∧ OwnI w6 W.heap.size v6 done.reverse ∧ Below W.heap.size W w6 from ⟨done ++ [fc], rest', HLE.out, HUP.out, O6.out, B6.out⟩)
        clear ho6 hg6 O6 B6 R5 O5 B5 c2 HC1
        go_wp2_with fail
        go_roundw
        case rel => exact ⟨par, v6, rfl, rfl, NX⟩
        case measure => simpa [RowKit.intOf] using hlt
end Go.Proofs.Ytonflknnlfffhaa
