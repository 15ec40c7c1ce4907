/- SupportOrder: any supports. -/
import Derived.Test.YtonflknnlfffhaaUr
namespace Go.Proofs.Ytonflknnlfffhaa
open Go.RowKit Go.Lib KP MR RW
/-- Told once, in the order they came. -/
def addU (u : List Wy) (x : Wy) : List Wy := if x ∈ u then u else u ++ [x]
def once (l : List Wy) : List Wy := l.foldl addU []
def PU (u : List Wy) : Pl := if u = [] then [] else [(5, false, u)]
theorem addU_ne (u : List Wy) (x : Wy) : addU u x ≠ [] := by
  unfold addU
  split
  · rename_i h; exact fun e => by rw [e] at h; cases h
  · simp
theorem addU_len (u : List Wy) (x : Wy) : (addU u x).length ≤ u.length + 1 := by
  unfold addU
  split <;> simp
theorem sup_PU (u : List Wy) (x : Wy) : supP (PU u) 5 x = PU (addU u x) ∧ supC (PU u) u 5 x = addU u x := by
  by_cases h : u = []
  · subst h
    constructor
    · simp [PU, supP, lsP, ofP, addU]
    · simp [PU, supC, lsP, addU]
  · have e1 : PU u = [(5, false, u)] := by unfold PU; rw [if_neg h]
    have e2 : PU (addU u x) = [(5, false, addU u x)] := by unfold PU; rw [if_neg (addU_ne u x)]
    rw [e1, e2]
    by_cases hx : x ∈ u
    · simp [supP, supC, lsP, ofP, addU, hx]
    · simp [supP, supC, lsP, ofP, addU, hx]
theorem wh_PU (u : List Wy) : wh (PU u) 5 = (false, u) := by
  unfold PU
  split
  · rename_i h; subst h; rfl
  · simp [wh, lk]
theorem stand_PU (u : List Wy) : standQ (lk (PU u) 5) = decide (0 < u.length) := by
  unfold PU
  split
  · rename_i h; subst h; rfl
  · simp [standQ, lk]
theorem once_snoc (l : List Wy) (x : Wy) : once (l ++ [x]) = addU (once l) x := by
  unfold once
  rw [List.foldl_append]
  rfl
theorem foldl_addU_ne : ∀ (l : List Wy) (u : List Wy), u ≠ [] → l.foldl addU u ≠ []
  | [], _, h => h
  | x :: l, u, _ => foldl_addU_ne l _ (addU_ne u x)
theorem once_nil (l : List Wy) : once l = [] ↔ l = [] := by
  cases l with
  | nil => simp [once]
  | cons x l => simp only [once, List.foldl_cons, reduceCtorEq, iff_false]; exact foldl_addU_ne l _ (addU_ne _ _)
theorem once_len (l : List Wy) : (once l).length ≤ l.length := by
  unfold once
  suffices ∀ (l u : List Wy), (l.foldl addU u).length ≤ u.length + l.length by simpa using this l []
  intro l
  induction l with
  | nil => intro u; simp
  | cons x l ih => intro u; have h1 := ih (addU u x); have h2 := addU_len u x; simp only [List.foldl_cons, List.length_cons]; omega
theorem rows_yes (A : Option Addr) (c n : Nat) (L : List Wf) (A2 : Option Addr) (c2 n2 : Nat) (M : List Wf) (W : World) (hn : L.length = n) (hn2 : M.length = n2) (e : L.map (·.1) = M.map (·.1)) (hI : RowsAt whyc 3 (fun _ => False) W A L) (hL : ∀ x ∈ L, ArgY W x) (hI2 : RowsAt whyc 3 (fun _ => False) W A2 M) (hM : ∀ x ∈ M, ArgY W x) (hl : L.length ≤ 100000) :
    Calls Try.prog 24 #[.slice A n c, .slice A2 n2 c2] W fun e w' => e = .returned (.bool true) ∧ Below W.heap.size W w' := by
  subst hn hn2
  have := rows_c A c L A2 c2 M W hI hL hI2 hM hl
  rw [decide_eq_true e] at this
  exact this
/-- The loop's: a table, the row told. -/
structure OrdI (B : Nat) (w0 : World) (g : Nat) (l : List Wf) (k : Nat) (vo : Value) (ws : List Wf) (wr : World) : Prop where
  tab : ∃ F, Tab B w0 F g (PU (once ((l.take k).map (·.1)))) (once ((l.take k).map (·.1))) wr ∧ ∀ q, vo.ownBlock = some q → ¬ F q
  own : OwnW wr B 50 3 vo ws.length (ws.flatMap whyc)
  told : ws.map (·.1) = once ((l.take k).map (·.1))
  of : ∀ x ∈ ws, x ∈ l ∧ x.1.2.2.length ≤ 20
set_option maxRecDepth 100000 in
set_option maxHeartbeats 8000000 in
theorem supportOrder_any (A : Option Addr) (c : Nat) (l : List Wf) (w : World) (hT : WhysIn w A l) : Calls Try.prog 5 #[.slice A l.length c] w fun e w' => e = .returned (.bool true) ∧ Below w.heap.size w w' := by
  by_cases hl : ¬ l.length ≤ 60
  · have hlI : (60 : Int) < (l.length : Int) := by omega
    clear hT hl
    go_enter Try.func5, Try.ntmps5
    go_wp2_with fail
    refine (known_c w).mono ?_
    rintro e w1 ⟨rfl, b1⟩
    have E1 := Lib.hid b1; clear b1
    go_wp2_with fail
    go_ret
    exact ⟨rfl, E1.out⟩
  have hl60 : l.length ≤ 60 := by omega
  have hlI : (l.length : Int) ≤ 60 := by omega
  obtain ⟨i0, hi, hz0, hz1, hz2⟩ := info_parts infoW
  have HIN := Lib.hid hT
  clear hl hT
  go_enter Try.func5, Try.ntmps5
  go_wp2_with fail
  refine (known_c w).mono ?_
  rintro e w1 ⟨rfl, b1⟩
  have E1 := Lib.hid b1; clear b1
  go_wp2_with fail
  refine (new_t w1).mono ?_
  rintro e w2 ⟨g, F2, rfl, t2, -⟩
  have HA : Hid (∀ w', Below w1.heap.size w1 w' → RowsAt whyc 3 (fun _ => False) w' A l ∧ ∀ x ∈ l, x.1.2.2.length ≤ 20 → ArgY w' x ∧ IntsAt (fun q => w1.heap.size ≤ q) w' x.2.1 x.1.2.2) := Lib.hid (fun w' hb => by
    obtain ⟨h1, h2⟩ := HIN.out.at (E1.out.trans (hb.mono E1.out.size))
    exact ⟨h1, fun x hx hf => by
      obtain ⟨h3, h4⟩ := h2 x hx (by omega)
      exact ⟨h3, h4.mono (fun q hq => Nat.le_trans E1.out.size hq)⟩⟩)
  have I0 : Hid (OrdI w1.heap.size w1 g l 0 (.slice none 0 0) [] w2) := Lib.hid ⟨⟨F2, t2, fun q hq => by cases hq⟩, OwnW.nil _ _ _ _, rfl, fun _ h => by cases h⟩
  have E2 := Lib.hid t2.below
  clear t2
  go_wp2_with fail
  go_loopw [4, 5] (fun v i wr => ∃ (k : Nat) (vo : Value) (ws : List Wf), k ≤ l.length ∧ i = .int .i64 k ∧ vo = v ∧ ws.length ≤ k ∧ Hid (OrdI w1.heap.size w1 g l k vo ws wr)) (fun _ i _ => l.length - (RowKit.intOf i).toNat)
  case atStart => exact ⟨0, _, [], by omega, rfl, rfl, by simp, I0⟩
  case round =>
    obtain ⟨k, vo, ws, hk, rfl, rfl, hwk, hI⟩ := hrel
    clear I0
    obtain ⟨F, ht, hvF⟩ := hI.out.tab
    by_cases hlt : k < l.length
    · obtain ⟨hr, ha⟩ := HA.out _ ht.below
      have hkI : (k : Int) < (l.length : Int) := by omega
      obtain ⟨ad, rfl, -, c0, c1, c2⟩ := whys_at hr hlt
      have hmem := List.getElem_mem hlt
      have hax := ha _ hmem
      have HTK : Hid (once ((l.take (k + 1)).map (·.1)) = addU (once ((l.take k).map (·.1))) l[k].1) := Lib.hid (by
        rw [List.take_succ_eq_append_getElem hlt, List.map_append, List.map_cons, List.map_nil, once_snoc])
      have HC : Hid (∀ w', Below w1.heap.size w1 w' → w'.cell? (ad.add (k * 3)) = some (.int .i64 l[k].1.1) ∧ w'.cell? ⟨(ad.add (k * 3)).block, (ad.add (k * 3)).off + 1, none⟩ = some (.int .i64 l[k].1.2.1) ∧ w'.cell? ⟨(ad.add (k * 3)).block, (ad.add (k * 3)).off + 2, none⟩ = some l[k].sl) := Lib.hid (fun w' hb => by
        obtain ⟨ad2, e2, -, d0, d1, d2⟩ := whys_at (HA.out w' hb).1 hlt
        injection e2 with e2
        subst e2
        exact ⟨d0, d1, d2⟩)
      generalize l[k] = x at *
      obtain ⟨⟨x1, x2, x3⟩, xA, xc⟩ := x
      dsimp only at c0 c1 c2 hax HTK HC
      by_cases hx20 : ¬ x3.length ≤ 20
      · have hxI : (20 : Int) < (x3.length : Int) := by omega
        have HB := Lib.hid (E1.out.trans (ht.below.mono E1.out.size))
        clear hx20 hax hr ha hmem
        go_wp2_with fail
        go_ret
        exact ⟨rfl, HB.out⟩
      · have hx20 : x3.length ≤ 20 := by omega
        have hxI : (x3.length : Int) ≤ 20 := by omega
        obtain ⟨hay, hin⟩ := hax hx20
        have hul : (once ((l.take k).map (·.1))).length ≤ 60 := by
          refine Nat.le_trans (once_len _) ?_
          rw [List.length_map, List.length_take]
          omega
        have hPl : (PU (once ((l.take k).map (·.1)))).length ≤ 1 := by unfold PU; split <;> simp
        have HSUP := Lib.hid (support_t ht 5 ((x1, x2, x3), xA, xc) hay (hin.mono (fun q hq => (ht.lt q hq).1)) (by decide) (by omega) (fun p hp => by
          unfold PU at hp
          split at hp
          · cases hp
          · rw [List.mem_singleton] at hp
            subst hp
            dsimp only
            omega) (by omega))
        rw [(sup_PU _ _).1, (sup_PU _ _).2] at HSUP
        dsimp only at HSUP
        rw [← HTK.out] at HSUP
        have HIO := hI.out.own
        have HIO2 := Lib.hid HIO
        have HLT : Hid (∀ q, F q → w1.heap.size ≤ q ∧ q < wr.heap.size) := Lib.hid ht.lt
        have HVF := Lib.hid hvF
        have HMEM := Lib.hid hmem
        have HWS := Lib.hid hI.out.told
        have HOF := Lib.hid hI.out.of
        clear hax hr ha hmem hay hin ht hvF HIO hI hx20
        go_wp2_with fail
        refine HSUP.out.mono ?_
        rintro e w3 ⟨rfl, F3, t3, f1, f2, k3⟩
        have T3 := Lib.hid t3
        have O3 := Lib.hid (HIO2.out.keep k3 HVF.out)
        have V3 : Hid (∀ q, vo.ownBlock = some q → ¬ F3 q) := Lib.hid (fun q hq hF => (f2 q hF).elim (HVF.out q hq) (fun h => by have := (HIO2.out.lt hq).2; omega))
        obtain ⟨hr3, ha3⟩ := HA.out _ t3.below
        obtain ⟨d0, d1, d2⟩ := HC.out _ t3.below
        obtain ⟨Aw, cw, rfl, hrw, -, -⟩ := OwnY.row O3.out
        have HFI := Lib.hid (find_c Aw cw ws ((x1, x2, x3), xA, xc) w3 hrw (fun z hz => (ha3 z (HOF.out z hz).1 (HOF.out z hz).2).1) (ha3 _ HMEM.out (by show x3.length ≤ 20; omega)).1 (by omega))
        clear t3 f1 f2 k3 hr3 ha3 c0 c1 c2 HSUP HIO2 HVF HLT hrw
        go_wp2_with fail
        refine HFI.out.mono ?_
        rintro e w4 ⟨i, rfl, hpos, b4⟩
        have T4 := Lib.hid (T3.out.grow b4)
        have O4 := Lib.hid (O3.out.below b4)
        clear b4 HFI d0 d1 d2
        by_cases hin : (x1, x2, x3) ∈ ws.map (·.1)
        · have hi0 : ¬ i < 0 := by
            rcases hpos with ⟨_, h⟩ | ⟨pre, post, _, _, rfl⟩
            · exact absurd hin h
            · omega
          have NX : Hid (OrdI w1.heap.size w1 g l (k + 1) (.slice Aw ws.length cw) ws w4) := Lib.hid ⟨⟨F3, T4.out, V3.out⟩, O4.out, by
            rw [HTK.out, HWS.out]; unfold addU; rw [if_pos (by rw [← HWS.out]; exact hin)], HOF.out⟩
          clear hpos hin T4 O4 T3 O3 V3
          go_wp2_with fail
          go_roundw
          case rel => exact ⟨k + 1, _, ws, by omega, by go_num, rfl, by omega, NX⟩
          case measure => first | (simp [RowKit.intOf]; done) | (simp [RowKit.intOf]; omega)
        · have hi0 : i = -1 := by
            rcases hpos with ⟨h, _⟩ | ⟨pre, post, e, _, _⟩
            · exact h
            · exact absurd (by rw [e]; simp) hin
          subst hi0
          obtain ⟨d0, d1, d2⟩ := HC.out _ T4.out.below
          have O7 := Lib.hid (O4.out.below ((Below.refl w4.heap.size w4).alloc (Nat.le_refl _) (.cells #[.int .i64 x1, .int .i64 x2, .slice xA x3.length xc] 50)))
          have N7 := Lib.hid (new_one (f := whyc) (m := 3) (N := fun _ => False) w4 ((x1, x2, x3), xA, xc) 50 (fun h => h))
          have E7 := Lib.hid ((Below.refl w4.heap.size w4).alloc (Nat.le_refl _) (.cells #[.int .i64 x1, .int .i64 x2, .slice xA x3.length xc] 50))
          have HB7 : Hid (w1.heap.size ≤ (w4.alloc (.cells #[.int .i64 x1, .int .i64 x2, .slice xA x3.length xc] 50)).heap.size) := Lib.hid (Nat.le_trans T4.out.2.2 E7.out.size)
          have HNIN := Lib.hid hin
          clear hpos hin
          go_wp2_with (at_builtin; (refine wpList_append_ownW (f := whyc) whyc_len whyc_flat (by decide) rfl (.tmp 40) (.tmp 45) 46 rfl w1.heap.size 50 i0 zW 40 Try.underlying46 hi hz0 hz1 hz2 rfl (.slice Aw ws.length cw) ws.length ws rfl O7.out (some ⟨w4.heap.size, 0, none⟩) 1 [((x1, x2, x3), xA, xc)] (fun h => by cases h) N7.out rfl (by unfold maxLen; simp; omega) (by simp; omega) HB7.out ?_))
          intro v8 w8 ho8 hg8 hv8
          have K8 : Keep (fun q => (Value.slice Aw ws.length cw).ownBlock = some q) (w4.alloc (.cells #[.int .i64 x1, .int .i64 x2, .slice xA x3.length xc] 50)) w8 := (Keep.refl _ _).grown hg8 (fun q hq => .inl hq)
          have t7 := T4.out.grow E7.out
          have t8 := t7.keep K8 (fun q hF hv => V3.out q hv hF) (fun q hv => (O7.out.lt hv).1)
          have V8 : ∀ q, v8.ownBlock = some q → ¬ F3 q := fun q hq hF => by
            rcases hv8 with e | e
            · exact V3.out q (by rw [← e]; exact hq) hF
            · have h1 := e q hq
              have h2 := (T4.out.lt q hF).2
              omega
          have O8 : OwnW w8 w1.heap.size 50 3 v8 (ws ++ [((x1, x2, x3), xA, xc)]).length ((ws ++ [((x1, x2, x3), xA, xc)]).flatMap whyc) := by
            rw [List.length_append, List.flatMap_append, List.flatMap_singleton]
            exact ho8
          have NX : Hid (OrdI w1.heap.size w1 g l (k + 1) v8 (ws ++ [((x1, x2, x3), xA, xc)]) w8) := Lib.hid ⟨⟨F3, t8, V8⟩, O8, by
            rw [HTK.out, List.map_append, HWS.out]; unfold addU; rw [if_neg (by rw [← HWS.out]; exact HNIN.out)]; rfl, fun z hz => by
            rcases List.mem_append.1 hz with h | h
            · exact HOF.out z h
            · rw [List.mem_singleton.1 h]
              exact ⟨HMEM.out, by show x3.length ≤ 20; omega⟩⟩
          clear ho8 hg8 hv8 K8 t7 t8 V8 O8 d0 d1 d2
          go_wp2_with fail
          go_roundw
          case rel => exact ⟨k + 1, v8, ws ++ [((x1, x2, x3), xA, xc)], by omega, by go_num, rfl, by simp; omega, NX⟩
          case measure => first | (simp [RowKit.intOf]; done) | (simp [RowKit.intOf]; omega)
    · obtain rfl : k = l.length := by omega
      rw [List.take_length] at ht
      have HT := Lib.hid ht
      have HW := Lib.hid (why_t ht 5)
      rw [wh_PU] at HW
      dsimp only at HW
      have HWS := hI.out.told
      rw [List.take_length] at HWS
      have HWS2 := Lib.hid HWS
      have HOF := Lib.hid hI.out.of
      have HO := Lib.hid hI.out.own
      obtain ⟨Aw, cw, rfl, -, -, -⟩ := OwnY.row HO.out
      have HUL : Hid ((once (l.map (·.1))).length = ws.length) := Lib.hid (by rw [← HWS2.out, List.length_map])
      have HE : Hid (decide (0 < (once (l.map (·.1))).length) = decide (0 < l.length)) := Lib.hid (by
        have h1 := once_nil (l.map (·.1))
        rw [List.map_eq_nil_iff] at h1
        rw [Bool.eq_iff_iff, decide_eq_true_iff, decide_eq_true_iff, List.length_pos_iff, List.length_pos_iff]
        exact not_congr h1)
      have HROWS : Hid (∀ (W : World) (A9 : Option Addr) (ys : List Wf), Below w1.heap.size w1 W → Below wr.heap.size wr W → RowsAt whyc 3 (fun _ => False) W A9 ys → (∀ y ∈ ys, ArgY W y) → ys.map (·.1) = once (l.map (·.1)) → Calls Try.prog 24 #[.slice A9 ws.length ws.length, .slice Aw ws.length cw] W fun e w' => e = .returned (.bool true) ∧ Below W.heap.size W w') := Lib.hid (fun W A9 ys hb hb2 hr hy hm => by
        have hyl : ys.length = ws.length := by rw [← HUL.out, ← hm, List.length_map]
        obtain ⟨A', c', e', hr2, -, -⟩ := OwnY.row (HO.out.below hb2)
        injection e' with e1 _ _
        subst e1
        exact rows_yes A9 _ _ ys Aw cw _ ws W hyl rfl (by rw [hm, HWS2.out]) hr hy hr2 (fun z hz => ((HA.out W hb).2 z (HOF.out z hz).1 (HOF.out z hz).2).1) (by omega))
      clear ht hvF HWS hI
      go_wp2_with fail
      refine HW.out.mono ?_
      rintro e w3 ⟨v3, rfl, A3, ys, e3, hys, hoy, hfy, b3⟩
      injection e3 with e3
      rw [HUL.out] at e3 hoy
      subst e3
      obtain ⟨A', c', e', hr3, -, -, -⟩ := OwnW.rows (N := fun _ => False) whyc_len (by decide) hoy (fun _ _ h => h)
      injection e' with e1 e2 e3
      subst e1
      clear e2 e3
      have T3 := Lib.hid (HT.out.grow b3)
      have HR3 := Lib.hid (HROWS.out w3 A3 ys T3.out.below b3 hr3 (fun y hy => (hfy y hy).arg) hys)
      have B3 := Lib.hid b3
      clear hys hoy hfy b3 hr3
      go_wp2_with fail
      refine HR3.out.mono ?_
      rintro e w4 ⟨rfl, b4⟩
      have T4 := Lib.hid (T3.out.grow b4)
      have B4 := Lib.hid (B3.out.trans (b4.mono B3.out.size))
      clear b4 HR3
      go_wp2_with fail
      refine (all_t T4.out).mono ?_
      rintro e w5 ⟨A5, ys5, rfl, hys, hoy, hfy, b5⟩
      rw [HUL.out] at hoy
      rw [HUL.out]
      obtain ⟨A', c', e', hr3, -, -, -⟩ := OwnW.rows (N := fun _ => False) whyc_len (by decide) hoy (fun _ _ h => h)
      injection e' with e1 e2 e3
      subst e1
      clear e2 e3
      have T5 := Lib.hid (T4.out.grow b5)
      have B5 := Lib.hid (B4.out.trans (b5.mono B4.out.size))
      have HR5 := Lib.hid (HROWS.out w5 A5 ys5 T5.out.below B5.out hr3 (fun y hy => (hfy y hy).arg) hys)
      clear hys hoy hfy b5 hr3
      go_wp2_with fail
      refine HR5.out.mono ?_
      rintro e w6 ⟨rfl, b6⟩
      have T6 := Lib.hid (T5.out.grow b6)
      have HS := Lib.hid (stands_t T6.out 5)
      rw [stand_PU, HE.out] at HS
      clear b6 HR5
      go_wp2_with fail
      refine HS.out.mono ?_
      rintro e w7 ⟨rfl, rfl⟩
      have HB := Lib.hid (E1.out.trans (T6.out.below.mono E1.out.size))
      clear HS
      obtain ⟨n, hn⟩ : ∃ n, l.length = n := ⟨_, rfl⟩
      go_wp2_with fail
      go_ret
      exact ⟨rfl, HB.out⟩
end Go.Proofs.Ytonflknnlfffhaa
