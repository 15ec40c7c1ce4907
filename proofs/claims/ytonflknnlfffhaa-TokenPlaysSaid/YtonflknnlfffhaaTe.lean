/- token.Tree: Drop. -/
import Derived.Test.YtonflknnlfffhaaTw
namespace Go.Proofs.Ytonflknnlfffhaa
open Go.RowKit Go.Lib KP MR RW
def factIds (T : List Tk) (f : Int) : List Int := (T.filter fun t => decide (t.2.2 = f)).map (·.1)
section
variable {T : List Tk} {G : List Int}
theorem mem_factIds {f x : Int} : x ∈ factIds T f ↔ ∃ t ∈ T, t.1 = x ∧ t.2.2 = f := by
  unfold factIds
  rw [List.mem_map]
  constructor
  · rintro ⟨t, ht, e⟩
    obtain ⟨h1, h2⟩ := List.mem_filter.1 ht
    exact ⟨t, h1, e, of_decide_eq_true h2⟩
  · rintro ⟨t, ht, e, e2⟩
    exact ⟨t, List.mem_filter.2 ⟨ht, decide_eq_true e2⟩, e⟩
theorem cl_add (h : WF T) (x y : Int) : Cl T (G ++ [x]) y ↔ Cl T G y ∨ Cl (stay T G) [x] y := by
  constructor
  · intro hc
    refine hc.least (S := fun y => Cl T G y ∨ Cl (stay T G) [x] y) (fun y hy => ?_) (fun t ht hy => ?_)
    · rcases List.mem_append.1 hy with h1 | h1
      · exact .inl (.base _ h1)
      · exact .inr (.base _ h1)
    · rcases hy with h1 | h1
      · exact .inl (.step t ht h1)
      · by_cases h2 : Cl T G t.1
        · exact .inl h2
        · exact .inr (.step t ((mem_stay h).2 ⟨ht, h2⟩) h1)
  · rintro (h1 | h1)
    · exact h1.mono (fun t ht => ht) (fun y hy => .base _ (List.mem_append_left _ hy))
    · exact h1.mono (fun t ht => ((mem_stay h).1 ht).1) (fun y hy => .base _ (List.mem_append_right _ hy))
theorem stay_add (h : WF T) (x : Int) : stay (stay T G) [x] = stay T (G ++ [x]) := by
  have hs := wf_stay h G
  show (T.filter (fun t => decide (t.1 ∉ rem G T))).filter (fun t => decide (t.1 ∉ rem [x] (stay T G))) = T.filter fun t => decide (t.1 ∉ rem (G ++ [x]) T)
  rw [List.filter_filter]
  refine List.filter_congr (fun t _ => ?_)
  rw [← Bool.decide_and, decide_eq_decide]
  rw [mem_rem hs, mem_rem h, mem_rem h, cl_add h]
  constructor
  · rintro ⟨h1, h2⟩ (h3 | h3)
    · exact h2 h3
    · exact h1 h3
  · intro h1
    exact ⟨fun h2 => h1 (.inr h2), fun h2 => h1 (.inl h2)⟩
theorem stay_congr (h : WF T) {G' : List Int} (hc : ∀ y, Cl T G y ↔ Cl T G' y) : stay T G = stay T G' := by
  unfold stay
  refine List.filter_congr (fun t _ => ?_)
  rw [decide_eq_decide, mem_rem h, mem_rem h, hc]
end
/-- Between two numbers. -/
structure Dp (B : Nat) (w0 : World) (F : Nat → Prop) (g : Nat) (T : List Tk) (nx : Int) (f : Int) (ks : List Int) (W2 : World) (k : Nat) (vo : Value) (G O : List Int) (wr : World) : Prop where
  gs : ∀ x ∈ G, ∃ t ∈ T, t.1 = x ∧ t.2.2 = f
  done : ∀ t ∈ T, t.2.2 = f → t.1 ∈ ks.take k → Cl T G t.1
  tree : TreeT B w0 F g (stay T G) nx wr
  own : OwnI wr W2.heap.size vo O
  nd : O.Nodup
  mem : ∀ x, x ∈ O ↔ (∃ t ∈ T, t.1 = x) ∧ Cl T G x
  keep : Keep F W2 wr
section
variable {B : Nat} {w0 W2 wr w' : World} {F : Nat → Prop} {g : Nat} {T : List Tk} {nx f : Int} {ks : List Int} {k : Nat} {vo v' : Value} {G O : List Int}
theorem Dp.skip (h : Dp B w0 F g T nx f ks W2 k vo G O wr) (hk : k < ks.length) (hx : ∀ t ∈ T, t.2.2 = f → t.1 = ks[k] → Cl T G t.1) : Dp B w0 F g T nx f ks W2 (k + 1) vo G O wr :=
  ⟨h.gs, fun t ht hf hm => by
    rw [List.take_succ_eq_append_getElem hk] at hm
    rcases List.mem_append.1 hm with h1 | h1
    · exact h.done t ht hf h1
    · exact hx t ht hf (List.mem_singleton.1 h1), h.tree, h.own, h.nd, h.mem, h.keep⟩
theorem Dp.few (h : Dp B w0 F g T nx f ks W2 k vo G O wr) (hw : WF T) : O.length + (stay T G).length = T.length := by
  have h1 : O.Perm ((T.filter fun t => decide (t.1 ∈ rem G T)).map (·.1)) := (List.perm_ext_iff_of_nodup h.nd (goes_nodup hw G)).2 (fun x => (h.mem x).trans (mem_goes hw).symm)
  have h2 := h1.length_eq
  rw [List.length_map] at h2
  have h3 := List.length_eq_countP_add_countP (l := T) (fun t => decide (t.1 ∈ rem G T))
  rw [List.countP_eq_length_filter, List.countP_eq_length_filter] at h3
  have e : stay T G = T.filter (fun t => decide (¬ decide (t.1 ∈ rem G T) = true)) := by
    unfold stay
    exact List.filter_congr (fun t _ => by simp)
  rw [e]
  omega
theorem Dp.cut (h : Dp B w0 F g T nx f ks W2 k vo G O wr) (hw : WF T) (hk : k < ks.length) (hx : ∃ t ∈ stay T G, t.1 = ks[k] ∧ t.2.2 = f) (ht : TreeT B w0 F g (stay (stay T G) [ks[k]]) nx w') (ho : OwnI w' W2.heap.size v' (O ++ goes (stay T G) [ks[k]])) (hkp : Keep F W2 w') :
    Dp B w0 F g T nx f ks W2 (k + 1) v' (G ++ [ks[k]]) (O ++ goes (stay T G) [ks[k]]) w' := by
  obtain ⟨t, hts, e1, e2⟩ := hx
  have hmem : ∀ x, x ∈ goes (stay T G) [ks[k]] ↔ (∃ t ∈ T, t.1 = x) ∧ ¬ Cl T G x ∧ Cl (stay T G) [ks[k]] x := by
    intro x
    rw [mem_goes (wf_stay hw G)]
    constructor
    · rintro ⟨⟨u, hu, rfl⟩, h2⟩
      obtain ⟨h3, h4⟩ := (mem_stay hw).1 hu
      exact ⟨⟨u, h3, rfl⟩, h4, h2⟩
    · rintro ⟨⟨u, hu, rfl⟩, h2, h3⟩
      exact ⟨⟨u, (mem_stay hw).2 ⟨hu, h2⟩, rfl⟩, h3⟩
  refine ⟨fun x hx => ?_, fun u hu hf hm => ?_, by rw [← stay_add hw]; exact ht, ho, ?_, fun x => ?_, hkp⟩
  · rcases List.mem_append.1 hx with h1 | h1
    · exact h.gs x h1
    · rw [List.mem_singleton.1 h1]
      exact ⟨t, ((mem_stay hw).1 hts).1, e1, e2⟩
  · rw [cl_add hw]
    rw [List.take_succ_eq_append_getElem hk] at hm
    rcases List.mem_append.1 hm with h1 | h1
    · exact .inl (h.done u hu hf h1)
    · exact .inr (.base _ h1)
  · refine List.nodup_append.2 ⟨h.nd, goes_nodup (wf_stay hw G) _, fun a ha b hb e => ?_⟩
    subst e
    exact ((hmem a).1 hb).2.1 ((h.mem a).1 ha).2
  · rw [List.mem_append, h.mem, hmem, cl_add hw]
    constructor
    · rintro (⟨h1, h2⟩ | ⟨h1, _, h3⟩)
      · exact ⟨h1, .inl h2⟩
      · exact ⟨h1, .inr h3⟩
    · rintro ⟨h1, h2⟩
      by_cases h3 : Cl T G x
      · exact .inl ⟨h1, h3⟩
      · exact .inr ⟨h1, h3, h2.resolve_left h3⟩
theorem Dp.end (h : Dp B w0 F g T nx f ks W2 ks.length vo G O wr) (hw : WF T) (hks : ∀ t ∈ T, t.1 ∈ ks) : stay T G = stay T (factIds T f) ∧ rise O = goes T (factIds T f) := by
  have hc : ∀ y, Cl T G y ↔ Cl T (factIds T f) y := by
    intro y
    constructor
    · exact fun h1 => h1.mono (fun t ht => ht) (fun x hx => .base _ (mem_factIds.2 (h.gs x hx)))
    · refine fun h1 => h1.mono (fun t ht => ht) (fun x hx => ?_)
      obtain ⟨t, ht, rfl, e2⟩ := mem_factIds.1 hx
      exact h.done t ht e2 (by rw [List.take_length]; exact hks t ht)
  exact ⟨stay_congr hw hc, rise_goes hw h.nd (fun x => (h.mem x).trans (by rw [hc]))⟩
end
def DropT (B : Nat) (w0 : World) (F : Nat → Prop) (g : Nat) (T : List Tk) (nx f : Int) (W : World) (e : Ending) (w' : World) : Prop :=
  ∃ v, e = .returned v ∧ OwnI w' W.heap.size v (goes T (factIds T f)) ∧ TreeT B w0 F g (stay T (factIds T f)) nx w' ∧ Keep F W w'
set_option maxRecDepth 100000 in
set_option maxHeartbeats 4000000 in
theorem drop_t {B : Nat} {w0 W : World} {F : Nat → Prop} {g : Nat} {T : List Tk} {nx : Int} (h : TreeT B w0 F g T nx W) (hT : T.length ≤ 900) (f : Int) : Calls Try.prog 13 #[.pointer (some ⟨g, 0, none⟩), .int .i64 f] W (DropT B w0 F g T nx f W) := by
  obtain ⟨i0, hi, hz0, hz1, hz2⟩ := info_parts infoI
  have hw := h.wf
  have hlt := h.lt
  have h' := h
  obtain ⟨m, N, h1, h2, h3⟩ := h
  have hc0 := block_cell (j := 0) h1.blk rfl
  have HS := Lib.hid (sortedNode_c (eV := Nd.val) h1.map (fun p hp => by have := h1.keys p hp; rw [Lit.wf, Bool.and_eq_true, decide_eq_true_iff, decide_eq_true_iff, show IntKind.i64.min = -9223372036854775808 by decide, show IntKind.i64.max = 9223372036854775807 by decide]; omega) (by have := h1.few; omega))
  have HM : Hid (∀ x, x ∈ rise (N.map (·.1)) ↔ x = 0 ∨ ∃ t ∈ T, t.1 = x) := Lib.hid (fun x => by
    rw [List.mem_mergeSort, ← lk_mem, h2.key])
  have hkl : (rise (N.map (·.1))).length ≤ 1000 := by rw [rise_len, List.length_map]; exact h1.few
  generalize rise (N.map (·.1)) = ks at *
  have hklI : (ks.length : Int) ≤ 1000 := by omega
  have HT := Lib.hid h'
  have HW := Lib.hid hw
  have HL := Lib.hid hlt
  clear h' h1 h2 h3 hw hlt
  go_enter Try.func13, Try.ntmps13
  go_wp2_with fail
  refine (keysNode_c (some m) W).mono ?_
  rintro e w1 ⟨rfl, rfl⟩
  go_wp2_with fail
  refine HS.out.mono ?_
  rintro e w2 ⟨vs, rfl, hrow, hb2⟩
  have hos : OwnI w2 W.heap.size vs ks := by unfold OwnI; rw [flat_ints]; exact OwnW.of hrow
  obtain ⟨A, c, rfl, hrs, _, hlc, hA⟩ := OwnW.rows (N := F) intc_len (by decide) hos (fun k hk hF => by
    have h1 := (hos.lt hk).1
    have h2 := (HL.out k hF).2
    omega)
  have RS := Lib.hid hrs
  have B2 := Lib.hid hb2
  have D2 : Hid (Dp B w0 F g T nx f ks w2 0 (.slice none 0 0) [] [] w2) := Lib.hid ⟨(fun _ h => by cases h), (fun _ _ _ h => by cases h), by
      have : stay T [] = T := by
        unfold stay
        rw [List.filter_eq_self]
        intro t ht
        refine decide_eq_true (fun hr => ?_)
        exact ((mem_rem HW.out _ _).1 hr).least (S := fun _ => False) (fun x hx => by cases hx) (fun _ _ h => h)
      rw [this]
      exact HT.out.grow hb2, OwnW.nil _ _ _ _, List.nodup_nil, (fun x => ⟨(fun h => (by cases h)), fun h => (h.2.least (S := fun _ => False) (fun x hx => by cases hx) (fun _ _ h => h)).elim⟩), Keep.refl _ _⟩
  clear hrow hb2 hos hrs hA HS hc0
  go_wp2_with fail
  go_loopw [5, 17] (fun v i wr => ∃ (k : Nat) (vo : Value) (G O : List Int), k ≤ ks.length ∧ i = .int .i64 k ∧ vo = v ∧ Hid (Dp B w0 F g T nx f ks w2 k vo G O wr)) (fun _ i _ => ks.length - (RowKit.intOf i).toNat)
  case atStart => exact ⟨0, _, [], [], by omega, rfl, rfl, D2⟩
  case round =>
    obtain ⟨k, vo, G, O, hk, rfl, rfl, HP⟩ := hrel
    clear D2
    by_cases hlt : k < ks.length
    · have hkI : (k : Int) < (ks.length : Int) := by omega
      obtain ⟨ad, rfl, hnF, hcell⟩ := IntsAt.at RS.out hlt
      have hcell := HP.out.keep.cell hcell (by rw [add_block]; exact hnF)
      obtain ⟨mj, Nj, t1, t2, t3⟩ := HP.out.tree
      have hc0 := block_cell (j := 0) t1.blk rfl
      have hx := (HM.out ks[k]).1 (List.getElem_mem hlt)
      by_cases hz : ks[k] = 0
      · have hz2 : ((0 : Int) != 0) = false := rfl
        have NX := Lib.hid (HP.out.skip hlt (fun t ht _ e => by have := HW.out.pos t ht; omega))
        obtain ⟨nd, e1, _⟩ := t2.root
        have hlk := t1.look_yes e1
        rw [hz] at hcell
        clear t1 t2 t3 hx hz e1
        go_wp2_with fail
        go_roundw
        case rel => exact ⟨k + 1, vo, G, O, by omega, by go_num, rfl, NX⟩
        case measure => first | (simp [RowKit.intOf]; done) | (simp [RowKit.intOf]; omega)
      · obtain ⟨t, ht, ex⟩ := hx.resolve_left hz
        have hzb : (ks[k] != 0) = true := by simp [hz]
        by_cases hst : Cl T G t.1
        · have NX := Lib.hid (HP.out.skip hlt (fun u _ _ e => by rw [e, ← ex]; exact hst))
          have hlk := t1.look_no (t2.none hz (fun u hu e => ((mem_stay HW.out).1 hu).2 (by rw [e, ← ex]; exact hst)))
          clear t1 t2 t3 hz ex ht hst
          generalize ks[k] = x at *
          go_wp2_with fail
          go_roundw
          case rel => exact ⟨k + 1, vo, G, O, by omega, by go_num, rfl, NX⟩
          case measure => first | (simp [RowKit.intOf]; done) | (simp [RowKit.intOf]; omega)
        · have hts : t ∈ stay T G := (mem_stay HW.out).2 ⟨ht, hst⟩
          obtain ⟨nd, e1, e2, e3, e4⟩ := t2.node t hts
          have hlk := t1.look_yes e1
          rw [ex] at hlk
          have hc1 := block_cell (j := 1) (t1.node _ (lk_some e1)) rfl
          dsimp only at hc1
          by_cases hf : t.2.2 = f
          · have hfb : (nd.fact == f) = true := by simp [e3, hf]
            have hsl : (stay T G).length ≤ 900 := Nat.le_trans (List.length_filter_le _ _) hT
            have HC := Lib.hid (cut_t HP.out.tree hsl ks[k])
            have HX := Lib.hid (fun w' v' a b c => HP.out.cut (w' := w') (v' := v') HW.out hlt ⟨t, hts, ex, hf⟩ a b c)
            have hfew : O.length + (goes (stay T G) [ks[k]]).length ≤ 1000 := by
              have h1 := HP.out.few HW.out
              have h2 : (goes (stay T G) [ks[k]]).length ≤ (stay T G).length := by
                unfold goes
                rw [List.length_map]
                exact List.length_filter_le _ _
              omega
            clear t1 t2 t3 hz ex ht hst hts e1 e2 e3 e4 hf hx
            generalize goes (stay T G) [ks[k]] = og at *
            generalize hxk : ks[k] = x at *
            go_wp2_with fail
            refine HC.out.mono ?_
            rintro e w5 ⟨v5, rfl, ho5, ht5, hk5⟩
            have AP : Hid (∀ q, vo.ownBlock = some q → ¬ F q) := Lib.hid (fun q hq hF => by
              have h1 := (HP.out.own.lt hq).1
              have h2 := (HL.out q hF).2
              have h3 := B2.out.size
              omega)
            have O5 := Lib.hid (HP.out.own.keep hk5 AP.out)
            obtain ⟨A5, c5, ev5, hr5, _, _, hA5⟩ := OwnW.rows (N := fun _ => False) intc_len (by decide) ho5 (fun _ _ h => h)
            subst ev5
            have R5 := Lib.hid hr5
            have HA5 := Lib.hid hA5
            have T5 := Lib.hid ht5
            have K5 : Hid (Keep F w2 w5) := Lib.hid (HP.out.keep.trans hk5 (fun q hq => .inl hq))
            have S5 : Hid (w2.heap.size ≤ w5.heap.size) := Lib.hid K5.out.size
            clear ho5 ht5 hk5 hr5 hA5
            go_wp2_with (at_builtin; (refine wpList_append_ownW (f := intc) intc_len intc_flat (by decide) rfl (.tmp 43) (.tmp 46) 35 rfl w2.heap.size 3 i0 zI 8 Try.underlying35 hi hz0 hz1 hz2 rfl vo O.length O rfl O5.out A5 c5 og HA5.out R5.out rfl (by unfold maxLen; omega) (by omega) S5.out ?_))
            intro v6 w6 ho6 hg6 hv6
            have O6 := Lib.hid (show OwnI w6 w2.heap.size v6 (O ++ og) by unfold OwnI; rw [List.length_append, List.flatMap_append]; exact ho6)
            have K6 := Lib.hid ((Keep.refl (fun k => vo.ownBlock = some k) w5).grown hg6 (fun q hq => .inl hq))
            have T6 := T5.out.keep K6.out (fun k hF hq => AP.out k hq hF) (fun k hq => by
              have h1 := (HP.out.own.lt hq).1
              have h2 := T5.out.size
              have h3 := HT.out.size
              have h4 := B2.out.size
              omega)
            have NX := Lib.hid (HX.out w6 v6 T6 O6.out (K5.out.trans K6.out (fun q hq => .inr (HP.out.own.lt hq).1)))
            clear ho6 hg6 hv6 T6 HX
            go_wp2_with fail
            go_roundw
            case rel => exact ⟨k + 1, v6, G ++ [x], O ++ og, by omega, by go_num, rfl, NX⟩
            case measure => first | (simp [RowKit.intOf]; done) | (simp [RowKit.intOf]; omega)
          · have hfb : (nd.fact == f) = false := by simp [e3, hf]
            have NX := Lib.hid (HP.out.skip hlt (fun u hu hf' e => by
              have := HW.out.uniq hu ht (e.trans ex.symm)
              subst this
              exact absurd hf' hf))
            clear t1 t2 t3 hz ex ht hst hts e1 e2 e3 e4 hf hx
            generalize ks[k] = x at *
            go_wp2_with fail
            go_roundw
            case rel => exact ⟨k + 1, vo, G, O, by omega, by go_num, rfl, NX⟩
            case measure => first | (simp [RowKit.intOf]; done) | (simp [RowKit.intOf]; omega)
    · obtain rfl : k = ks.length := by omega
      obtain ⟨e1, e2⟩ := HP.out.end HW.out (fun t ht => (HM.out t.1).2 (.inr ⟨t, ht, rfl⟩))
      have E1 := Lib.hid e1
      have E2 := Lib.hid e2
      have hol : O.length ≤ 1000 := by have := HP.out.few HW.out; omega
      clear e1 e2
      go_wp2_with fail
      refine (sort_c HP.out.own (by omega)).mono ?_
      rintro e w8 ⟨rfl, ho8, hk8⟩
      have O8 := Lib.hid ho8
      have T8 := Lib.hid (HP.out.tree.keep hk8 (fun q hF hq => by
        have h1 := (HP.out.own.lt hq).1
        have h2 := (HL.out q hF).2
        have h3 := B2.out.size
        omega) (fun q hq => by
        have h1 := (HP.out.own.lt hq).1
        have h3 := B2.out.size
        have h4 := HT.out.size
        omega))
      have K8 := Lib.hid ((Keep.of_below B2.out F).trans (HP.out.keep.trans hk8 (fun q hq => .inr (HP.out.own.lt hq).1)) (fun q hq => .inl hq))
      clear ho8 hk8
      go_wp2_with fail
      refine (clip_c O8.out).mono ?_
      rintro e w9 ⟨v9, rfl, ho9, hv9, rfl⟩
      go_wp2_with fail
      go_ret
      refine ⟨v9, rfl, ?_, ?_, K8.out⟩
      · rw [← E2.out]; exact ho9.mono B2.out.size
      · rw [← E1.out]; exact T8.out
end Go.Proofs.Ytonflknnlfffhaa
