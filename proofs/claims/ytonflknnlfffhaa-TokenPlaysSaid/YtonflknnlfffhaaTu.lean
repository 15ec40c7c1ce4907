/- token.Tree: under. -/
import Derived.Test.YtonflknnlfffhaaTg
namespace Go.Proofs.Ytonflknnlfffhaa
open Go.RowKit Go.Lib KP MR RW
/-- What hangs at kids, in the order in which it is taken out. -/
inductive For (N : Tab) : List Int → List Int → Prop
  | nil : For N [] []
  | cons (k : Int) (nd : Nd) (ks o1 o2 : List Int) : lk N k = some nd → For N nd.kids o1 → For N ks o2 → For N (k :: ks) (k :: (o1 ++ o2))
theorem For.congr {N N' : Tab} {ks out : List Int} (h : For N ks out) (hl : ∀ x ∈ out, lk N' x = lk N x) : For N' ks out := by
  induction h with
  | nil => exact .nil
  | cons k nd ks o1 o2 h1 _ _ ih1 ih2 =>
    refine .cons k nd ks o1 o2 ((hl k List.mem_cons_self).trans h1) (ih1 (fun x hx => hl x (List.mem_cons_of_mem _ (List.mem_append_left _ hx)))) (ih2 (fun x hx => hl x (List.mem_cons_of_mem _ (List.mem_append_right _ hx))))
/-- Tokens taken out. -/
abbrev gone (N : Tab) (l : List Int) : Tab := N.filter fun p => decide (p.1 ∉ l)
theorem lk_filter (N : Tab) (f : Int → Bool) (x : Int) (h : f x = true) : lk (N.filter fun p => f p.1) x = lk N x := by
  unfold lk
  congr 1
  induction N with
  | nil => rfl
  | cons p N ih =>
    by_cases e : p.1 = x
    · have : f p.1 = true := by rw [e]; exact h
      rw [List.filter_cons, if_pos this, List.find?_cons_of_pos (by simp [e]), List.find?_cons_of_pos (by simp [e])]
    · rw [List.find?_cons_of_neg (by simp [e]), ← ih]
      by_cases e2 : f p.1 = true
      · rw [List.filter_cons, if_pos e2, List.find?_cons_of_neg (by simp [e])]
      · rw [List.filter_cons, if_neg e2]
theorem lk_gone {N : Tab} {l : List Int} {x : Int} (h : x ∉ l) : lk (gone N l) x = lk N x := lk_filter N (fun y => decide (y ∉ l)) x (by simpa using h)
theorem lk_setK {N : Tab} {id : Int} {v : Value} {ks : List Int} {x : Int} (h : x ≠ id) : lk (setK N id v ks) x = lk N x := by
  unfold lk setK
  induction N with
  | nil => rfl
  | cons p N ih =>
    rw [List.map_cons]
    by_cases e : p.1 = id
    · rw [if_pos e, List.find?_cons_of_neg (by simp [e, Ne.symm h]), List.find?_cons_of_neg (by simp [e, Ne.symm h])]
      exact ih
    · rw [if_neg e]
      by_cases e2 : p.1 = x
      · rw [List.find?_cons_of_pos (by simp [e2]), List.find?_cons_of_pos (by simp [e2])]
      · rw [List.find?_cons_of_neg (by simp [e2]), List.find?_cons_of_neg (by simp [e2])]
        exact ih
theorem lk_setK_self {N : Tab} {id : Int} {v : Value} {ks : List Int} {nd : Nd} (h : lk N id = some nd) : lk (setK N id v ks) id = some { nd with kv := v, kids := ks } := by
  unfold lk setK at *
  induction N with
  | nil => simp at h
  | cons p N ih =>
    rw [List.map_cons]
    by_cases e : p.1 = id
    · rw [List.find?_cons_of_pos (by simp [e])] at h
      rw [if_pos e, List.find?_cons_of_pos (by simp [e])]
      simp only [Option.map_some, Option.some.injEq] at h ⊢
      rw [h]
    · rw [List.find?_cons_of_neg (by simp [e])] at h
      rw [if_neg e, List.find?_cons_of_neg (by simp [e])]
      exact ih h
theorem del_setK (N : Tab) (id : Int) (v : Value) (ks : List Int) : del (setK N id v ks) id = del N id := by
  unfold del setK
  induction N with
  | nil => rfl
  | cons p N ih =>
    rw [List.map_cons]
    by_cases e : p.1 = id
    · rw [if_pos e, List.filter_cons_of_neg (by simp [e]), List.filter_cons_of_neg (by simp [e])]
      exact ih
    · rw [if_neg e, List.filter_cons_of_pos (by simp [e]), List.filter_cons_of_pos (by simp [e]), ih]
theorem gone_step (N : Tab) (done o1 : List Int) (k : Int) : del (gone (gone N done) o1) k = gone N (done ++ k :: o1) := by
  unfold del gone
  rw [List.filter_filter, List.filter_filter]
  refine List.filter_congr (fun p _ => ?_)
  by_cases h1 : p.1 = k <;> by_cases h2 : p.1 ∈ o1 <;> by_cases h3 : p.1 ∈ done <;> simp [h1, h2, h3]
theorem gone_nil (N : Tab) : gone N [] = N := by unfold gone; rw [List.filter_eq_self]; intro p _; simp
theorem For.drop {N : Tab} {ks out : List Int} (h : For N ks out) {k : Int} {ks' : List Int} (e : ks = k :: ks') : ∃ nd o1 o2, out = k :: (o1 ++ o2) ∧ lk N k = some nd ∧ For N nd.kids o1 ∧ For N ks' o2 := by
  cases h with
  | nil => cases e
  | cons k1 nd ks1 o1 o2 h1 h2 h3 => injection e with e1 e2; subst e1; subst e2; exact ⟨nd, o1, o2, rfl, h1, h2, h3⟩
theorem For.isNil {N : Tab} {out : List Int} (h : For N [] out) : out = [] := by cases h; rfl
theorem append_new {W : World} {x : Int} : IntsAt (fun _ => False) (W.alloc (.cells #[.int .i64 x] 3)) (some ⟨W.heap.size, 0, none⟩) [x] := new_one (f := intc) (m := 1) W x 3 (fun h => h)
/-- Between two kids. -/
structure Lp (B : Nat) (F : Nat → Prop) (g m : Nat) (N : Tab) (last : Int) (W : World) (kids out : List Int) (k : Nat) (vo : Value) (done rest : List Int) (wr : World) : Prop where
  eq : out = done ++ rest
  fr : For N (kids.drop k) rest
  tm : TM B F g m (gone N done) last wr
  own : OwnI wr W.heap.size vo done
  keep : Keep F W wr
def UnderT (B : Nat) (F : Nat → Prop) (g m : Nat) (N : Tab) (last : Int) (W : World) (id : Int) (out : List Int) (e : Ending) (w' : World) : Prop :=
  ∃ v, e = .returned v ∧ OwnI w' W.heap.size v out ∧ TM B F g m (setK (gone N out) id (.slice none 0 0) []) last w' ∧ Keep F W w'
section
variable {B : Nat} {F : Nat → Prop} {g m : Nat} {N : Tab} {last : Int} {W wr w' : World} {id kk : Int} {nd : Nd} {kids out done rest : List Int} {k : Nat} {vo : Value}
theorem Lp.apart (h : Lp B F g m N last W kids out k vo done rest wr) (hT : TM B F g m N last W) : ∀ q, F q → vo.ownBlock ≠ some q := fun q hF hq => by
  have h1 := (h.own.lt hq).1
  have h2 := (hT.lt q hF).2
  omega
/-- The kid that comes. -/
theorem Lp.kid (h : Lp B F g m N last W nd.kids out k vo done rest wr) (hl : lk N id = some nd) (hnd : (id :: out).Nodup) (hk : k < nd.kids.length) :
    ∃ ndk o1 o2, rest = nd.kids[k] :: (o1 ++ o2) ∧ lk (gone N done) nd.kids[k] = some ndk ∧ For (gone N done) ndk.kids o1 ∧ For N (nd.kids.drop (k + 1)) o2 ∧ (nd.kids[k] :: o1).Nodup ∧ lk (gone N done) id = some nd ∧ o1.length < out.length := by
  obtain ⟨ndk, o1, o2, e1, e2, e3, e4⟩ := h.fr.drop (List.drop_eq_getElem_cons hk)
  rw [h.eq, e1, List.nodup_cons] at hnd
  obtain ⟨n1, n2⟩ := hnd
  rw [List.nodup_append] at n2
  obtain ⟨n2, n3, n4⟩ := n2
  have d1 : ∀ x ∈ nd.kids[k] :: (o1 ++ o2), x ∉ done := fun x hx hx2 => n4 x hx2 x hx rfl
  refine ⟨ndk, o1, o2, e1, (lk_gone (d1 _ List.mem_cons_self)).trans e2, e3.congr (fun x hx => lk_gone (d1 x (List.mem_cons_of_mem _ (List.mem_append_left _ hx)))), e4, ?_, (lk_gone (fun hx => n1 (List.mem_append_left _ hx))).trans hl, ?_⟩
  · exact n3.sublist ((List.sublist_append_left o1 o2).cons_cons _)
  · rw [h.eq, e1]; simp; omega
theorem Lp.at (h : Lp B F g m N last W nd.kids out k vo done rest wr) (hl : lk (gone N done) id = some nd) (hk : k < nd.kids.length) : ∃ ad c, nd.kv = .slice (some ad) nd.kids.length c ∧ wr.cell? (ad.add k) = some (.int .i64 nd.kids[k]) := by
  obtain ⟨A, c, hkv, hkr, _⟩ := OwnW.rows (N := fun _ => False) intc_len (by decide) (h.tm.own _ (lk_some hl)) (fun _ _ h => h)
  obtain ⟨ad, rfl, _, hc⟩ := IntsAt.at hkr hk
  exact ⟨ad, c, hkv, hc⟩
end
set_option maxRecDepth 100000 in
set_option maxHeartbeats 4000000 in
theorem under_c : ∀ (n : Nat) (B : Nat) (F : Nat → Prop) (g m : Nat) (N : Tab) (last : Int) (W : World) (id : Int) (nd : Nd) (out : List Int), out.length < n → TM B F g m N last W → lk N id = some nd → For N nd.kids out → (id :: out).Nodup → out.length ≤ 1000 →
    Calls Try.prog 38 #[.pointer (some ⟨g, 0, none⟩), .int .i64 id] W (UnderT B F g m N last W id out) := by
  intro n
  induction n with
  | zero => intro B F g m N last W id nd out hn; omega
  | succ n ih =>
    intro B F g m N last W id nd out hn hT hl hfor hnd ho
    obtain ⟨i0, hi, hz0, hz1, hz2⟩ := info_parts infoI
    have hmem := lk_some hl
    obtain ⟨A, c, hkv, hkr, _⟩ := OwnW.rows (N := fun _ => False) intc_len (by decide) (hT.own _ hmem) (fun _ _ h => h)
    have hkf := hT.kf _ hmem
    have hc0 := block_cell (j := 0) hT.blk rfl
    have hl0 := hT.look id false
    rw [hl] at hl0
    have hk2 := block_cell (j := 2) (hT.node _ hmem) rfl
    dsimp only at hkv hk2 hkf
    have hkI : (nd.kids.length : Int) ≤ 1000 := by omega
    rw [hkv] at hk2
    simp only [Bool.false_eq_true, if_false, Option.map_some, Option.getD_some] at hl0
    have HKV := Lib.hid hkv
    have HT := Lib.hid hT
    have HL := Lib.hid hl
    have HN := Lib.hid hnd
    have HO := Lib.hid ho
    have HIH := Lib.hid ih
    have HF := Lib.hid (show Lp B F g m N last W nd.kids out 0 (.slice none 0 0) [] out W from ⟨rfl, hfor, by rw [gone_nil]; exact hT, OwnW.nil _ _ _ _, Keep.refl _ _⟩)
    clear hT hl hnd hfor hmem hkr ih hkv ho
    go_enter Try.func38, Try.ntmps38
    go_wp2_with fail
    go_loopw [5, 18] (fun v i wr => ∃ (k : Nat) (vo : Value) (done rest : List Int), k ≤ nd.kids.length ∧ i = .int .i64 k ∧ vo = v ∧ Hid (Lp B F g m N last W nd.kids out k vo done rest wr)) (fun _ i _ => nd.kids.length - (RowKit.intOf i).toNat)
    case atStart => exact ⟨0, _, [], out, by omega, rfl, rfl, HF⟩
    case round =>
      obtain ⟨k, vo, done, rest, hk, rfl, rfl, HP⟩ := hrel
      clear hc0 hl0 hk2 HF
      by_cases hlt : k < nd.kids.length
      · obtain ⟨ndk, o1, o2, e1, e2, e3, e4, e5, e6, e7⟩ := HP.out.kid HL.out HN.out hlt
        obtain ⟨ad, c', hkv', hcell⟩ := HP.out.at e6 hlt
        rw [HKV.out] at hkv'
        injection hkv' with hA _ hC
        subst hA hC
        have hkkI : (k : Int) < (nd.kids.length : Int) := by omega
        have E1 := Lib.hid e1; have E2 := Lib.hid e2; have E3 := Lib.hid e3; have E4 := Lib.hid e4; have E5 := Lib.hid e5; have E6 := Lib.hid e6; have E7 := Lib.hid e7
        clear e1 e2 e3 e4 e5 e6 e7
        generalize nd.kids[k] = kk at *
        have hdl : done.length + 1 + o1.length ≤ 1000 := by
          have h1 := HO.out
          rw [HP.out.eq, E1.out] at h1
          simp at h1
          omega
        have AP := Lib.hid (HP.out.apart HT.out)
        have D5 := Lib.hid ((Below.refl wr.heap.size wr).alloc (Nat.le_refl _) (.cells #[.int .i64 kk] 3))
        have O5 := Lib.hid (HP.out.own.below D5.out)
        have N5 := Lib.hid (append_new (W := wr) (x := kk))
        have S5 : Hid (W.heap.size ≤ (wr.alloc (.cells #[.int .i64 kk] 3)).heap.size) := Lib.hid (Nat.le_trans HP.out.keep.size D5.out.size)
        go_wp2_with (at_builtin; (refine wpList_append_ownW (f := intc) intc_len intc_flat (by decide) rfl (.tmp 22) (.tmp 24) 35 rfl W.heap.size 3 i0 zI 8 Try.underlying35 hi hz0 hz1 hz2 rfl vo done.length done rfl O5.out (some ⟨wr.heap.size, 0, none⟩) 1 [kk] (fun h => by cases h) N5.out rfl (by unfold maxLen; simp; omega) (by simp; omega) S5.out ?_))
        intro v6 w6 ho6 hg6 hv6
        have O6 := Lib.hid (show OwnI w6 W.heap.size v6 (done ++ [kk]) by unfold OwnI; rw [List.length_append, List.flatMap_append, List.flatMap_singleton]; exact ho6)
        have K6 := Lib.hid (((Keep.of_below D5.out (fun k => vo.ownBlock = some k)).grown hg6 (fun q hq => .inl hq)))
        have T6 := Lib.hid (HP.out.tm.keep K6.out AP.out)
        have AP6 : Hid (∀ q, F q → v6.ownBlock ≠ some q) := Lib.hid (fun q hF hq => by
          have h1 := (O6.out.lt hq).1
          have h2 := (HT.out.lt q hF).2
          omega)
        have KK6 : Hid (Keep F W w6) := Lib.hid (HP.out.keep.trans K6.out (fun q hq => .inr (HP.out.own.lt hq).1))
        clear ho6 hg6 hv6 hcell N5 O5 S5 D5 K6
        go_wp2_with fail
        refine (HIH.out B F g m (gone N done) last w6 kk ndk o1 (by have := E7.out; omega) T6.out E2.out E3.out E5.out (by omega)).mono ?_
        rintro e w7 ⟨v7, rfl, ho7, ht7, hk7⟩
        have O7 := Lib.hid (O6.out.keep hk7 (fun q hq hF => AP6.out q hF hq))
        obtain ⟨A7, c7, ev7, hr7, _, _, hA7⟩ := OwnW.rows (N := fun _ => False) intc_len (by decide) ho7 (fun _ _ h => h)
        subst ev7
        have R7 := Lib.hid hr7
        have HA7 := Lib.hid hA7
        have T7 := Lib.hid ht7
        have KK7 := Lib.hid (KK6.out.trans hk7 (fun q hq => .inl hq))
        have S7 : Hid (W.heap.size ≤ w7.heap.size) := Lib.hid KK7.out.size
        clear ho7 ht7 hk7 hr7 hA7
        go_wp2_with (at_builtin; (refine wpList_append_ownW (f := intc) intc_len intc_flat (by decide) rfl (.tmp 26) (.tmp 29) 35 rfl W.heap.size 3 i0 zI 8 Try.underlying35 hi hz0 hz1 hz2 rfl v6 (done ++ [kk]).length (done ++ [kk]) rfl O7.out A7 c7 o1 HA7.out R7.out rfl (by unfold maxLen; simp; omega) (by simp; omega) S7.out ?_))
        intro v8 w8 ho8 hg8 hv8
        have O8 := Lib.hid (show OwnI w8 W.heap.size v8 (done ++ kk :: o1) by
          unfold OwnI
          simpa [Nat.add_assoc, Nat.add_comm 1] using ho8)
        have K8 := Lib.hid (((Keep.refl (fun k => v6.ownBlock = some k) w7).grown hg8 (fun q hq => .inl hq)))
        have T8 := Lib.hid (T7.out.keep K8.out AP6.out)
        have KK8 : Hid (Keep F W w8) := Lib.hid (KK7.out.trans K8.out (fun q hq => .inr (O7.out.lt hq).1))
        have hc8 := block_cell (j := 0) T8.out.blk rfl
        obtain ⟨w9, hrun, t9, k9⟩ := T8.out.delete kk 0 3
        rw [del_setK, gone_step] at t9
        have NX := Lib.hid (show Lp B F g m N last W nd.kids out (k + 1) v8 (done ++ kk :: o1) o2 w9 from ⟨by rw [HP.out.eq, E1.out]; simp, E4.out, t9, O8.out.keep k9 (fun q hq hF => by
          have h1 := (O8.out.lt hq).1
          have h2 := (HT.out.lt q hF).2
          omega), KK8.out.trans k9 (fun q hq => .inl hq)⟩)
        clear ho8 hg8 hv8 t9 k9 KK8 T8 K8 O8 R7 HA7 T7 KK7 S7 O7 AP6 T6 O6 KK6
        go_wp2_with fail
        go_roundw
        case rel => exact ⟨k + 1, v8, done ++ kk :: o1, o2, by omega, by go_num, rfl, NX⟩
        case measure => first | (simp [RowKit.intOf]; done) | (simp [RowKit.intOf]; omega)
      · obtain rfl : k = nd.kids.length := by omega
        have hd0 : rest = [] := by
          have := HP.out.fr
          rw [List.drop_length] at this
          exact this.isNil
        subst hd0
        have hdo : out = done := by rw [HP.out.eq, List.append_nil]
        subst hdo
        have hni : id ∉ out := (List.nodup_cons.1 HN.out).1
        have hl1 := (lk_gone (N := N) hni).trans HL.out
        have T1 := Lib.hid HP.out.tm
        have hc1 := block_cell (j := 0) T1.out.blk rfl
        have hlk := T1.out.look id false
        rw [hl1] at hlk
        simp only [Bool.false_eq_true, if_false, Option.map_some, Option.getD_some] at hlk
        have hblk := T1.out.node _ (lk_some hl1)
        have hc2 := block_cell (j := 2) hblk rfl
        have hf2 := block_free (j := 2) hblk
        dsimp only at hblk hc2 hf2
        have k2 : Keep (fun k => k = nd.b ∨ nd.kv.ownBlock = some k) wr (wr.setCell ⟨nd.b, 2, none⟩ (.slice none 0 0)) := (Keep.refl _ wr).setCell (.inl (.inl rfl)) _
        have T2 := T1.out.setK (v := .slice none 0 0) (ks := []) hl1 k2 (by have := block_set hblk (j := 2) (.slice none 0 0); simpa using this) (OwnW.nil _ _ _ _) (fun k hk => by cases hk) (fun k hF => hF) (fun k hk => by cases hk) (fun k hF => .inl hF) (by simp) (by have := (HT.out.lt g HT.out.Fg).1; have := (HT.out.lt g HT.out.Fg).2; have := HP.out.keep.size; omega)
        have KF : Keep F W (wr.setCell ⟨nd.b, 2, none⟩ (.slice none 0 0)) := HP.out.keep.setCell (.inl (T1.out.Fb _ (lk_some hl1))) _
        have OV : OwnI (wr.setCell ⟨nd.b, 2, none⟩ (.slice none 0 0)) W.heap.size vo out := HP.out.own.keep k2 (fun q hq h => by
          rcases h with h | h
          · subst h; exact HP.out.apart HT.out _ (T1.out.Fb _ (lk_some hl1)) hq
          · exact HP.out.apart HT.out q (T1.out.Fk _ (lk_some hl1) q h) hq)
        have HE := Lib.hid (show UnderT B F g m N last W id out (.returned vo) (wr.setCell ⟨nd.b, 2, none⟩ (.slice none 0 0)) from ⟨vo, rfl, OV, T2, KF⟩)
        clear k2 T2 KF OV hblk hl1 hni HP T1
        go_wp2_with fail
        go_ret
        exact HE.out
end Go.Proofs.Ytonflknnlfffhaa
