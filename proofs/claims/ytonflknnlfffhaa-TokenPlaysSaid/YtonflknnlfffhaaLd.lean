/- The law's own cut. -/
import Derived.Test.YtonflknnlfffhaaLk
namespace Go.Proofs.Ytonflknnlfffhaa
open Go.RowKit Go.Lib KP MR RW
theorem own_apart {w : World} {b b' e e' m m' n n' : Nat} {v v' : Value} {xs xs' : List Value} (h : OwnW w b e m v n xs) (h2 : OwnW w b' e' m' v' n' xs') (hT : e ≠ e') : ∀ k, v.ownBlock = some k → v'.ownBlock ≠ some k := by
  intro k hk
  rcases h.2 with ⟨rfl, _⟩ | ⟨g, cap, cur, rfl, a2, a3, _⟩
  · cases hk
  · injection hk with hk
    subst hk
    exact h2.ne a3 hT
/-- Between two tokens. -/
structure Cp (T : List Tk) (G0 : List Int) (W : World) (i : Nat) (vo : Value) (GA : Option Addr) (gc : Nat) (G : List Int) (wr : World) : Prop where
  rem : rem G (T.drop i) = rem G0 T
  own : OwnK wr W.heap.size vo ((T.take i).filter fun t => decide (t.1 ∉ Go.Proofs.Ytonflknnlfffhaa.rem G0 T))
  row : IntsAt (fun k => vo.ownBlock = some k) wr GA G
  nil : GA = none → gc = 0
  len : G.length ≤ 1000 + i
  below : Below W.heap.size W wr
section
variable {T : List Tk} {G0 G : List Int} {W wr w' : World} {i gc : Nat} {vo v' : Value} {GA : Option Addr}
theorem Cp.at (h : Cp T G0 W i vo GA gc G wr) (hw : WF T) (hi : i < T.length) : (T[i].1 ∈ Go.Proofs.Ytonflknnlfffhaa.rem G0 T) ↔ (T[i].1 ∈ G ∨ T[i].2.1 ∈ G) := by
  rw [← h.rem, List.drop_eq_getElem_cons hi]
  constructor
  · intro hx
    unfold Go.Proofs.Ytonflknnlfffhaa.rem at hx
    split at hx
    · assumption
    · rcases rem_from _ _ _ hx with h1 | ⟨u, hu, e⟩
      · exact .inl h1
      · exfalso
        obtain ⟨j, hj, rfl⟩ := List.getElem_of_mem hu
        rw [List.length_drop] at hj
        have h2 := List.pairwise_iff_getElem.1 hw.ris i (i + 1 + j) hi (by omega) (by omega)
        rw [List.getElem_drop] at e
        omega
  · intro hc
    unfold Go.Proofs.Ytonflknnlfffhaa.rem
    rw [if_pos hc]
    exact rem_sub _ _ _ (List.mem_append_right _ List.mem_cons_self)
theorem Cp.below' (h : Cp T G0 W i vo GA gc G wr) (hb : Below wr.heap.size wr w') : Cp T G0 W i vo GA gc G w' :=
  ⟨h.rem, h.own.below hb, h.row.below hb, h.nil, h.len, h.below.trans (hb.mono h.below.size)⟩
theorem Cp.stays (h : Cp T G0 W i vo GA gc G wr) (hw : WF T) (hi : i < T.length) (hn : ¬ (T[i].1 ∈ G ∨ T[i].2.1 ∈ G)) (ho : OwnK w' W.heap.size v' (((T.take i).filter fun t => decide (t.1 ∉ Go.Proofs.Ytonflknnlfffhaa.rem G0 T)) ++ [T[i]])) (hg : wr.grownBy w' vo.ownBlock) (hv : v'.ownBlock = vo.ownBlock ∨ ∀ k, v'.ownBlock = some k → wr.heap.size ≤ k) : Cp T G0 W (i + 1) v' GA gc G w' := by
  have k1 : Keep (fun k => vo.ownBlock = some k) wr w' := (Keep.refl _ wr).grown hg (fun k hk => .inl hk)
  refine ⟨?_, ?_, ?_, h.nil, by have := h.len; omega, h.below.trans (k1.below h.below.size (fun k hk => (h.own.lt hk).1))⟩
  · rw [← h.rem, List.drop_eq_getElem_cons hi]
    conv => rhs; unfold Go.Proofs.Ytonflknnlfffhaa.rem
    rw [if_neg hn]
  · rw [List.take_succ_eq_append_getElem hi, List.filter_append, List.filter_cons_of_pos (by simpa using fun hx => hn ((h.at hw hi).1 hx))]
    exact ho
  · have h1 := RowsAt.old intc_len (by decide) h.row
    refine (h1.keep k1 (fun k hk => .inl hk)).mono (fun k hk => ?_)
    rcases hv with e | e
    · exact .inl (by rw [← e]; exact hk)
    · exact .inr (e k hk)
theorem Cp.goes (h : Cp T G0 W i vo GA gc G wr) (hw : WF T) (hi : i < T.length) (hn : T[i].1 ∈ G ∨ T[i].2.1 ∈ G) (ho : OwnI w' wr.heap.size v' (G ++ [T[i].1])) (hb : Below wr.heap.size wr w') : ∃ GA' gc', v' = .slice GA' (G ++ [T[i].1]).length gc' ∧ Cp T G0 W (i + 1) vo GA' gc' (G ++ [T[i].1]) w' := by
  have o1 := h.own.below hb
  obtain ⟨A, c, e, hr, _, hc, hA⟩ := OwnW.rows (N := fun k => vo.ownBlock = some k) intc_len (by decide) ho (fun k hk hk2 => own_apart o1 ho (by decide) k hk2 hk)
  refine ⟨A, c, e, ⟨?_, ?_, hr, hA, by have := h.len; simp; omega, h.below.trans (hb.mono h.below.size)⟩⟩
  · rw [← h.rem, List.drop_eq_getElem_cons hi]
    conv => rhs; unfold Go.Proofs.Ytonflknnlfffhaa.rem
    rw [if_pos hn]
  · have e2 : (T.take (i + 1)).filter (fun t => decide (t.1 ∉ Go.Proofs.Ytonflknnlfffhaa.rem G0 T)) = (T.take i).filter fun t => decide (t.1 ∉ Go.Proofs.Ytonflknnlfffhaa.rem G0 T) := by
      rw [List.take_succ_eq_append_getElem hi, List.filter_append, List.filter_cons_of_neg (by simpa using (h.at hw hi).2 hn)]
      simp
    unfold OwnK
    rw [e2]
    exact o1
end
def anyG (G : List Int) (t1 t2 : Int) : Bool := G.any fun x => x == t1 || x == t2
theorem anyG_iff {G : List Int} {t1 t2 : Int} : anyG G t1 t2 = true ↔ t1 ∈ G ∨ t2 ∈ G := by
  unfold anyG
  rw [List.any_eq_true]
  constructor
  · rintro ⟨x, hx, h⟩
    rcases Bool.or_eq_true _ _ ▸ h with h | h
    · exact .inl (by have := eq_of_beq h; subst this; exact hx)
    · exact .inr (by have := eq_of_beq h; subst this; exact hx)
  · rintro (h | h)
    · exact ⟨_, h, by simp⟩
    · exact ⟨_, h, by simp⟩
theorem anyG_step (G : List Int) (t1 t2 : Int) (k : Nat) (hk : k < G.length) : anyG (G.take (k + 1)) t1 t2 = (anyG (G.take k) t1 t2 || (G[k] == t1 || G[k] == t2)) := by
  unfold anyG
  rw [List.take_succ_eq_append_getElem hk, List.any_append]
  simp
def CutL (T : List Tk) (G0 : List Int) (W : World) (e : Ending) (w' : World) : Prop :=
  ∃ v1 v2, e = .returned (.tuple #[v1, v2]) ∧ OwnK w' W.heap.size v1 (stay T G0) ∧ OwnI w' W.heap.size v2 (goes T G0) ∧ Below W.heap.size W w'
set_option maxRecDepth 100000 in
set_option maxHeartbeats 8000000 in
theorem cut_l (A : Option Addr) (c : Nat) (T : List Tk) (GA0 : Option Addr) (gc0 : Nat) (G0 : List Int) (W : World) (hT : ToksAt (fun _ => False) W A T) (hG : IntsAt (fun _ => False) W GA0 G0) (hg0 : GA0 = none → gc0 = 0) (hw : WF T) (hl : T.length ≤ 900) (hgl : G0.length ≤ 1000) :
    Calls Try.prog 11 #[.slice A T.length c, .slice GA0 G0.length gc0] W (CutL T G0 W) := by
  obtain ⟨i0, hi, hz0, hz1, hz2⟩ := info_parts infoI
  obtain ⟨i0K, hiK, hz0K, hz1K, hz2K⟩ := info_parts infoK
  have HT := Lib.hid (fun w' (h : Below W.heap.size W w') => RowsAt.below hT h)
  have HW := Lib.hid hw
  have hTI : (T.length : Int) ≤ 900 := by omega
  have HP0 : Hid (Cp T G0 W 0 (.slice none 0 0) GA0 gc0 G0 W) := Lib.hid ⟨rfl, OwnW.nil _ _ _ _, hG.mono (fun _ h => by cases h), hg0, by omega, Below.refl _ _⟩
  clear hT hG hg0 hw
  go_enter Try.func11, Try.ntmps11
  go_wp2_with fail
  go_loopw [1, 6, 7] (fun gv v iv wr => ∃ (i : Nat) (vo : Value) (GA : Option Addr) (gc : Nat) (G : List Int), i ≤ T.length ∧ iv = .int .i64 i ∧ vo = v ∧ gv = .slice GA G.length gc ∧ Hid (Cp T G0 W i vo GA gc G wr)) (fun _ _ iv _ => T.length - (RowKit.intOf iv).toNat)
  case atStart => exact ⟨0, _, GA0, gc0, G0, by omega, rfl, rfl, rfl, HP0⟩
  case round =>
    obtain ⟨i, vo, GA, gc, G, hin, rfl, rfl, rfl, HP⟩ := hrel
    clear HP0
    have hGl := HP.out.len
    by_cases hlt : i < T.length
    · have hiI : (i : Int) < (T.length : Int) := by omega
      have hGI : (G.length : Int) ≤ 2000 := by omega
      go_wp2_with fail
      obtain ⟨t1, ht1⟩ : ∃ t1, Hid (t1 = T[i].1) := ⟨_, Lib.hid rfl⟩
      obtain ⟨t2, ht2⟩ : ∃ t2, Hid (t2 = T[i].2.1) := ⟨_, Lib.hid rfl⟩
      obtain ⟨wo, hwo⟩ : ∃ wo : World, wo = wr := ⟨_, rfl⟩
      rw [← hwo] at HP ⊢
      clear hwo
      have HA0 : Hid (false = anyG (G.take 0) t1 t2) := Lib.hid rfl
      go_loopw [8, 9] (fun bv kv wr => ∃ (k : Nat) (b : Bool), k ≤ G.length ∧ kv = .int .i64 k ∧ bv = .bool b ∧ Hid (b = anyG (G.take k) t1 t2) ∧ Hid (Cp T G0 W i vo GA gc G wr)) (fun _ kv _ => G.length - (RowKit.intOf kv).toNat)
      case atStart => exact ⟨0, false, by omega, rfl, rfl, HA0, HP⟩
      case round =>
        obtain ⟨k, b, hk, rfl, rfl, HB, HP⟩ := hrel
        clear HA0
        obtain ⟨ad, rfl, -, c0, c1, c2⟩ := ToksAt.at (HT.out _ HP.out.below) hlt
        rw [← ht1.out] at c0
        rw [← ht2.out] at c1
        clear c2
        by_cases hlk : k < G.length
        · have hkI : (k : Int) < (G.length : Int) := by omega
          obtain ⟨gd, rfl, -, d0⟩ := IntsAt.at HP.out.row hlk
          have NB : Hid (∀ b' : Bool, (b || (G[k] == t1 || G[k] == t2)) = b' → b' = anyG (G.take (k + 1)) t1 t2) := Lib.hid (fun b' e => by rw [anyG_step G t1 t2 k hlk, ← HB.out, e])
          have P9 : Hid (Cp T G0 W i vo (some gd) gc G wr.drew) := Lib.hid (HP.out.below' ((Below.refl _ wr).drew))
          generalize G[k] = x at *
          have HS9 : Hid ((fun w' : World => w'.cell? (gd.add k) = some (.int .i64 x) ∧ w'.cell? (ad.add (i * 3)) = some (.int .i64 t1) ∧ w'.cell? ⟨(ad.add (i * 3)).block, (ad.add (i * 3)).off + 1, none⟩ = some (.int .i64 t2)) wr.drew) := Lib.hid ⟨d0, c0, c1⟩
          clear c0 c1 d0
          cases b with
          | true =>
            have HN := Lib.hid (NB.out true rfl)
            clear NB
            go_wp2_with fail
            refine wp_region_held_drew (S := (fun w' : World => w'.cell? (gd.add k) = some (.int .i64 x) ∧ w'.cell? (ad.add (i * 3)) = some (.int .i64 t1) ∧ w'.cell? ⟨(ad.add (i * 3)).block, (ad.add (i * 3)).off + 1, none⟩ = some (.int .i64 t2))) (by kernel_rfl) HS9.out (fun hHeld => ?_)
            refine wpAnyH_take (i := 0) (oi := ⟨_, _, _, _, _, _⟩) (v := ?_) rfl (by kernel_rfl) (by kernel_rfl) (by kernel_rfl) (fun _ _ _ h => h) (Or.inl ⟨by rfl, ?_⟩) (by assumption) ?_
            rotate_left
            · intro w' hSw; (try dsimp only at hSw); go_simp; (try with_reducible rfl)
            try simp only [Act.put, List.setIfInBounds_toArray, List.set_cons_zero, List.set_cons_succ]
            refine wpAnyH_take (i := 1) (oi := ⟨_, _, _, _, _, _⟩) (v := ?_) rfl (by kernel_rfl) (by kernel_rfl) (by kernel_rfl) (fun _ _ _ h => h) (Or.inl ⟨by rfl, ?_⟩) (by assumption) ?_
            rotate_left
            · intro w' hSw; (try dsimp only at hSw); go_simp; (try with_reducible rfl)
            try simp only [Act.put, List.setIfInBounds_toArray, List.set_cons_zero, List.set_cons_succ]
            refine wpAnyH_take (i := 2) (oi := ⟨_, _, _, _, _, _⟩) (v := undef) rfl (by kernel_rfl) (by kernel_rfl) (by kernel_rfl) (fun _ _ _ h => h) (Or.inr ⟨by rfl, rfl⟩) (by assumption) ?_
            try simp only [Act.put, List.setIfInBounds_toArray, List.set_cons_zero, List.set_cons_succ]
            refine wpAnyH_take (i := 3) (oi := ⟨_, _, _, _, _, _⟩) (v := undef) rfl (by kernel_rfl) (by kernel_rfl) (by kernel_rfl) (fun _ _ _ h => h) (Or.inr ⟨by rfl, rfl⟩) (by assumption) ?_
            try simp only [Act.put, List.setIfInBounds_toArray, List.set_cons_zero, List.set_cons_succ]
            refine wpAnyH_take (i := 4) (oi := ⟨_, _, _, _, _, _⟩) (v := undef) rfl (by kernel_rfl) (by kernel_rfl) (by kernel_rfl) (fun _ _ _ h => h) (Or.inr ⟨by rfl, rfl⟩) (by assumption) ?_
            try simp only [Act.put, List.setIfInBounds_toArray, List.set_cons_zero, List.set_cons_succ]
            refine wpAnyH_take (i := 5) (oi := ⟨_, _, _, _, _, _⟩) (v := undef) rfl (by kernel_rfl) (by kernel_rfl) (by kernel_rfl) (fun _ _ _ h => h) (Or.inr ⟨by rfl, rfl⟩) (by assumption) ?_
            try simp only [Act.put, List.setIfInBounds_toArray, List.set_cons_zero, List.set_cons_succ]
            refine wpAnyH_take (i := 6) (oi := ⟨_, _, _, _, _, _⟩) (v := undef) rfl (by kernel_rfl) (by kernel_rfl) (by kernel_rfl) (fun _ _ _ h => h) (Or.inr ⟨by rfl, rfl⟩) (by assumption) ?_
            try simp only [Act.put, List.setIfInBounds_toArray, List.set_cons_zero, List.set_cons_succ]
            refine wpAnyH_take (i := 7) (oi := ⟨_, _, _, _, _, _⟩) (v := undef) rfl (by kernel_rfl) (by kernel_rfl) (by kernel_rfl) (fun _ _ _ h => h) (Or.inr ⟨by rfl, rfl⟩) (by assumption) ?_
            try simp only [Act.put, List.setIfInBounds_toArray, List.set_cons_zero, List.set_cons_succ]
            refine wpAnyH_take (i := 8) (oi := ⟨_, _, _, _, _, _⟩) (v := undef) rfl (by kernel_rfl) (by kernel_rfl) (by kernel_rfl) (fun _ _ _ h => h) (Or.inr ⟨by rfl, rfl⟩) (by assumption) ?_
            try simp only [Act.put, List.setIfInBounds_toArray, List.set_cons_zero, List.set_cons_succ]
            refine wpAnyH_take (i := 9) (oi := ⟨_, _, _, _, _, _⟩) (v := undef) rfl (by kernel_rfl) (by kernel_rfl) (by kernel_rfl) (fun _ _ _ h => h) (Or.inr ⟨by rfl, rfl⟩) (by assumption) ?_
            try simp only [Act.put, List.setIfInBounds_toArray, List.set_cons_zero, List.set_cons_succ]
            refine wpAnyH_take (i := 10) (oi := ⟨_, _, _, _, _, _⟩) (v := undef) rfl (by kernel_rfl) (by kernel_rfl) (by kernel_rfl) (fun _ _ _ h => h) (Or.inr ⟨by rfl, rfl⟩) (by assumption) ?_
            try simp only [Act.put, List.setIfInBounds_toArray, List.set_cons_zero, List.set_cons_succ]
            refine wpAnyH_take (i := 11) (oi := ⟨_, _, _, _, _, _⟩) (v := undef) rfl (by kernel_rfl) (by kernel_rfl) (by kernel_rfl) (fun _ _ _ h => h) (Or.inr ⟨by rfl, rfl⟩) (by assumption) ?_
            try simp only [Act.put, List.setIfInBounds_toArray, List.set_cons_zero, List.set_cons_succ]
            refine wpAnyH_take (i := 12) (oi := ⟨_, _, _, _, _, _⟩) (v := ?_) rfl (by kernel_rfl) (by kernel_rfl) (by kernel_rfl) (fun _ _ _ h => h) (Or.inl ⟨by rfl, ?_⟩) (by assumption) ?_
            rotate_left
            · intro w' hSw; (try dsimp only at hSw); go_simp; (try with_reducible rfl)
            try simp only [Act.put, List.setIfInBounds_toArray, List.set_cons_zero, List.set_cons_succ]
            refine wpAnyH_take (i := 13) (oi := ⟨_, _, _, _, _, _⟩) (v := ?_) rfl (by kernel_rfl) (by kernel_rfl) (by kernel_rfl) (fun _ _ _ h => h) (Or.inl ⟨by rfl, ?_⟩) (by assumption) ?_
            rotate_left
            · intro w' hSw; (try dsimp only at hSw); go_simp; (try with_reducible rfl)
            try simp only [Act.put, List.setIfInBounds_toArray, List.set_cons_zero, List.set_cons_succ]
            refine wpAnyH_take (i := 14) (oi := ⟨_, _, _, _, _, _⟩) (v := undef) rfl (by kernel_rfl) (by kernel_rfl) (by kernel_rfl) (fun _ _ _ h => h) (Or.inr ⟨by rfl, rfl⟩) (by assumption) ?_
            try simp only [Act.put, List.setIfInBounds_toArray, List.set_cons_zero, List.set_cons_succ]
            refine wpAnyH_take (i := 15) (oi := ⟨_, _, _, _, _, _⟩) (v := undef) rfl (by kernel_rfl) (by kernel_rfl) (by kernel_rfl) (fun _ _ _ h => h) (Or.inr ⟨by rfl, rfl⟩) (by assumption) ?_
            try simp only [Act.put, List.setIfInBounds_toArray, List.set_cons_zero, List.set_cons_succ]
            refine wpAnyH_take (i := 16) (oi := ⟨_, _, _, _, _, _⟩) (v := undef) rfl (by kernel_rfl) (by kernel_rfl) (by kernel_rfl) (fun _ _ _ h => h) (Or.inr ⟨by rfl, rfl⟩) (by assumption) ?_
            try simp only [Act.put, List.setIfInBounds_toArray, List.set_cons_zero, List.set_cons_succ]
            refine wpAnyH_take (i := 17) (oi := ⟨_, _, _, _, _, _⟩) (v := undef) rfl (by kernel_rfl) (by kernel_rfl) (by kernel_rfl) (fun _ _ _ h => h) (Or.inr ⟨by rfl, rfl⟩) (by assumption) ?_
            try simp only [Act.put, List.setIfInBounds_toArray, List.set_cons_zero, List.set_cons_succ]
            refine wpAnyH_take (i := 18) (oi := ⟨_, _, _, _, _, _⟩) (v := undef) rfl (by kernel_rfl) (by kernel_rfl) (by kernel_rfl) (fun _ _ _ h => h) (Or.inr ⟨by rfl, rfl⟩) (by assumption) ?_
            try simp only [Act.put, List.setIfInBounds_toArray, List.set_cons_zero, List.set_cons_succ]
            refine wpAnyH_take (i := 19) (oi := ⟨_, _, _, _, _, _⟩) (v := undef) rfl (by kernel_rfl) (by kernel_rfl) (by kernel_rfl) (fun _ _ _ h => h) (Or.inr ⟨by rfl, rfl⟩) (by assumption) ?_
            try simp only [Act.put, List.setIfInBounds_toArray, List.set_cons_zero, List.set_cons_succ]
            refine wpAnyH_take (i := 20) (oi := ⟨_, _, _, _, _, _⟩) (v := undef) rfl (by kernel_rfl) (by kernel_rfl) (by kernel_rfl) (fun _ _ _ h => h) (Or.inr ⟨by rfl, rfl⟩) (by assumption) ?_
            try simp only [Act.put, List.setIfInBounds_toArray, List.set_cons_zero, List.set_cons_succ]
            refine wpAnyH_take (i := 21) (oi := ⟨_, _, _, _, _, _⟩) (v := undef) rfl (by kernel_rfl) (by kernel_rfl) (by kernel_rfl) (fun _ _ _ h => h) (Or.inr ⟨by rfl, rfl⟩) (by assumption) ?_
            try simp only [Act.put, List.setIfInBounds_toArray, List.set_cons_zero, List.set_cons_succ]
            refine wpAnyH_take (i := 22) (oi := ⟨_, _, _, _, _, _⟩) (v := undef) rfl (by kernel_rfl) (by kernel_rfl) (by kernel_rfl) (fun _ _ _ h => h) (Or.inr ⟨by rfl, rfl⟩) (by assumption) ?_
            try simp only [Act.put, List.setIfInBounds_toArray, List.set_cons_zero, List.set_cons_succ]
            refine wpAnyH_take (i := 23) (oi := ⟨_, _, _, _, _, _⟩) (v := undef) rfl (by kernel_rfl) (by kernel_rfl) (by kernel_rfl) (fun _ _ _ h => h) (Or.inr ⟨by rfl, rfl⟩) (by assumption) ?_
            try simp only [Act.put, List.setIfInBounds_toArray, List.set_cons_zero, List.set_cons_succ]
            refine wpAnyH_take (i := 24) (oi := ⟨_, _, _, _, _, _⟩) (v := ?_) rfl (by kernel_rfl) (by kernel_rfl) (by kernel_rfl) (fun _ _ _ h => h) (Or.inl ⟨by rfl, ?_⟩) (by assumption) ?_
            rotate_left
            · intro w' hSw; (try dsimp only at hSw); go_simp; (try with_reducible rfl)
            try simp only [Act.put, List.setIfInBounds_toArray, List.set_cons_zero, List.set_cons_succ]
            refine wpAnyH_take (i := 25) (oi := ⟨_, _, _, _, _, _⟩) (v := ?_) rfl (by kernel_rfl) (by kernel_rfl) (by kernel_rfl) (fun _ _ _ h => h) (Or.inl ⟨by rfl, ?_⟩) (by assumption) ?_
            rotate_left
            · intro w' hSw; (try dsimp only at hSw); go_simp; (try with_reducible rfl)
            try simp only [Act.put, List.setIfInBounds_toArray, List.set_cons_zero, List.set_cons_succ]
            refine wpAnyH_done (by kernel_rfl) ?_ _
            clear hHeld
            go_wp2_with fail
            go_roundw
            case rel => exact ⟨k + 1, true, by omega, by go_num, rfl, HN, P9⟩
            case measure => first | (simp [RowKit.intOf]; done) | (simp [RowKit.intOf]; omega)
          | false =>
            by_cases h1 : x = t1
            · have e1 : (x == t1) = true := by simp [h1]
              have HN := Lib.hid (NB.out true (by simp [h1]))
              clear NB h1
              go_wp2_with fail
              refine wp_region_held_drew (S := (fun w' : World => w'.cell? (gd.add k) = some (.int .i64 x) ∧ w'.cell? (ad.add (i * 3)) = some (.int .i64 t1) ∧ w'.cell? ⟨(ad.add (i * 3)).block, (ad.add (i * 3)).off + 1, none⟩ = some (.int .i64 t2))) (by kernel_rfl) HS9.out (fun hHeld => ?_)
              refine wpAnyH_take (i := 0) (oi := ⟨_, _, _, _, _, _⟩) (v := ?_) rfl (by kernel_rfl) (by kernel_rfl) (by kernel_rfl) (fun _ _ _ h => h) (Or.inl ⟨by rfl, ?_⟩) (by assumption) ?_
              rotate_left
              · intro w' hSw; (try dsimp only at hSw); go_simp; (try with_reducible rfl)
              try simp only [Act.put, List.setIfInBounds_toArray, List.set_cons_zero, List.set_cons_succ]
              refine wpAnyH_take (i := 1) (oi := ⟨_, _, _, _, _, _⟩) (v := ?_) rfl (by kernel_rfl) (by kernel_rfl) (by kernel_rfl) (fun _ _ _ h => h) (Or.inl ⟨by rfl, ?_⟩) (by assumption) ?_
              rotate_left
              · intro w' hSw; (try dsimp only at hSw); go_simp; (try with_reducible rfl)
              try simp only [Act.put, List.setIfInBounds_toArray, List.set_cons_zero, List.set_cons_succ]
              refine wpAnyH_take (i := 2) (oi := ⟨_, _, _, _, _, _⟩) (v := ?_) rfl (by kernel_rfl) (by kernel_rfl) (by kernel_rfl) (fun _ _ _ h => h) (Or.inl ⟨by rfl, ?_⟩) (by assumption) ?_
              rotate_left
              · intro w' hSw; (try dsimp only at hSw); go_simp; (try with_reducible rfl)
              try simp only [Act.put, List.setIfInBounds_toArray, List.set_cons_zero, List.set_cons_succ]
              refine wpAnyH_take (i := 3) (oi := ⟨_, _, _, _, _, _⟩) (v := ?_) rfl (by kernel_rfl) (by kernel_rfl) (by kernel_rfl) (fun _ _ _ h => h) (Or.inl ⟨by rfl, ?_⟩) (by assumption) ?_
              rotate_left
              · intro w' hSw; (try dsimp only at hSw); go_simp; (try with_reducible rfl)
              try simp only [Act.put, List.setIfInBounds_toArray, List.set_cons_zero, List.set_cons_succ]
              refine wpAnyH_take (i := 4) (oi := ⟨_, _, _, _, _, _⟩) (v := ?_) rfl (by kernel_rfl) (by kernel_rfl) (by kernel_rfl) (fun _ _ _ h => h) (Or.inl ⟨by rfl, ?_⟩) (by assumption) ?_
              rotate_left
              · intro w' hSw; (try dsimp only at hSw); go_simp; (try with_reducible rfl)
              try simp only [Act.put, List.setIfInBounds_toArray, List.set_cons_zero, List.set_cons_succ]
              refine wpAnyH_take (i := 5) (oi := ⟨_, _, _, _, _, _⟩) (v := ?_) rfl (by kernel_rfl) (by kernel_rfl) (by kernel_rfl) (fun _ _ _ h => h) (Or.inl ⟨by rfl, ?_⟩) (by assumption) ?_
              rotate_left
              · intro w' hSw; (try dsimp only at hSw); go_simp; (try with_reducible rfl)
              try simp only [Act.put, List.setIfInBounds_toArray, List.set_cons_zero, List.set_cons_succ]
              refine wpAnyH_take (i := 6) (oi := ⟨_, _, _, _, _, _⟩) (v := ?_) rfl (by kernel_rfl) (by kernel_rfl) (by kernel_rfl) (fun _ _ _ h => h) (Or.inl ⟨by rfl, ?_⟩) (by assumption) ?_
              rotate_left
              · intro w' hSw; (try dsimp only at hSw); go_simp; (try with_reducible rfl)
              try simp only [Act.put, List.setIfInBounds_toArray, List.set_cons_zero, List.set_cons_succ]
              refine wpAnyH_take (i := 7) (oi := ⟨_, _, _, _, _, _⟩) (v := ?_) rfl (by kernel_rfl) (by kernel_rfl) (by kernel_rfl) (fun _ _ _ h => h) (Or.inl ⟨by rfl, ?_⟩) (by assumption) ?_
              rotate_left
              · intro w' hSw; (try dsimp only at hSw); go_simp; (try with_reducible rfl)
              try simp only [Act.put, List.setIfInBounds_toArray, List.set_cons_zero, List.set_cons_succ]
              refine wpAnyH_take (i := 8) (oi := ⟨_, _, _, _, _, _⟩) (v := ?_) rfl (by kernel_rfl) (by kernel_rfl) (by kernel_rfl) (fun _ _ _ h => h) (Or.inl ⟨by rfl, ?_⟩) (by assumption) ?_
              rotate_left
              · intro w' hSw; (try dsimp only at hSw); go_simp; (try with_reducible rfl)
              try simp only [Act.put, List.setIfInBounds_toArray, List.set_cons_zero, List.set_cons_succ]
              refine wpAnyH_take (i := 9) (oi := ⟨_, _, _, _, _, _⟩) (v := ?_) rfl (by kernel_rfl) (by kernel_rfl) (by kernel_rfl) (fun _ _ _ h => h) (Or.inl ⟨by rfl, ?_⟩) (by assumption) ?_
              rotate_left
              · intro w' hSw; (try dsimp only at hSw); go_simp; (try with_reducible rfl)
              try simp only [Act.put, List.setIfInBounds_toArray, List.set_cons_zero, List.set_cons_succ]
              refine wpAnyH_take (i := 10) (oi := ⟨_, _, _, _, _, _⟩) (v := ?_) rfl (by kernel_rfl) (by kernel_rfl) (by kernel_rfl) (fun _ _ _ h => h) (Or.inl ⟨by rfl, ?_⟩) (by assumption) ?_
              rotate_left
              · intro w' hSw; (try dsimp only at hSw); go_simp; (try with_reducible rfl)
              try simp only [Act.put, List.setIfInBounds_toArray, List.set_cons_zero, List.set_cons_succ]
              refine wpAnyH_take (i := 11) (oi := ⟨_, _, _, _, _, _⟩) (v := ?_) rfl (by kernel_rfl) (by kernel_rfl) (by kernel_rfl) (fun _ _ _ h => h) (Or.inl ⟨by rfl, ?_⟩) (by assumption) ?_
              rotate_left
              · intro w' hSw; (try dsimp only at hSw); go_simp; (try with_reducible rfl)
              try simp only [Act.put, List.setIfInBounds_toArray, List.set_cons_zero, List.set_cons_succ]
              refine wpAnyH_take (i := 12) (oi := ⟨_, _, _, _, _, _⟩) (v := ?_) rfl (by kernel_rfl) (by kernel_rfl) (by kernel_rfl) (fun _ _ _ h => h) (Or.inl ⟨by rfl, ?_⟩) (by assumption) ?_
              rotate_left
              · intro w' hSw; (try dsimp only at hSw); go_simp; (try with_reducible rfl)
              try simp only [Act.put, List.setIfInBounds_toArray, List.set_cons_zero, List.set_cons_succ]
              refine wpAnyH_take (i := 13) (oi := ⟨_, _, _, _, _, _⟩) (v := ?_) rfl (by kernel_rfl) (by kernel_rfl) (by kernel_rfl) (fun _ _ _ h => h) (Or.inl ⟨by rfl, ?_⟩) (by assumption) ?_
              rotate_left
              · intro w' hSw; (try dsimp only at hSw); go_simp; (try with_reducible rfl)
              try simp only [Act.put, List.setIfInBounds_toArray, List.set_cons_zero, List.set_cons_succ]
              refine wpAnyH_take (i := 14) (oi := ⟨_, _, _, _, _, _⟩) (v := undef) rfl (by kernel_rfl) (by kernel_rfl) (by kernel_rfl) (fun _ _ _ h => h) (Or.inr ⟨by rfl, rfl⟩) (by assumption) ?_
              try simp only [Act.put, List.setIfInBounds_toArray, List.set_cons_zero, List.set_cons_succ]
              refine wpAnyH_take (i := 15) (oi := ⟨_, _, _, _, _, _⟩) (v := undef) rfl (by kernel_rfl) (by kernel_rfl) (by kernel_rfl) (fun _ _ _ h => h) (Or.inr ⟨by rfl, rfl⟩) (by assumption) ?_
              try simp only [Act.put, List.setIfInBounds_toArray, List.set_cons_zero, List.set_cons_succ]
              refine wpAnyH_take (i := 16) (oi := ⟨_, _, _, _, _, _⟩) (v := undef) rfl (by kernel_rfl) (by kernel_rfl) (by kernel_rfl) (fun _ _ _ h => h) (Or.inr ⟨by rfl, rfl⟩) (by assumption) ?_
              try simp only [Act.put, List.setIfInBounds_toArray, List.set_cons_zero, List.set_cons_succ]
              refine wpAnyH_take (i := 17) (oi := ⟨_, _, _, _, _, _⟩) (v := undef) rfl (by kernel_rfl) (by kernel_rfl) (by kernel_rfl) (fun _ _ _ h => h) (Or.inr ⟨by rfl, rfl⟩) (by assumption) ?_
              try simp only [Act.put, List.setIfInBounds_toArray, List.set_cons_zero, List.set_cons_succ]
              refine wpAnyH_take (i := 18) (oi := ⟨_, _, _, _, _, _⟩) (v := undef) rfl (by kernel_rfl) (by kernel_rfl) (by kernel_rfl) (fun _ _ _ h => h) (Or.inr ⟨by rfl, rfl⟩) (by assumption) ?_
              try simp only [Act.put, List.setIfInBounds_toArray, List.set_cons_zero, List.set_cons_succ]
              refine wpAnyH_take (i := 19) (oi := ⟨_, _, _, _, _, _⟩) (v := undef) rfl (by kernel_rfl) (by kernel_rfl) (by kernel_rfl) (fun _ _ _ h => h) (Or.inr ⟨by rfl, rfl⟩) (by assumption) ?_
              try simp only [Act.put, List.setIfInBounds_toArray, List.set_cons_zero, List.set_cons_succ]
              refine wpAnyH_take (i := 20) (oi := ⟨_, _, _, _, _, _⟩) (v := undef) rfl (by kernel_rfl) (by kernel_rfl) (by kernel_rfl) (fun _ _ _ h => h) (Or.inr ⟨by rfl, rfl⟩) (by assumption) ?_
              try simp only [Act.put, List.setIfInBounds_toArray, List.set_cons_zero, List.set_cons_succ]
              refine wpAnyH_take (i := 21) (oi := ⟨_, _, _, _, _, _⟩) (v := undef) rfl (by kernel_rfl) (by kernel_rfl) (by kernel_rfl) (fun _ _ _ h => h) (Or.inr ⟨by rfl, rfl⟩) (by assumption) ?_
              try simp only [Act.put, List.setIfInBounds_toArray, List.set_cons_zero, List.set_cons_succ]
              refine wpAnyH_take (i := 22) (oi := ⟨_, _, _, _, _, _⟩) (v := undef) rfl (by kernel_rfl) (by kernel_rfl) (by kernel_rfl) (fun _ _ _ h => h) (Or.inr ⟨by rfl, rfl⟩) (by assumption) ?_
              try simp only [Act.put, List.setIfInBounds_toArray, List.set_cons_zero, List.set_cons_succ]
              refine wpAnyH_take (i := 23) (oi := ⟨_, _, _, _, _, _⟩) (v := undef) rfl (by kernel_rfl) (by kernel_rfl) (by kernel_rfl) (fun _ _ _ h => h) (Or.inr ⟨by rfl, rfl⟩) (by assumption) ?_
              try simp only [Act.put, List.setIfInBounds_toArray, List.set_cons_zero, List.set_cons_succ]
              refine wpAnyH_take (i := 24) (oi := ⟨_, _, _, _, _, _⟩) (v := ?_) rfl (by kernel_rfl) (by kernel_rfl) (by kernel_rfl) (fun _ _ _ h => h) (Or.inl ⟨by rfl, ?_⟩) (by assumption) ?_
              rotate_left
              · intro w' hSw; (try dsimp only at hSw); go_simp; (try with_reducible rfl)
              try simp only [Act.put, List.setIfInBounds_toArray, List.set_cons_zero, List.set_cons_succ]
              refine wpAnyH_take (i := 25) (oi := ⟨_, _, _, _, _, _⟩) (v := ?_) rfl (by kernel_rfl) (by kernel_rfl) (by kernel_rfl) (fun _ _ _ h => h) (Or.inl ⟨by rfl, ?_⟩) (by assumption) ?_
              rotate_left
              · intro w' hSw; (try dsimp only at hSw); go_simp; (try with_reducible rfl)
              try simp only [Act.put, List.setIfInBounds_toArray, List.set_cons_zero, List.set_cons_succ]
              refine wpAnyH_done (by kernel_rfl) ?_ _
              clear hHeld
              go_wp2_with fail
              go_roundw
              case rel => exact ⟨k + 1, true, by omega, by go_num, rfl, HN, P9⟩
              case measure => first | (simp [RowKit.intOf]; done) | (simp [RowKit.intOf]; omega)
            · have e1 : (x == t1) = false := by simp [h1]
              have HN := Lib.hid (NB.out (x == t2) (by rw [e1]; simp))
              clear NB h1
              generalize he2 : (x == t2) = b2 at *
              go_wp2_with fail
              refine wp_region_held_drew (S := (fun w' : World => w'.cell? (gd.add k) = some (.int .i64 x) ∧ w'.cell? (ad.add (i * 3)) = some (.int .i64 t1) ∧ w'.cell? ⟨(ad.add (i * 3)).block, (ad.add (i * 3)).off + 1, none⟩ = some (.int .i64 t2))) (by kernel_rfl) HS9.out (fun hHeld => ?_)
              refine wpAnyH_take (i := 0) (oi := ⟨_, _, _, _, _, _⟩) (v := ?_) rfl (by kernel_rfl) (by kernel_rfl) (by kernel_rfl) (fun _ _ _ h => h) (Or.inl ⟨by rfl, ?_⟩) (by assumption) ?_
              rotate_left
              · intro w' hSw; (try dsimp only at hSw); go_simp; (try with_reducible rfl)
              try simp only [Act.put, List.setIfInBounds_toArray, List.set_cons_zero, List.set_cons_succ]
              refine wpAnyH_take (i := 1) (oi := ⟨_, _, _, _, _, _⟩) (v := ?_) rfl (by kernel_rfl) (by kernel_rfl) (by kernel_rfl) (fun _ _ _ h => h) (Or.inl ⟨by rfl, ?_⟩) (by assumption) ?_
              rotate_left
              · intro w' hSw; (try dsimp only at hSw); go_simp; (try with_reducible rfl)
              try simp only [Act.put, List.setIfInBounds_toArray, List.set_cons_zero, List.set_cons_succ]
              refine wpAnyH_take (i := 2) (oi := ⟨_, _, _, _, _, _⟩) (v := ?_) rfl (by kernel_rfl) (by kernel_rfl) (by kernel_rfl) (fun _ _ _ h => h) (Or.inl ⟨by rfl, ?_⟩) (by assumption) ?_
              rotate_left
              · intro w' hSw; (try dsimp only at hSw); go_simp; (try with_reducible rfl)
              try simp only [Act.put, List.setIfInBounds_toArray, List.set_cons_zero, List.set_cons_succ]
              refine wpAnyH_take (i := 3) (oi := ⟨_, _, _, _, _, _⟩) (v := ?_) rfl (by kernel_rfl) (by kernel_rfl) (by kernel_rfl) (fun _ _ _ h => h) (Or.inl ⟨by rfl, ?_⟩) (by assumption) ?_
              rotate_left
              · intro w' hSw; (try dsimp only at hSw); go_simp; (try with_reducible rfl)
              try simp only [Act.put, List.setIfInBounds_toArray, List.set_cons_zero, List.set_cons_succ]
              refine wpAnyH_take (i := 4) (oi := ⟨_, _, _, _, _, _⟩) (v := ?_) rfl (by kernel_rfl) (by kernel_rfl) (by kernel_rfl) (fun _ _ _ h => h) (Or.inl ⟨by rfl, ?_⟩) (by assumption) ?_
              rotate_left
              · intro w' hSw; (try dsimp only at hSw); go_simp; (try with_reducible rfl)
              try simp only [Act.put, List.setIfInBounds_toArray, List.set_cons_zero, List.set_cons_succ]
              refine wpAnyH_take (i := 5) (oi := ⟨_, _, _, _, _, _⟩) (v := ?_) rfl (by kernel_rfl) (by kernel_rfl) (by kernel_rfl) (fun _ _ _ h => h) (Or.inl ⟨by rfl, ?_⟩) (by assumption) ?_
              rotate_left
              · intro w' hSw; (try dsimp only at hSw); go_simp; (try with_reducible rfl)
              try simp only [Act.put, List.setIfInBounds_toArray, List.set_cons_zero, List.set_cons_succ]
              refine wpAnyH_take (i := 6) (oi := ⟨_, _, _, _, _, _⟩) (v := ?_) rfl (by kernel_rfl) (by kernel_rfl) (by kernel_rfl) (fun _ _ _ h => h) (Or.inl ⟨by rfl, ?_⟩) (by assumption) ?_
              rotate_left
              · intro w' hSw; (try dsimp only at hSw); go_simp; (try with_reducible rfl)
              try simp only [Act.put, List.setIfInBounds_toArray, List.set_cons_zero, List.set_cons_succ]
              refine wpAnyH_take (i := 7) (oi := ⟨_, _, _, _, _, _⟩) (v := ?_) rfl (by kernel_rfl) (by kernel_rfl) (by kernel_rfl) (fun _ _ _ h => h) (Or.inl ⟨by rfl, ?_⟩) (by assumption) ?_
              rotate_left
              · intro w' hSw; (try dsimp only at hSw); go_simp; (try with_reducible rfl)
              try simp only [Act.put, List.setIfInBounds_toArray, List.set_cons_zero, List.set_cons_succ]
              refine wpAnyH_take (i := 8) (oi := ⟨_, _, _, _, _, _⟩) (v := ?_) rfl (by kernel_rfl) (by kernel_rfl) (by kernel_rfl) (fun _ _ _ h => h) (Or.inl ⟨by rfl, ?_⟩) (by assumption) ?_
              rotate_left
              · intro w' hSw; (try dsimp only at hSw); go_simp; (try with_reducible rfl)
              try simp only [Act.put, List.setIfInBounds_toArray, List.set_cons_zero, List.set_cons_succ]
              refine wpAnyH_take (i := 9) (oi := ⟨_, _, _, _, _, _⟩) (v := ?_) rfl (by kernel_rfl) (by kernel_rfl) (by kernel_rfl) (fun _ _ _ h => h) (Or.inl ⟨by rfl, ?_⟩) (by assumption) ?_
              rotate_left
              · intro w' hSw; (try dsimp only at hSw); go_simp; (try with_reducible rfl)
              try simp only [Act.put, List.setIfInBounds_toArray, List.set_cons_zero, List.set_cons_succ]
              refine wpAnyH_take (i := 10) (oi := ⟨_, _, _, _, _, _⟩) (v := ?_) rfl (by kernel_rfl) (by kernel_rfl) (by kernel_rfl) (fun _ _ _ h => h) (Or.inl ⟨by rfl, ?_⟩) (by assumption) ?_
              rotate_left
              · intro w' hSw; (try dsimp only at hSw); go_simp; (try with_reducible rfl)
              try simp only [Act.put, List.setIfInBounds_toArray, List.set_cons_zero, List.set_cons_succ]
              refine wpAnyH_take (i := 11) (oi := ⟨_, _, _, _, _, _⟩) (v := ?_) rfl (by kernel_rfl) (by kernel_rfl) (by kernel_rfl) (fun _ _ _ h => h) (Or.inl ⟨by rfl, ?_⟩) (by assumption) ?_
              rotate_left
              · intro w' hSw; (try dsimp only at hSw); go_simp; (try with_reducible rfl)
              try simp only [Act.put, List.setIfInBounds_toArray, List.set_cons_zero, List.set_cons_succ]
              refine wpAnyH_take (i := 12) (oi := ⟨_, _, _, _, _, _⟩) (v := ?_) rfl (by kernel_rfl) (by kernel_rfl) (by kernel_rfl) (fun _ _ _ h => h) (Or.inl ⟨by rfl, ?_⟩) (by assumption) ?_
              rotate_left
              · intro w' hSw; (try dsimp only at hSw); go_simp; (try with_reducible rfl)
              try simp only [Act.put, List.setIfInBounds_toArray, List.set_cons_zero, List.set_cons_succ]
              refine wpAnyH_take (i := 13) (oi := ⟨_, _, _, _, _, _⟩) (v := ?_) rfl (by kernel_rfl) (by kernel_rfl) (by kernel_rfl) (fun _ _ _ h => h) (Or.inl ⟨by rfl, ?_⟩) (by assumption) ?_
              rotate_left
              · intro w' hSw; (try dsimp only at hSw); go_simp; (try with_reducible rfl)
              try simp only [Act.put, List.setIfInBounds_toArray, List.set_cons_zero, List.set_cons_succ]
              refine wpAnyH_take (i := 14) (oi := ⟨_, _, _, _, _, _⟩) (v := ?_) rfl (by kernel_rfl) (by kernel_rfl) (by kernel_rfl) (fun _ _ _ h => h) (Or.inl ⟨by rfl, ?_⟩) (by assumption) ?_
              rotate_left
              · intro w' hSw; (try dsimp only at hSw); go_simp; (try with_reducible rfl)
              try simp only [Act.put, List.setIfInBounds_toArray, List.set_cons_zero, List.set_cons_succ]
              refine wpAnyH_take (i := 15) (oi := ⟨_, _, _, _, _, _⟩) (v := ?_) rfl (by kernel_rfl) (by kernel_rfl) (by kernel_rfl) (fun _ _ _ h => h) (Or.inl ⟨by rfl, ?_⟩) (by assumption) ?_
              rotate_left
              · intro w' hSw; (try dsimp only at hSw); go_simp; (try with_reducible rfl)
              try simp only [Act.put, List.setIfInBounds_toArray, List.set_cons_zero, List.set_cons_succ]
              refine wpAnyH_take (i := 16) (oi := ⟨_, _, _, _, _, _⟩) (v := ?_) rfl (by kernel_rfl) (by kernel_rfl) (by kernel_rfl) (fun _ _ _ h => h) (Or.inl ⟨by rfl, ?_⟩) (by assumption) ?_
              rotate_left
              · intro w' hSw; (try dsimp only at hSw); go_simp; (try with_reducible rfl)
              try simp only [Act.put, List.setIfInBounds_toArray, List.set_cons_zero, List.set_cons_succ]
              refine wpAnyH_take (i := 17) (oi := ⟨_, _, _, _, _, _⟩) (v := ?_) rfl (by kernel_rfl) (by kernel_rfl) (by kernel_rfl) (fun _ _ _ h => h) (Or.inl ⟨by rfl, ?_⟩) (by assumption) ?_
              rotate_left
              · intro w' hSw; (try dsimp only at hSw); go_simp; (try with_reducible rfl)
              try simp only [Act.put, List.setIfInBounds_toArray, List.set_cons_zero, List.set_cons_succ]
              refine wpAnyH_take (i := 18) (oi := ⟨_, _, _, _, _, _⟩) (v := ?_) rfl (by kernel_rfl) (by kernel_rfl) (by kernel_rfl) (fun _ _ _ h => h) (Or.inl ⟨by rfl, ?_⟩) (by assumption) ?_
              rotate_left
              · intro w' hSw; (try dsimp only at hSw); go_simp; (try with_reducible rfl)
              try simp only [Act.put, List.setIfInBounds_toArray, List.set_cons_zero, List.set_cons_succ]
              refine wpAnyH_take (i := 19) (oi := ⟨_, _, _, _, _, _⟩) (v := ?_) rfl (by kernel_rfl) (by kernel_rfl) (by kernel_rfl) (fun _ _ _ h => h) (Or.inl ⟨by rfl, ?_⟩) (by assumption) ?_
              rotate_left
              · intro w' hSw; (try dsimp only at hSw); go_simp; (try with_reducible rfl)
              try simp only [Act.put, List.setIfInBounds_toArray, List.set_cons_zero, List.set_cons_succ]
              refine wpAnyH_take (i := 20) (oi := ⟨_, _, _, _, _, _⟩) (v := ?_) rfl (by kernel_rfl) (by kernel_rfl) (by kernel_rfl) (fun _ _ _ h => h) (Or.inl ⟨by rfl, ?_⟩) (by assumption) ?_
              rotate_left
              · intro w' hSw; (try dsimp only at hSw); go_simp; (try with_reducible rfl)
              try simp only [Act.put, List.setIfInBounds_toArray, List.set_cons_zero, List.set_cons_succ]
              refine wpAnyH_take (i := 21) (oi := ⟨_, _, _, _, _, _⟩) (v := ?_) rfl (by kernel_rfl) (by kernel_rfl) (by kernel_rfl) (fun _ _ _ h => h) (Or.inl ⟨by rfl, ?_⟩) (by assumption) ?_
              rotate_left
              · intro w' hSw; (try dsimp only at hSw); go_simp; (try with_reducible rfl)
              try simp only [Act.put, List.setIfInBounds_toArray, List.set_cons_zero, List.set_cons_succ]
              refine wpAnyH_take (i := 22) (oi := ⟨_, _, _, _, _, _⟩) (v := ?_) rfl (by kernel_rfl) (by kernel_rfl) (by kernel_rfl) (fun _ _ _ h => h) (Or.inl ⟨by rfl, ?_⟩) (by assumption) ?_
              rotate_left
              · intro w' hSw; (try dsimp only at hSw); go_simp; (try with_reducible rfl)
              try simp only [Act.put, List.setIfInBounds_toArray, List.set_cons_zero, List.set_cons_succ]
              refine wpAnyH_take (i := 23) (oi := ⟨_, _, _, _, _, _⟩) (v := ?_) rfl (by kernel_rfl) (by kernel_rfl) (by kernel_rfl) (fun _ _ _ h => h) (Or.inl ⟨by rfl, ?_⟩) (by assumption) ?_
              rotate_left
              · intro w' hSw; (try dsimp only at hSw); go_simp; (try with_reducible rfl)
              try simp only [Act.put, List.setIfInBounds_toArray, List.set_cons_zero, List.set_cons_succ]
              refine wpAnyH_take (i := 24) (oi := ⟨_, _, _, _, _, _⟩) (v := ?_) rfl (by kernel_rfl) (by kernel_rfl) (by kernel_rfl) (fun _ _ _ h => h) (Or.inl ⟨by rfl, ?_⟩) (by assumption) ?_
              rotate_left
              · intro w' hSw; (try dsimp only at hSw); go_simp; (try with_reducible rfl)
              try simp only [Act.put, List.setIfInBounds_toArray, List.set_cons_zero, List.set_cons_succ]
              refine wpAnyH_take (i := 25) (oi := ⟨_, _, _, _, _, _⟩) (v := ?_) rfl (by kernel_rfl) (by kernel_rfl) (by kernel_rfl) (fun _ _ _ h => h) (Or.inl ⟨by rfl, ?_⟩) (by assumption) ?_
              rotate_left
              · intro w' hSw; (try dsimp only at hSw); go_simp; (try with_reducible rfl)
              try simp only [Act.put, List.setIfInBounds_toArray, List.set_cons_zero, List.set_cons_succ]
              refine wpAnyH_done (by kernel_rfl) ?_ _
              clear hHeld
              go_wp2_with fail
              go_roundw
              case rel => exact ⟨k + 1, b2, by omega, by go_num, rfl, HN, P9⟩
              case measure => first | (simp [RowKit.intOf]; done) | (simp [RowKit.intOf]; omega)
        · obtain rfl : k = G.length := by omega
          have hb := HB.out
          rw [List.take_length] at hb
          cases b with
          | false =>
            have hno : ¬ (T[i].1 ∈ G ∨ T[i].2.1 ∈ G) := fun h => by
              rw [← ht1.out, ← ht2.out, ← anyG_iff, ← hb] at h
              cases h
            obtain ⟨ad', e', -, -, -, c2⟩ := ToksAt.at (HT.out _ HP.out.below) hlt
            obtain rfl := Option.some.inj e'
            have c1 : wr.cell? ⟨(ad.add (i * 3)).block, (ad.add (i * 3)).off + 1, none⟩ = some (.int .i64 t2) := by
              obtain ⟨ad', e', -, -, c1, -⟩ := ToksAt.at (HT.out _ HP.out.below) hlt
              obtain rfl := Option.some.inj e'
              rw [ht2.out]; exact c1
            obtain ⟨t3, ht3⟩ : ∃ t3, Hid (t3 = T[i].2.2) := ⟨_, Lib.hid rfl⟩
            rw [← ht3.out] at c2
            have D5 := Lib.hid ((Below.refl wr.heap.size wr).alloc (Nat.le_refl _) (.cells #[.int .i64 t1, .int .i64 t2, .int .i64 t3] 34))
            have P5 := Lib.hid (HP.out.below' D5.out)
            have N5 := Lib.hid (new_one (f := tokc) (m := 3) (N := fun _ => False) wr (t1, t2, t3) 34 (fun h => h))
            have hol : ((T.take i).filter fun t => decide (t.1 ∉ rem G0 T)).length ≤ 900 := Nat.le_trans (List.length_filter_le _ _) (by rw [List.length_take]; omega)
            have HX := Lib.hid (fun v' w' => P5.out.stays (v' := v') (w' := w') HW.out hlt hno)
            have S5 : Hid (W.heap.size ≤ (wr.alloc (.cells #[.int .i64 t1, .int .i64 t2, .int .i64 t3] 34)).heap.size) := Lib.hid P5.out.below.size
            have O5 := Lib.hid P5.out.own
            generalize hOO : ((T.take i).filter fun t => decide (t.1 ∉ rem G0 T)) = OO at *
            clear hno hb HB hOO
            go_wp2_with (at_builtin; (refine wpList_append_ownW (f := tokc) tokc_len tokc_flat (by decide) rfl (.tmp 51) (.tmp 56) 26 rfl W.heap.size 34 i0K zK 24 Try.underlying26 hiK hz0K hz1K hz2K rfl vo OO.length OO rfl O5.out (some ⟨wr.heap.size, 0, none⟩) 1 [(t1, t2, t3)] (fun h => by cases h) N5.out rfl (by unfold maxLen; simp; omega) (by simp; omega) S5.out ?_))
            intro v6 w6 ho6 hg6 hv6
            have e6 : (t1, t2, t3) = T[i] := by rw [ht1.out, ht2.out, ht3.out]
            have NX := Lib.hid (HX.out v6 w6 (by rw [← e6]; unfold OwnK; rw [List.length_append, List.flatMap_append, List.flatMap_singleton]; exact ho6) hg6 (hv6.imp id (fun h k hk => by have := h k hk; simp; omega)))
            clear ho6 hg6 hv6 HX O5 N5 e6 c0 c1 c2
            go_wp2_with fail
            go_roundw
            case rel => exact ⟨i + 1, v6, GA, gc, G, by omega, by go_num, rfl, rfl, NX⟩
            case measure => first | (simp [RowKit.intOf]; done) | (simp [RowKit.intOf]; omega)
          | true =>
            have HGO : Hid (T[i].1 ∈ G ∨ T[i].2.1 ∈ G) := Lib.hid (by
              rw [← ht1.out, ← ht2.out, ← anyG_iff, ← hb])
            have PD := Lib.hid (HP.out.below' ((Below.refl _ wr).drew))
            have HGN := Lib.hid HP.out.nil
            have RG := Lib.hid (PD.out.row.mono (M := fun _ => False) (fun _ h => h.elim))
            have E0 := Lib.hid (Below.refl wr.drew.heap.size wr.drew)
            have HS12 : Hid (∀ w', Below wr.drew.heap.size wr.drew w' → (fun w' : World => w'.cell? (ad.add (i * 3)) = some (.int .i64 t1)) w') := Lib.hid (fun w' h => (h.cell (p := ad.add (i * 3)) (World.block_lt_of_cell? _ _ c0)).trans c0)
            clear hb HB c0 c1
            go_wp2_with fail
            refine wp_region_held_drew (S := (fun w' : World => w'.cell? (ad.add (i * 3)) = some (.int .i64 t1))) (by kernel_rfl) (HS12.out _ E0.out) (fun hHeld => ?_)
            refine wpAnyH_take (i := 1) (oi := ⟨_, _, _, _, _, _⟩) (v := ?_) rfl (by kernel_rfl) (by kernel_rfl) (by kernel_rfl) (fun _ _ _ h => h) (Or.inl ⟨by rfl, ?_⟩) (by assumption) ?_
            rotate_left
            · intro w' hSw; (try dsimp only at hSw); go_simp; (try with_reducible rfl)
            try simp only [Act.put, List.setIfInBounds_toArray, List.set_cons_zero, List.set_cons_succ]
            refine wpAnyH_take (i := 3) (oi := ⟨_, _, _, _, _, _⟩) (v := ?_) rfl (by kernel_rfl) (by kernel_rfl) (by kernel_rfl) (fun _ _ _ h => h) (Or.inl ⟨by rfl, ?_⟩) (by assumption) ?_
            rotate_left
            · intro w' hSw; (try dsimp only at hSw); go_simp; (try with_reducible rfl)
            try simp only [Act.put, List.setIfInBounds_toArray, List.set_cons_zero, List.set_cons_succ]
            refine wpAnyH_take (i := 4) (oi := ⟨_, _, _, _, _, _⟩) (v := ?_) rfl (by kernel_rfl) (by kernel_rfl) (by kernel_rfl) (fun _ _ _ h => h) (Or.inl ⟨by rfl, ?_⟩) (by assumption) ?_
            rotate_left
            · intro w' hSw; (try dsimp only at hSw); go_simp; (try with_reducible rfl)
            try simp only [Act.put, List.setIfInBounds_toArray, List.set_cons_zero, List.set_cons_succ]
            refine wpAnyH_take (i := 5) (oi := ⟨_, _, _, _, _, _⟩) (v := ?_) rfl (by kernel_rfl) (by kernel_rfl) (by kernel_rfl) (fun _ _ _ h => h) (Or.inl ⟨by rfl, ?_⟩) (by assumption) ?_
            rotate_left
            · intro w' hSw; (try dsimp only at hSw); go_simp; (try with_reducible rfl)
            try simp only [Act.put, List.setIfInBounds_toArray, List.set_cons_zero, List.set_cons_succ]
            refine wpAnyH_take (i := 6) (oi := ⟨_, _, _, _, _, _⟩) (v := ?_) rfl (by kernel_rfl) (by kernel_rfl) (by kernel_rfl) (fun _ _ _ h => h) (Or.inl ⟨by rfl, ?_⟩) (by assumption) ?_
            rotate_left
            · intro w' hSw; (try dsimp only at hSw); go_simp; (try with_reducible rfl)
            try simp only [Act.put, List.setIfInBounds_toArray, List.set_cons_zero, List.set_cons_succ]
            refine wpAnyH_take (i := 7) (oi := ⟨_, _, _, _, _, _⟩) (v := ?_) rfl (by kernel_rfl) (by kernel_rfl) (by kernel_rfl) (fun _ _ _ h => h) (Or.inl ⟨by rfl, ?_⟩) (by assumption) ?_
            rotate_left
            · intro w' hSw; (try dsimp only at hSw); go_simp; (try with_reducible rfl)
            try simp only [Act.put, List.setIfInBounds_toArray, List.set_cons_zero, List.set_cons_succ]
            refine wpAnyH_ready (rs := [0, 8]) (by kernel_rfl) (by simp) ?_
            refine (AllReadyH.cons (o := ⟨_, _, _, _, _, _⟩) rfl (fun K9 hK9 => ?_) (AllReadyH.cons (o := ⟨_, _, _, _, _, _⟩) rfl (fun K9 hK9 => ?_) AllReadyH.nil))
            · refine step_build0 rfl 35 rfl 3 i0 1 _ Try.underlying35 hi (Nat.le_refl _) ?_
              intro va p1 ho hb
              have E1 := Lib.hid (E0.out.trans (hb.mono E0.out.size))
              have OA := Lib.hid (ho.mono E0.out.size)
              clear ho hb
              refine hK9.out _ _ (HS12.out _ E1.out) (fun hHeld => ?_)
              clear hK9 K9
              try simp only [Act.put, List.setIfInBounds_toArray, List.set_cons_zero, List.set_cons_succ]
              refine wpAnyH_ready (rs := [2, 8]) (by kernel_rfl) (by simp) ?_
              refine (AllReadyH.cons (o := ⟨_, _, _, _, _, _⟩) rfl (fun K9 hK9 => ?_) (AllReadyH.cons (o := ⟨_, _, _, _, _, _⟩) rfl (fun K9 hK9 => ?_) AllReadyH.nil))
              · refine step_append_ownN (f := intc) intc_len intc_flat (by decide) rfl (.tmp 58) (.tmp 59) 35 rfl wr.drew.heap.size 3 i0 zI 8 Try.underlying35 hi hz0 hz1 hz2 rfl va 0 [] rfl OA.out GA gc G G.length rfl HGN.out (RowsAt.below RG.out E1.out) rfl (by unfold maxLen; omega) (by omega) E1.out.size ?_
                intro v2 p2 ho hg _
                have E2 := Lib.hid (E1.out.grown hg E1.out.size (fun q hq => (OA.out.lt hq).1))
                have O2 : Hid (OwnW p2 wr.drew.heap.size 3 1 v2 G.length (G.flatMap intc)) := Lib.hid (by have h := ho; rw [Nat.zero_add, List.nil_append] at h; exact h)
                clear ho hg
                refine hK9.out _ _ (HS12.out _ E2.out) (fun hHeld => ?_)
                clear hK9 K9
                try simp only [Act.put, List.setIfInBounds_toArray, List.set_cons_zero, List.set_cons_succ]
                refine wpAnyH_ready (rs := [8]) (by kernel_rfl) (by simp) ?_
                refine AllReadyH.cons (o := ⟨_, _, _, _, _, _⟩) rfl (fun K9 hK9 => ?_) AllReadyH.nil
                refine step_build1 (f := intc) (m := 1) rfl 35 (.tmp 65) rfl 3 i0 zI Try.underlying35 hi hz0 hz1 (by decide) (by decide) t1 _ rfl (fillI t1) ?_
                intro gb p3 nb hb hg1 hg2
                have E3 := Lib.hid (E2.out.trans (hb.mono E2.out.size))
                have NB := Lib.hid nb
                have GB := Lib.hid hg2
                have O2 := Lib.hid (OwnW.below O2.out hb)
                clear nb hb hg1 hg2
                refine hK9.out _ _ (HS12.out _ E3.out) (fun hHeld => ?_)
                clear hK9 K9
                try simp only [Act.put, List.setIfInBounds_toArray, List.set_cons_zero, List.set_cons_succ]
                refine wpAnyH_ready (rs := [9]) (by kernel_rfl) (by simp) ?_
                refine AllReadyH.cons (o := ⟨_, _, _, _, _, _⟩) rfl (fun K9 hK9 => ?_) AllReadyH.nil
                refine step_append_ownN (f := intc) intc_len intc_flat (by decide) rfl (.tmp 60) (.tmp 66) 35 rfl wr.drew.heap.size 3 i0 zI 8 Try.underlying35 hi hz0 hz1 hz2 rfl v2 G.length G rfl O2.out (some ⟨gb, 0, none⟩) 1 [t1] 1 rfl (fun h => by cases h) (NB.out.mono (fun _ h => h.elim)) rfl (by unfold maxLen; omega) (by omega) E3.out.size ?_
                intro v9 w9 ho hg _
                have EZ := Lib.hid (E3.out.grown hg E3.out.size (fun q hq => (O2.out.lt hq).1))
                have OZ := Lib.hid ho
                clear ho hg
                refine hK9.out _ _ (HS12.out _ EZ.out) (fun hHeld => ?_)
                clear hK9 K9
                try simp only [Act.put, List.setIfInBounds_toArray, List.set_cons_zero, List.set_cons_succ]
                refine wpAnyH_take (i := 10) (oi := ⟨_, _, _, _, _, _⟩) (v := ?_) rfl (by kernel_rfl) (by kernel_rfl) (by kernel_rfl) (fun _ _ _ h => h) (Or.inl ⟨by rfl, ?_⟩) (by assumption) ?_
                rotate_left
                · intro w' hSw; (try dsimp only at hSw); go_simp; (try with_reducible rfl)
                try simp only [Act.put, List.setIfInBounds_toArray, List.set_cons_zero, List.set_cons_succ]
                refine wpAnyH_done (by kernel_rfl) ?_ _
                clear hHeld
                obtain ⟨GA', gc', rfl, hnx⟩ := PD.out.goes HW.out hlt HGO.out (show OwnI w9 wr.drew.heap.size v9 (G ++ [T[i].1]) by have h := OZ.out; rw [ht1.out] at h; unfold OwnI; rw [List.length_append]; exact h) EZ.out
                have NX := Lib.hid hnx
                clear hnx OZ EZ
                go_wp2_with fail
                go_roundw
                case rel => exact ⟨i + 1, vo, GA', gc', G ++ [T[i].1], by omega, by go_num, rfl, rfl, NX⟩
                case measure => first | (simp [RowKit.intOf]; done) | (simp [RowKit.intOf]; omega)
              · refine step_build1 (f := intc) (m := 1) rfl 35 (.tmp 65) rfl 3 i0 zI Try.underlying35 hi hz0 hz1 (by decide) (by decide) t1 _ rfl (fillI t1) ?_
                intro gb p5 nb hb hg1 hg2
                have E5 := Lib.hid (E1.out.trans (hb.mono E1.out.size))
                have NB := Lib.hid nb
                have GB := Lib.hid hg2
                have APN : Hid (∀ k, va.ownBlock = some k → k ≠ gb) := Lib.hid (fun k hk e => by have h1 := (OA.out.lt hk).2; omega)
                have OA := Lib.hid (OwnW.below OA.out hb)
                clear nb hb hg1 hg2
                refine hK9.out _ _ (HS12.out _ E5.out) (fun hHeld => ?_)
                clear hK9 K9
                try simp only [Act.put, List.setIfInBounds_toArray, List.set_cons_zero, List.set_cons_succ]
                refine wpAnyH_ready (rs := [2]) (by kernel_rfl) (by simp) ?_
                refine AllReadyH.cons (o := ⟨_, _, _, _, _, _⟩) rfl (fun K9 hK9 => ?_) AllReadyH.nil
                refine step_append_ownN (f := intc) intc_len intc_flat (by decide) rfl (.tmp 58) (.tmp 59) 35 rfl wr.drew.heap.size 3 i0 zI 8 Try.underlying35 hi hz0 hz1 hz2 rfl va 0 [] rfl OA.out GA gc G G.length rfl HGN.out (RowsAt.below RG.out E5.out) rfl (by unfold maxLen; omega) (by omega) E5.out.size ?_
                intro v2 p6 ho hg _
                have E6 := Lib.hid (E5.out.grown hg E5.out.size (fun q hq => (OA.out.lt hq).1))
                have O2 : Hid (OwnW p6 wr.drew.heap.size 3 1 v2 G.length (G.flatMap intc)) := Lib.hid (by have h := ho; rw [Nat.zero_add, List.nil_append] at h; exact h)
                have NB := Lib.hid (RowsAt.keep (F := fun k => va.ownBlock = some k) NB.out ((Keep.refl _ _).grown hg (fun q hq => .inl hq)) (fun k hk => APN.out k hk))
                clear ho hg
                refine hK9.out _ _ (HS12.out _ E6.out) (fun hHeld => ?_)
                clear hK9 K9
                try simp only [Act.put, List.setIfInBounds_toArray, List.set_cons_zero, List.set_cons_succ]
                refine wpAnyH_ready (rs := [9]) (by kernel_rfl) (by simp) ?_
                refine AllReadyH.cons (o := ⟨_, _, _, _, _, _⟩) rfl (fun K9 hK9 => ?_) AllReadyH.nil
                refine step_append_ownN (f := intc) intc_len intc_flat (by decide) rfl (.tmp 60) (.tmp 66) 35 rfl wr.drew.heap.size 3 i0 zI 8 Try.underlying35 hi hz0 hz1 hz2 rfl v2 G.length G rfl O2.out (some ⟨gb, 0, none⟩) 1 [t1] 1 rfl (fun h => by cases h) (NB.out.mono (fun _ h => h.elim)) rfl (by unfold maxLen; omega) (by omega) E6.out.size ?_
                intro v9 w9 ho hg _
                have EZ := Lib.hid (E6.out.grown hg E6.out.size (fun q hq => (O2.out.lt hq).1))
                have OZ := Lib.hid ho
                clear ho hg
                refine hK9.out _ _ (HS12.out _ EZ.out) (fun hHeld => ?_)
                clear hK9 K9
                try simp only [Act.put, List.setIfInBounds_toArray, List.set_cons_zero, List.set_cons_succ]
                refine wpAnyH_take (i := 10) (oi := ⟨_, _, _, _, _, _⟩) (v := ?_) rfl (by kernel_rfl) (by kernel_rfl) (by kernel_rfl) (fun _ _ _ h => h) (Or.inl ⟨by rfl, ?_⟩) (by assumption) ?_
                rotate_left
                · intro w' hSw; (try dsimp only at hSw); go_simp; (try with_reducible rfl)
                try simp only [Act.put, List.setIfInBounds_toArray, List.set_cons_zero, List.set_cons_succ]
                refine wpAnyH_done (by kernel_rfl) ?_ _
                clear hHeld
                obtain ⟨GA', gc', rfl, hnx⟩ := PD.out.goes HW.out hlt HGO.out (show OwnI w9 wr.drew.heap.size v9 (G ++ [T[i].1]) by have h := OZ.out; rw [ht1.out] at h; unfold OwnI; rw [List.length_append]; exact h) EZ.out
                have NX := Lib.hid hnx
                clear hnx OZ EZ
                go_wp2_with fail
                go_roundw
                case rel => exact ⟨i + 1, vo, GA', gc', G ++ [T[i].1], by omega, by go_num, rfl, rfl, NX⟩
                case measure => first | (simp [RowKit.intOf]; done) | (simp [RowKit.intOf]; omega)
            · refine step_build1 (f := intc) (m := 1) rfl 35 (.tmp 65) rfl 3 i0 zI Try.underlying35 hi hz0 hz1 (by decide) (by decide) t1 _ rfl (fillI t1) ?_
              intro gb p8 nb hb hg1 hg2
              have E8 := Lib.hid (E0.out.trans (hb.mono E0.out.size))
              have NB := Lib.hid nb
              have GB := Lib.hid hg2
              clear nb hb hg1 hg2
              refine hK9.out _ _ (HS12.out _ E8.out) (fun hHeld => ?_)
              clear hK9 K9
              try simp only [Act.put, List.setIfInBounds_toArray, List.set_cons_zero, List.set_cons_succ]
              refine wpAnyH_ready (rs := [0]) (by kernel_rfl) (by simp) ?_
              refine AllReadyH.cons (o := ⟨_, _, _, _, _, _⟩) rfl (fun K9 hK9 => ?_) AllReadyH.nil
              refine step_build0 rfl 35 rfl 3 i0 1 _ Try.underlying35 hi (Nat.le_refl _) ?_
              intro va p9 ho hb
              have E9 := Lib.hid (E8.out.trans (hb.mono E8.out.size))
              have OA := Lib.hid (ho.mono E8.out.size)
              have APN : Hid (∀ k, va.ownBlock = some k → k ≠ gb) := Lib.hid (fun k hk e => by have h1 := (OwnW.lt ho hk).1; have h2 := GB.out; omega)
              have NB := Lib.hid (RowsAt.below NB.out hb)
              clear ho hb
              refine hK9.out _ _ (HS12.out _ E9.out) (fun hHeld => ?_)
              clear hK9 K9
              try simp only [Act.put, List.setIfInBounds_toArray, List.set_cons_zero, List.set_cons_succ]
              refine wpAnyH_ready (rs := [2]) (by kernel_rfl) (by simp) ?_
              refine AllReadyH.cons (o := ⟨_, _, _, _, _, _⟩) rfl (fun K9 hK9 => ?_) AllReadyH.nil
              refine step_append_ownN (f := intc) intc_len intc_flat (by decide) rfl (.tmp 58) (.tmp 59) 35 rfl wr.drew.heap.size 3 i0 zI 8 Try.underlying35 hi hz0 hz1 hz2 rfl va 0 [] rfl OA.out GA gc G G.length rfl HGN.out (RowsAt.below RG.out E9.out) rfl (by unfold maxLen; omega) (by omega) E9.out.size ?_
              intro v2 p10 ho hg _
              have E10 := Lib.hid (E9.out.grown hg E9.out.size (fun q hq => (OA.out.lt hq).1))
              have O2 : Hid (OwnW p10 wr.drew.heap.size 3 1 v2 G.length (G.flatMap intc)) := Lib.hid (by have h := ho; rw [Nat.zero_add, List.nil_append] at h; exact h)
              have NB := Lib.hid (RowsAt.keep (F := fun k => va.ownBlock = some k) NB.out ((Keep.refl _ _).grown hg (fun q hq => .inl hq)) (fun k hk => APN.out k hk))
              clear ho hg
              refine hK9.out _ _ (HS12.out _ E10.out) (fun hHeld => ?_)
              clear hK9 K9
              try simp only [Act.put, List.setIfInBounds_toArray, List.set_cons_zero, List.set_cons_succ]
              refine wpAnyH_ready (rs := [9]) (by kernel_rfl) (by simp) ?_
              refine AllReadyH.cons (o := ⟨_, _, _, _, _, _⟩) rfl (fun K9 hK9 => ?_) AllReadyH.nil
              refine step_append_ownN (f := intc) intc_len intc_flat (by decide) rfl (.tmp 60) (.tmp 66) 35 rfl wr.drew.heap.size 3 i0 zI 8 Try.underlying35 hi hz0 hz1 hz2 rfl v2 G.length G rfl O2.out (some ⟨gb, 0, none⟩) 1 [t1] 1 rfl (fun h => by cases h) (NB.out.mono (fun _ h => h.elim)) rfl (by unfold maxLen; omega) (by omega) E10.out.size ?_
              intro v9 w9 ho hg _
              have EZ := Lib.hid (E10.out.grown hg E10.out.size (fun q hq => (O2.out.lt hq).1))
              have OZ := Lib.hid ho
              clear ho hg
              refine hK9.out _ _ (HS12.out _ EZ.out) (fun hHeld => ?_)
              clear hK9 K9
              try simp only [Act.put, List.setIfInBounds_toArray, List.set_cons_zero, List.set_cons_succ]
              refine wpAnyH_take (i := 10) (oi := ⟨_, _, _, _, _, _⟩) (v := ?_) rfl (by kernel_rfl) (by kernel_rfl) (by kernel_rfl) (fun _ _ _ h => h) (Or.inl ⟨by rfl, ?_⟩) (by assumption) ?_
              rotate_left
              · intro w' hSw; (try dsimp only at hSw); go_simp; (try with_reducible rfl)
              try simp only [Act.put, List.setIfInBounds_toArray, List.set_cons_zero, List.set_cons_succ]
              refine wpAnyH_done (by kernel_rfl) ?_ _
              clear hHeld
              obtain ⟨GA', gc', rfl, hnx⟩ := PD.out.goes HW.out hlt HGO.out (show OwnI w9 wr.drew.heap.size v9 (G ++ [T[i].1]) by have h := OZ.out; rw [ht1.out] at h; unfold OwnI; rw [List.length_append]; exact h) EZ.out
              have NX := Lib.hid hnx
              clear hnx OZ EZ
              go_wp2_with fail
              go_roundw
              case rel => exact ⟨i + 1, vo, GA', gc', G ++ [T[i].1], by omega, by go_num, rfl, rfl, NX⟩
              case measure => first | (simp [RowKit.intOf]; done) | (simp [RowKit.intOf]; omega)
    · obtain rfl : i = T.length := by omega
      have HO := Lib.hid (show OwnK wr W.heap.size vo (stay T G0) by
        have := HP.out.own
        rwa [List.take_length] at this)
      have HB := Lib.hid HP.out.below
      clear hlt hGl HP
      go_wp2_with fail
      obtain ⟨wo, hwo⟩ : ∃ wo : World, Hid (wo = wr) := ⟨_, Lib.hid rfl⟩
      rw [← hwo.out] at HO HB ⊢
      clear hwo
      obtain ⟨KB, kd, ev, -, -, -, -⟩ := OwnW.rows (N := fun _ => False) tokc_len (by decide) HO.out (fun _ _ h => h)
      subst ev
      have hKl : (stay T G0).length ≤ 1000000 := Nat.le_trans (List.length_filter_le _ _) (by omega)
      have J0 : Hid (OwnI wo W.heap.size (.slice none 0 0) (((T.take 0).filter fun t => decide (t.1 ∈ rem G0 T)).map (·.1))) := Lib.hid (OwnW.nil _ _ _ _)
      go_loopw [10, 11] (fun v iv wr => ∃ (i : Nat) (vj : Value), i ≤ T.length ∧ iv = .int .i64 i ∧ vj = v ∧ Hid (OwnI wr W.heap.size vj (((T.take i).filter fun t => decide (t.1 ∈ rem G0 T)).map (·.1))) ∧ Hid (OwnK wr W.heap.size (.slice KB (stay T G0).length kd) (stay T G0)) ∧ Hid (Below W.heap.size W wr)) (fun _ iv _ => T.length - (RowKit.intOf iv).toNat)
      case atStart => exact ⟨0, _, by omega, rfl, rfl, J0, HO, HB⟩
      case round =>
        obtain ⟨i, vj, hin, rfl, rfl, HJ, HO, HB⟩ := hrel
        clear J0
        by_cases hli : i < T.length
        · have hiI : (i : Int) < (T.length : Int) := by omega
          obtain ⟨KB', kd', ev, hrK, _, _, _⟩ := OwnW.rows (N := fun _ => False) tokc_len (by decide) HO.out (fun _ _ h => h)
          injection ev with ev1 _ ev2
          subst ev1 ev2
          obtain ⟨ad, rfl, -, c0, -, -⟩ := ToksAt.at (HT.out _ HB.out) hli
          have HC := Lib.hid (at_c KB kd (stay T G0) T[i].1 wr hrK hKl)
          have HY : Hid (T[i].1 ∈ rem G0 T → ((T.take (i + 1)).filter fun t => decide (t.1 ∈ rem G0 T)).map (·.1) = ((T.take i).filter fun t => decide (t.1 ∈ rem G0 T)).map (·.1) ++ [T[i].1]) := Lib.hid (fun h => by
            rw [List.take_succ_eq_append_getElem hli, List.filter_append, List.filter_cons_of_pos (by simpa using h), List.map_append]; rfl)
          have HN : Hid (¬ T[i].1 ∈ rem G0 T → ((T.take (i + 1)).filter fun t => decide (t.1 ∈ rem G0 T)).map (·.1) = ((T.take i).filter fun t => decide (t.1 ∈ rem G0 T)).map (·.1)) := Lib.hid (fun h => by
            rw [List.take_succ_eq_append_getElem hli, List.filter_append, List.filter_cons_of_neg (by simpa using h)]; simp)
          have HQ : Hid ((∀ u ∈ stay T G0, u.1 ≠ T[i].1) → T[i].1 ∈ rem G0 T) := Lib.hid (fun h => by
            refine Classical.byContradiction (fun hn => ?_)
            exact h T[i] (List.mem_filter.2 ⟨List.getElem_mem hli, by simpa using hn⟩) rfl)
          have HQ2 : Hid (∀ j (h : j < (stay T G0).length), (stay T G0)[j].1 = T[i].1 → ¬ T[i].1 ∈ rem G0 T) := Lib.hid (fun j h e hr => by
            have h1 := (List.mem_filter.1 (List.getElem_mem h : (stay T G0)[j] ∈ stay T G0)).2
            rw [e] at h1
            exact of_decide_eq_true h1 hr)
          have hjl : (((T.take i).filter fun t => decide (t.1 ∈ rem G0 T)).map (·.1)).length ≤ 900 := by
            rw [List.length_map]
            exact Nat.le_trans (List.length_filter_le _ _) (by rw [List.length_take]; omega)
          clear hrK
          obtain ⟨J, hJ⟩ : ∃ J, Hid (J = ((T.take i).filter fun t => decide (t.1 ∈ rem G0 T)).map (·.1)) := ⟨_, Lib.hid rfl⟩
          rw [← hJ.out] at HY HN hjl HJ
          obtain ⟨t1, ht1⟩ : ∃ t1, Hid (t1 = T[i].1) := ⟨_, Lib.hid rfl⟩
          rw [← ht1.out] at c0 HC HY HN HQ HQ2
          go_wp2_with fail
          refine HC.out.mono ?_
          rintro e w5 ⟨a, rfl, hat, rfl⟩
          rcases hat with ⟨rfl, hn⟩ | ⟨j, hj, rfl, ej⟩
          · have NJ := Lib.hid (HY.out (HQ.out hn))
            have D5 := Lib.hid ((Below.refl wr.heap.size wr).alloc (Nat.le_refl _) (.cells #[.int .i64 t1] 3))
            have O5 := Lib.hid (HJ.out.below D5.out)
            have OK5 := Lib.hid (HO.out.below D5.out)
            have N5 := Lib.hid (append_new (W := wr) (x := t1))
            have B5 := Lib.hid (HB.out.trans (D5.out.mono HB.out.size))
            clear hn HQ HQ2 HY HN HC
            go_wp2_with (at_builtin; (refine wpList_append_ownW (f := intc) intc_len intc_flat (by decide) rfl (.tmp 82) (.tmp 88) 35 rfl W.heap.size 3 i0 zI 8 Try.underlying35 hi hz0 hz1 hz2 rfl vj J.length J rfl O5.out (some ⟨wr.heap.size, 0, none⟩) 1 [t1] (fun h => by cases h) N5.out rfl (by unfold maxLen; simp; omega) (by simp; omega) B5.out.size ?_))
            intro v6 w6 ho6 hg6 _
            have O6 := Lib.hid (show OwnI w6 W.heap.size v6 (J ++ [t1]) by unfold OwnI; rw [List.length_append, List.flatMap_append, List.flatMap_singleton]; exact ho6)
            have OK6 := Lib.hid (OwnW.keep OK5.out ((Keep.refl (fun k => vj.ownBlock = some k) _).grown hg6 (fun q hq => .inl hq)) (fun k hk hk2 => own_apart OK5.out O5.out (by decide) k hk hk2))
            have B6 := Lib.hid (B5.out.grown hg6 B5.out.size (fun q hq => (O5.out.lt hq).1))
            rw [← NJ.out] at O6
            clear NJ
            clear ho6 hg6 N5 O5 D5 c0
            go_wp2_with fail
            go_roundw
            case rel => exact ⟨i + 1, v6, by omega, by go_num, rfl, O6, OK6, B6⟩
            case measure => first | (simp [RowKit.intOf]; done) | (simp [RowKit.intOf]; omega)
          · have hjI : ¬ ((j : Int) < 0) := by omega
            have NJ := HN.out (HQ2.out j hj ej)
            rw [← NJ] at HJ
            clear NJ HQ HQ2 HY HN HC ej
            go_wp2_with fail
            go_roundw
            case rel => exact ⟨i + 1, vj, by omega, by go_num, rfl, HJ, HO, HB⟩
            case measure => first | (simp [RowKit.intOf]; done) | (simp [RowKit.intOf]; omega)
        · obtain rfl : i = T.length := by omega
          have HE := Lib.hid (show CutL T G0 W (.returned (.tuple #[.slice KB (stay T G0).length kd, vj])) wr from ⟨_, _, rfl, HO.out, by
            have := HJ.out
            rwa [List.take_length] at this, HB.out⟩)
          clear HJ HO HB
          go_wp2_with fail
          go_ret2
          exact HE.out
end Go.Proofs.Ytonflknnlfffhaa
