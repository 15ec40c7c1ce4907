/- The law's numbers, rising. -/
import Derived.Test.YtonflknnlfffhaaUt
namespace Go.Proofs.Ytonflknnlfffhaa
open Go.RowKit Go.Lib KP MR RW
structure RisI (l : List Int) (k : Nat) (W : World) (v : Value) (r : List Int) (w' : World) : Prop where
  own : OwnI w' W.heap.size v r
  perm : r.Perm (l.take k)
  sort : r.Pairwise (· ≤ ·)
  below : Below W.heap.size W w'
def RisR (l : List Int) (W : World) (e : Ending) (w' : World) : Prop := ∃ v r, e = .returned v ∧ RisI l l.length W v r w'
theorem ris_step {l : List Int} {k : Nat} (h : k < l.length) {t u : List Int} (hp : (t ++ u).Perm (l.take k)) (hs : (t ++ u).Pairwise (· ≤ ·)) (ht : ∀ y, t.getLast? = some y → y ≤ l[k]) (hu : ∀ y ∈ u, l[k] < y) : (t ++ [l[k]] ++ u).Perm (l.take (k + 1)) ∧ (t ++ [l[k]] ++ u).Pairwise (· ≤ ·) := by
  constructor
  · rw [List.take_succ_eq_append_getElem h, List.append_assoc]
    refine (List.perm_middle (l₁ := t) (l₂ := u) (a := l[k])).trans ?_
    exact ((List.Perm.cons _ hp).trans (List.perm_append_singleton _ _).symm)
  · rw [List.pairwise_append] at hs
    obtain ⟨s1, s2, s3⟩ := hs
    have ht2 : ∀ y ∈ t, y ≤ l[k] := fun y hy => by
      rcases List.eq_nil_or_concat t with rfl | ⟨t', z, rfl⟩
      · cases hy
      · have hz := ht z (by simp)
        simp only [List.concat_eq_append] at *
        rcases List.mem_append.1 hy with h1 | h1
        · have := (List.pairwise_append.1 s1).2.2 y h1 z (by simp)
          omega
        · rw [List.mem_singleton.1 h1]; exact hz
    rw [List.append_assoc, List.pairwise_append]
    refine ⟨s1, ?_, fun a ha b hb => ?_⟩
    · rw [List.singleton_append, List.pairwise_cons]
      exact ⟨fun b hb => Int.le_of_lt (hu b hb), s2⟩
    · rw [List.singleton_append, List.mem_cons] at hb
      rcases hb with rfl | hb
      · exact ht2 a ha
      · exact s3 a ha b hb
theorem rows_take {α : Type} {f : α → List Value} {m : Nat} {N : Nat → Prop} {W : World} {A : Option Addr} {l : List α} (h : RowsAt f m N W A l) (k : Nat) : RowsAt f m N W A (l.take k) := by
  intro j hj
  have hj2 : j < l.length := by rw [List.length_take] at hj; omega
  rw [List.getElem_take]
  exact h j hj2
theorem cell_kept {W W' : World} {p : Addr} {v : Value} (h : W.cell? p = some v) (hb : Below W.heap.size W W') : W'.cell? p = some v := (hb.cell (World.block_lt_of_cell? _ _ h)).trans h
set_option maxRecDepth 100000 in
set_option maxHeartbeats 8000000 in
theorem rising_c (A : Option Addr) (c : Nat) (l : List Int) (W : World) (hI : IntsAt (fun _ => False) W A l) (hl : l.length ≤ 1000) : Calls Try.prog 32 #[.slice A l.length c] W (RisR l W) := by
  obtain ⟨i0, hi, hz0, hz1, hz2⟩ := info_parts infoI
  have HI := Lib.hid (fun w' (h : Below W.heap.size W w') => RowsAt.below hI h)
  have hlI : (l.length : Int) ≤ 1000 := by omega
  have I0 : Hid (RisI l 0 W (.slice none 0 0) [] W) := Lib.hid ⟨OwnW.nil _ _ _ _, List.Perm.refl _, List.Pairwise.nil, Below.refl _ _⟩
  clear hI
  go_enter Try.func32, Try.ntmps32
  go_wp2_with fail
  go_loopw [3, 4] (fun v n wr => ∃ (i : Nat) (vo : Value) (r : List Int), i ≤ l.length ∧ n = .int .i64 i ∧ vo = v ∧ r.length ≤ 1000 ∧ Hid (RisI l i W vo r wr)) (fun _ n _ => l.length - (RowKit.intOf n).toNat)
  case atStart => exact ⟨0, _, [], by omega, rfl, rfl, by simp, I0⟩
  case round =>
    obtain ⟨i, vo, r, hil, rfl, rfl, hrl, hI⟩ := hrel
    clear I0
    obtain ⟨RA, rc, rfl, -, -, hrc, hRA⟩ := OwnW.rows (N := fun _ => False) intc_len (by decide) hI.out.own (fun _ _ h => h)
    have HRA := Lib.hid hRA
    by_cases hlt : i < l.length
    · have hiI : (i : Int) < (l.length : Int) := by omega
      have hrcI : (r.length : Int) ≤ (rc : Int) := by omega
      have hrI : (r.length : Int) ≤ 1000 := by omega
      obtain ⟨xd, rfl, -, c0⟩ := IntsAt.at (HI.out _ hI.out.below) hlt
      obtain ⟨wo, rfl⟩ : ∃ wo : World, wo = wr := ⟨_, rfl⟩
      have J0 : Hid (∀ j (h : j < r.length), r.length ≤ j → l[i] < r[j]) := Lib.hid (fun j h1 h2 => by omega)
      have HX : Hid (∀ w', Below wo.heap.size wo w' → (fun w' : World => w'.cell? (xd.add i) = some (.int .i64 l[i])) w') := Lib.hid (fun w' hb => cell_kept c0 hb)
      have HR : Hid (∀ w', Below wo.heap.size wo w' → IntsAt (fun _ => False) w' RA r) := Lib.hid (fun w' hb => by
        obtain ⟨A', c', e', hr, _, _, _⟩ := OwnW.rows (N := fun _ => False) intc_len (by decide) (hI.out.own.below hb) (fun _ _ h => h)
        injection e' with e1 _ _
        rw [e1]; exact hr)
      have B0 := Lib.hid (Below.refl wo.heap.size wo)
      have HST : Hid (∀ t u : List Int, r = t ++ u → (∀ y, t.getLast? = some y → y ≤ l[i]) → (∀ y ∈ u, l[i] < y) → (t ++ [l[i]] ++ u).Perm (l.take (i + 1)) ∧ (t ++ [l[i]] ++ u).Pairwise (· ≤ ·)) := Lib.hid (fun t u e h1 h2 => ris_step hlt (by rw [← e]; exact hI.out.perm) (by rw [← e]; exact hI.out.sort) h1 h2)
      generalize l[i] = x at *
      clear c0 hRA hrc
      go_wp2_with fail
      go_loopw [5] (fun n wr => ∃ k : Nat, k ≤ r.length ∧ n = .int .i64 k ∧ Hid (∀ j (h : j < r.length), k ≤ j → x < r[j]) ∧ Hid (Below wo.heap.size wo wr)) (fun n _ => (RowKit.intOf n).toNat)
      case atStart => exact ⟨r.length, Nat.le_refl _, rfl, J0, B0⟩
      case round =>
        obtain ⟨k, hk, rfl, hJ, hB⟩ := hrel
        clear J0 B0
        rcases Nat.eq_zero_or_pos k with rfl | hk0
        · have HSX : Hid ((fun w' : World => w'.cell? (xd.add i) = some (.int .i64 x)) wr.drew) := Lib.hid (HX.out _ hB.out.drew)
          have HTU : Hid (r = [] ++ r) := Lib.hid rfl
          have HT := Lib.hid (HST.out [] r rfl (fun y h => by cases h) (fun y hy => by
            obtain ⟨j, hj, rfl⟩ := List.getElem_of_mem hy
            exact hJ.out j hj (Nat.zero_le _)))
          clear hJ HST
          go_wp2_with fail
          refine wp_region_held_drew (S := (fun w' : World => w'.cell? (xd.add i) = some (.int .i64 x))) (by kernel_rfl) HSX.out (fun hHeld => ?_)
          refine wpAnyH_take (i := 0) (oi := ⟨_, _, _, _, _, _⟩) (v := ?_) rfl (by kernel_rfl) (by kernel_rfl) (by kernel_rfl) (fun _ _ _ h => h) (Or.inl ⟨by rfl, ?_⟩) (by assumption) ?_
          rotate_left
          · intro w' hSw; (try dsimp only at hSw); go_simp; (try with_reducible rfl)
          try simp only [Act.put, List.setIfInBounds_toArray, List.set_cons_zero, List.set_cons_succ]
          refine wpAnyH_take (i := 1) (oi := ⟨_, _, _, _, _, _⟩) (v := ?_) rfl (by kernel_rfl) (by kernel_rfl) (by kernel_rfl) (fun _ _ _ h => h) (Or.inl ⟨by rfl, ?_⟩) (by assumption) ?_
          rotate_left
          · intro w' hSw; (try dsimp only at hSw); go_simp; (try with_reducible rfl)
          try simp only [Act.put, List.setIfInBounds_toArray, List.set_cons_zero, List.set_cons_succ]
          refine wpAnyH_take (i := 2) (oi := ⟨_, _, _, _, _, _⟩) (v := ?_) rfl (by kernel_rfl) (by kernel_rfl) (by kernel_rfl) (fun _ _ _ h => h) (Or.inl ⟨by rfl, ?_⟩) (by assumption) ?_
          rotate_left
          · intro w' hSw; (try dsimp only at hSw); go_simp; (try with_reducible rfl)
          try simp only [Act.put, List.setIfInBounds_toArray, List.set_cons_zero, List.set_cons_succ]
          refine wpAnyH_take (i := 3) (oi := ⟨_, _, _, _, _, _⟩) (v := undef) rfl (by kernel_rfl) (by kernel_rfl) (by kernel_rfl) (fun _ _ _ h => h) (Or.inr ⟨by rfl, rfl⟩) (by assumption) ?_
          try simp only [Act.put, List.setIfInBounds_toArray, List.set_cons_zero, List.set_cons_succ]
          refine wpAnyH_take (i := 4) (oi := ⟨_, _, _, _, _, _⟩) (v := undef) rfl (by kernel_rfl) (by kernel_rfl) (by kernel_rfl) (fun _ _ _ h => h) (Or.inr ⟨by rfl, rfl⟩) (by assumption) ?_
          try simp only [Act.put, List.setIfInBounds_toArray, List.set_cons_zero, List.set_cons_succ]
          refine wpAnyH_take (i := 5) (oi := ⟨_, _, _, _, _, _⟩) (v := undef) rfl (by kernel_rfl) (by kernel_rfl) (by kernel_rfl) (fun _ _ _ h => h) (Or.inr ⟨by rfl, rfl⟩) (by assumption) ?_
          try simp only [Act.put, List.setIfInBounds_toArray, List.set_cons_zero, List.set_cons_succ]
          refine wpAnyH_take (i := 6) (oi := ⟨_, _, _, _, _, _⟩) (v := undef) rfl (by kernel_rfl) (by kernel_rfl) (by kernel_rfl) (fun _ _ _ h => h) (Or.inr ⟨by rfl, rfl⟩) (by assumption) ?_
          try simp only [Act.put, List.setIfInBounds_toArray, List.set_cons_zero, List.set_cons_succ]
          refine wpAnyH_take (i := 7) (oi := ⟨_, _, _, _, _, _⟩) (v := undef) rfl (by kernel_rfl) (by kernel_rfl) (by kernel_rfl) (fun _ _ _ h => h) (Or.inr ⟨by rfl, rfl⟩) (by assumption) ?_
          try simp only [Act.put, List.setIfInBounds_toArray, List.set_cons_zero, List.set_cons_succ]
          refine wpAnyH_take (i := 8) (oi := ⟨_, _, _, _, _, _⟩) (v := undef) rfl (by kernel_rfl) (by kernel_rfl) (by kernel_rfl) (fun _ _ _ h => h) (Or.inr ⟨by rfl, rfl⟩) (by assumption) ?_
          try simp only [Act.put, List.setIfInBounds_toArray, List.set_cons_zero, List.set_cons_succ]
          refine wpAnyH_take (i := 9) (oi := ⟨_, _, _, _, _, _⟩) (v := undef) rfl (by kernel_rfl) (by kernel_rfl) (by kernel_rfl) (fun _ _ _ h => h) (Or.inr ⟨by rfl, rfl⟩) (by assumption) ?_
          try simp only [Act.put, List.setIfInBounds_toArray, List.set_cons_zero, List.set_cons_succ]
          refine wpAnyH_take (i := 10) (oi := ⟨_, _, _, _, _, _⟩) (v := undef) rfl (by kernel_rfl) (by kernel_rfl) (by kernel_rfl) (fun _ _ _ h => h) (Or.inr ⟨by rfl, rfl⟩) (by assumption) ?_
          try simp only [Act.put, List.setIfInBounds_toArray, List.set_cons_zero, List.set_cons_succ]
          refine wpAnyH_take (i := 11) (oi := ⟨_, _, _, _, _, _⟩) (v := undef) rfl (by kernel_rfl) (by kernel_rfl) (by kernel_rfl) (fun _ _ _ h => h) (Or.inr ⟨by rfl, rfl⟩) (by assumption) ?_
          try simp only [Act.put, List.setIfInBounds_toArray, List.set_cons_zero, List.set_cons_succ]
          refine wpAnyH_take (i := 12) (oi := ⟨_, _, _, _, _, _⟩) (v := undef) rfl (by kernel_rfl) (by kernel_rfl) (by kernel_rfl) (fun _ _ _ h => h) (Or.inr ⟨by rfl, rfl⟩) (by assumption) ?_
          try simp only [Act.put, List.setIfInBounds_toArray, List.set_cons_zero, List.set_cons_succ]
          refine wpAnyH_take (i := 13) (oi := ⟨_, _, _, _, _, _⟩) (v := ?_) rfl (by kernel_rfl) (by kernel_rfl) (by kernel_rfl) (fun _ _ _ h => h) (Or.inl ⟨by rfl, ?_⟩) (by assumption) ?_
          rotate_left
          · intro w' hSw; (try dsimp only at hSw); go_simp; (try with_reducible rfl)
          try simp only [Act.put, List.setIfInBounds_toArray, List.set_cons_zero, List.set_cons_succ]
          refine wpAnyH_done (by kernel_rfl) ?_ _
          clear hHeld
          obtain ⟨t, Ht⟩ : ∃ t, Hid (t = r.take 0) := ⟨_, Lib.hid rfl⟩
          obtain ⟨u, Hu⟩ : ∃ u, Hid (u = r.drop 0) := ⟨_, Lib.hid rfl⟩
          have htl : Hid (t.length = 0) := Lib.hid (by rw [Ht.out, List.length_take]; omega)
          have WD := Lib.hid hB.out.drew
          have E0 := Lib.hid (Below.refl wr.drew.drew.heap.size wr.drew.drew)
          have HXD : Hid (∀ w', Below wr.drew.drew.heap.size wr.drew.drew w' → (fun w' : World => w'.cell? (xd.add i) = some (.int .i64 x)) w') := Lib.hid (fun w' hb => HX.out w' (hB.out.drew.drew.trans (hb.mono hB.out.size)))
          have RK : Hid (IntsAt (fun _ => False) wr.drew.drew RA t) := Lib.hid (by
            rw [Ht.out]
            exact rows_take (HR.out _ hB.out.drew.drew) _)
          go_wp2_with fail
          refine wp_region_held_drew (S := (fun w' : World => w'.cell? (xd.add i) = some (.int .i64 x))) (by kernel_rfl) (HXD.out _ E0.out) (fun hHeld => ?_)
          refine wpAnyH_take (i := 1) (oi := ⟨_, _, _, _, _, _⟩) (v := ?_) rfl (by kernel_rfl) (by kernel_rfl) (by kernel_rfl) (fun _ _ _ h => h) (Or.inl ⟨by rfl, ?_⟩) (by assumption) ?_
          rotate_left
          · intro w' hSw; (try dsimp only at hSw); go_simp; (try with_reducible rfl)
          try simp only [Act.put, List.setIfInBounds_toArray, List.set_cons_zero, List.set_cons_succ]
          refine wpAnyH_take (i := 2) (oi := ⟨_, _, _, _, _, _⟩) (v := ?_) rfl (by kernel_rfl) (by kernel_rfl) (by kernel_rfl) (fun _ _ _ h => h) (Or.inl ⟨by rfl, ?_⟩) (by assumption) ?_
          rotate_left
          · intro w' hSw; (try dsimp only at hSw); go_simp; (try with_reducible rfl)
          try simp only [Act.put, List.setIfInBounds_toArray, List.set_cons_zero, List.set_cons_succ]
          refine wpAnyH_take (i := 3) (oi := ⟨_, _, _, _, _, _⟩) (v := ?_) rfl (by kernel_rfl) (by kernel_rfl) (by kernel_rfl) (fun _ _ _ h => h) (Or.inl ⟨by rfl, ?_⟩) (by assumption) ?_
          rotate_left
          · intro w' hSw; (try dsimp only at hSw); go_simp; (try with_reducible rfl)
          try simp only [Act.put, List.setIfInBounds_toArray, List.set_cons_zero, List.set_cons_succ]
          refine wpAnyH_take (i := 5) (oi := ⟨_, _, _, _, _, _⟩) (v := ?_) rfl (by kernel_rfl) (by kernel_rfl) (by kernel_rfl) (fun _ _ _ h => h) (Or.inl ⟨by rfl, ?_⟩) (by assumption) ?_
          rotate_left
          · intro w' hSw; (try dsimp only at hSw); go_simp; (try with_reducible rfl)
          try simp only [Act.put, List.setIfInBounds_toArray, List.set_cons_zero, List.set_cons_succ]
          refine wpAnyH_take (i := 6) (oi := ⟨_, _, _, _, _, _⟩) (v := ?_) rfl (by kernel_rfl) (by kernel_rfl) (by kernel_rfl) (fun _ _ _ h => h) (Or.inl ⟨by rfl, ?_⟩) (by assumption) ?_
          rotate_left
          · intro w' hSw; (try dsimp only at hSw); go_simp; (try with_reducible rfl)
          try simp only [Act.put, List.setIfInBounds_toArray, List.set_cons_zero, List.set_cons_succ]
          refine wpAnyH_take (i := 7) (oi := ⟨_, _, _, _, _, _⟩) (v := ?_) rfl (by kernel_rfl) (by kernel_rfl) (by kernel_rfl) (fun _ _ _ h => h) (Or.inl ⟨by rfl, ?_⟩) (by assumption) ?_
          rotate_left
          · intro w' hSw; (try dsimp only at hSw); go_simp; (try with_reducible rfl)
          try simp only [Act.put, List.setIfInBounds_toArray, List.set_cons_zero, List.set_cons_succ]
          refine wpAnyH_take (i := 8) (oi := ⟨_, _, _, _, _, _⟩) (v := ?_) rfl (by kernel_rfl) (by kernel_rfl) (by kernel_rfl) (fun _ _ _ h => h) (Or.inl ⟨by rfl, ?_⟩) (by assumption) ?_
          rotate_left
          · intro w' hSw; (try dsimp only at hSw); go_simp; (try with_reducible rfl)
          try simp only [Act.put, List.setIfInBounds_toArray, List.set_cons_zero, List.set_cons_succ]
          refine wpAnyH_ready (rs := [0, 9]) (by kernel_rfl) (by simp) ?_
          refine (AllReadyH.cons (o := ⟨_, _, _, _, _, _⟩) rfl (fun K9 hK9 => ?_) (AllReadyH.cons (o := ⟨_, _, _, _, _, _⟩) rfl (fun K9 hK9 => ?_) AllReadyH.nil))
          · refine step_build0 rfl 35 rfl 3 i0 1 _ Try.underlying35 hi (Nat.le_refl _) ?_
            intro va p1 ho hb
            have E1 := Lib.hid (E0.out.trans (hb.mono E0.out.size))
            have OA := Lib.hid (ho.mono E0.out.size)
            clear ho hb
            refine hK9.out _ _ (HXD.out _ E1.out) (fun hHeld => ?_)
            clear hK9 K9
            try simp only [Act.put, List.setIfInBounds_toArray, List.set_cons_zero, List.set_cons_succ]
            refine wpAnyH_ready (rs := [4, 9]) (by kernel_rfl) (by simp) ?_
            refine (AllReadyH.cons (o := ⟨_, _, _, _, _, _⟩) rfl (fun K9 hK9 => ?_) (AllReadyH.cons (o := ⟨_, _, _, _, _, _⟩) rfl (fun K9 hK9 => ?_) AllReadyH.nil))
            · refine step_append_ownN (f := intc) intc_len intc_flat (by decide) rfl (.tmp 31) (.tmp 34) 35 rfl wr.drew.drew.heap.size 3 i0 zI 8 Try.underlying35 hi hz0 hz1 hz2 rfl va 0 [] rfl OA.out RA rc t 0 htl.out HRA.out (RowsAt.below RK.out E1.out) rfl (by unfold maxLen; omega) (by omega) E1.out.size ?_
              intro v2 p2 ho hg _
              have E2 := Lib.hid (E1.out.grown hg E1.out.size (fun q hq => (OA.out.lt hq).1))
              have O2 : Hid (OwnW p2 wr.drew.drew.heap.size 3 1 v2 0 (t.flatMap intc)) := Lib.hid (by have h := ho; rw [Nat.zero_add, List.nil_append] at h; exact h)
              clear ho hg
              refine hK9.out _ _ (HXD.out _ E2.out) (fun hHeld => ?_)
              clear hK9 K9
              try simp only [Act.put, List.setIfInBounds_toArray, List.set_cons_zero, List.set_cons_succ]
              refine wpAnyH_ready (rs := [9]) (by kernel_rfl) (by simp) ?_
              refine AllReadyH.cons (o := ⟨_, _, _, _, _, _⟩) rfl (fun K9 hK9 => ?_) AllReadyH.nil
              refine step_build1 (f := intc) (m := 1) rfl 35 (.tmp 39) rfl 3 i0 zI Try.underlying35 hi hz0 hz1 (by decide) (by decide) x _ rfl (fillI x) ?_
              intro gb p3 nb hb hg1 hg2
              have E3 := Lib.hid (E2.out.trans (hb.mono E2.out.size))
              have NB := Lib.hid nb
              have GB := Lib.hid hg2
              have O2 := Lib.hid (OwnW.below O2.out hb)
              clear nb hb hg1 hg2
              refine hK9.out _ _ (HXD.out _ E3.out) (fun hHeld => ?_)
              clear hK9 K9
              try simp only [Act.put, List.setIfInBounds_toArray, List.set_cons_zero, List.set_cons_succ]
              refine wpAnyH_ready (rs := [10]) (by kernel_rfl) (by simp) ?_
              refine AllReadyH.cons (o := ⟨_, _, _, _, _, _⟩) rfl (fun K9 hK9 => ?_) AllReadyH.nil
              refine step_append_ownN (f := intc) intc_len intc_flat (by decide) rfl (.tmp 35) (.tmp 40) 35 rfl wr.drew.drew.heap.size 3 i0 zI 8 Try.underlying35 hi hz0 hz1 hz2 rfl v2 0 t rfl O2.out (some ⟨gb, 0, none⟩) 1 [x] 1 rfl (fun h => by cases h) (NB.out.mono (fun _ h => h.elim)) rfl (by unfold maxLen; omega) (by omega) E3.out.size ?_
              intro v9 w9 ho hg _
              have EZ := Lib.hid (E3.out.grown hg E3.out.size (fun q hq => (O2.out.lt hq).1))
              have OZ := Lib.hid ho
              clear ho hg
              refine hK9.out _ _ (HXD.out _ EZ.out) (fun hHeld => ?_)
              clear hK9 K9
              try simp only [Act.put, List.setIfInBounds_toArray, List.set_cons_zero, List.set_cons_succ]
              refine wpAnyH_take (i := 11) (oi := ⟨_, _, _, _, _, _⟩) (v := ?_) rfl (by kernel_rfl) (by kernel_rfl) (by kernel_rfl) (fun _ _ _ h => h) (Or.inl ⟨by rfl, ?_⟩) (by assumption) ?_
              rotate_left
              · intro w' hSw; (try dsimp only at hSw); go_simp; (try with_reducible rfl)
              try simp only [Act.put, List.setIfInBounds_toArray, List.set_cons_zero, List.set_cons_succ]
              refine wpAnyH_done (by kernel_rfl) ?_ _
              clear hHeld
              obtain ⟨B, c2, hS, hB0, hrows⟩ := cut_from (f := intc) (m := 1) RA rc 0 r.length HRA.out
              have hul : u.length = r.length - 0 := by rw [Hu.out, List.length_drop]
              have HRU : Hid (IntsAt (fun _ => False) w9 B u) := Lib.hid (by
                rw [Hu.out]
                exact hrows _ _ r (HR.out _ (hB.out.drew.drew.trans (EZ.out.mono hB.out.size))) (by omega) hk)
              rw [← hul] at hS
              have HB0 := Lib.hid hB0
              have hulI : u.length ≤ 1000 := by omega
              have HTT : Hid ((t ++ [x] ++ u).Perm (l.take (i + 1)) ∧ (t ++ [x] ++ u).Pairwise (· ≤ ·)) := Lib.hid (by rw [Ht.out, Hu.out]; exact HT.out)
              have HLL : Hid ((t ++ [x] ++ u).length = 0 + 1 + u.length) := Lib.hid (by rw [List.length_append, List.length_append, List.length_singleton, htl.out])
              have EW : Hid (Below W.heap.size W w9) := Lib.hid (hI.out.below.trans ((hB.out.drew.drew.trans (EZ.out.mono hB.out.size)).mono hI.out.below.size))
              have HQ : Hid (W.heap.size ≤ wr.drew.drew.heap.size) := Lib.hid (Nat.le_trans hI.out.below.size hB.out.size)
              have HQ9 : Hid (wr.drew.drew.heap.size ≤ w9.heap.size) := Lib.hid EZ.out.size
              have hHS := Lib.hid hS
              have hkN : 0 ≤ r.length := hk
              have hkc : 0 ≤ 1000 := by omega
              clear hS hB0 hrows hul HT HI HRA HXD RK NB WD htl Ht Hu
              go_wp2_with (first | (at_builtin; (refine wpList_append_ownW (f := intc) intc_len intc_flat (by decide) rfl (.tmp 42) (.tmp 45) 35 rfl wr.drew.drew.heap.size 3 i0 zI 8 Try.underlying35 hi hz0 hz1 hz2 rfl v9 (0 + 1) (t ++ [x]) rfl OZ.out B c2 u HB0.out HRU.out rfl (by unfold maxLen; omega) (by omega) HQ9.out ?_)) | (refine wpList_from rfl (.tmp 43) (.tmp 44) 35 rfl i0 1 Try.underlying35 hi hz1 RA r.length rc 0 0 (by omega) rfl rfl hkN _ hHS.out ?_))
              intro v8 w8 ho8 hg8 _
              have O8 : OwnI w8 W.heap.size v8 (t ++ [x] ++ u) := by
                show OwnW w8 _ _ _ v8 (t ++ [x] ++ u).length _
                rw [HLL.out]
                simpa [List.append_assoc] using ho8.mono HQ.out
              have NX : Hid (RisI l (i + 1) W v8 (t ++ [x] ++ u) w8) := Lib.hid ⟨O8, HTT.out.1, HTT.out.2, EW.out.grown hg8 EW.out.size (fun q hq => Nat.le_trans HQ.out (OZ.out.lt hq).1)⟩
              have NL : (t ++ [x] ++ u).length ≤ 1000 := by
                rw [HTT.out.1.length_eq, List.length_take]
                omega
              clear ho8 hg8 O8 EZ OZ HTT HLL hHS
              go_wp2_with fail
              go_roundw
              case rel => exact ⟨i + 1, v8, _, by omega, by go_num, rfl, NL, NX⟩
              case measure => first | (simp [RowKit.intOf]; done) | (simp [RowKit.intOf]; omega)
            · refine step_build1 (f := intc) (m := 1) rfl 35 (.tmp 39) rfl 3 i0 zI Try.underlying35 hi hz0 hz1 (by decide) (by decide) x _ rfl (fillI x) ?_
              intro gb p5 nb hb hg1 hg2
              have E5 := Lib.hid (E1.out.trans (hb.mono E1.out.size))
              have NB := Lib.hid nb
              have GB := Lib.hid hg2
              have APN : Hid (∀ k, va.ownBlock = some k → k ≠ gb) := Lib.hid (fun k hk e => by have h1 := (OA.out.lt hk).2; omega)
              have OA := Lib.hid (OwnW.below OA.out hb)
              clear nb hb hg1 hg2
              refine hK9.out _ _ (HXD.out _ E5.out) (fun hHeld => ?_)
              clear hK9 K9
              try simp only [Act.put, List.setIfInBounds_toArray, List.set_cons_zero, List.set_cons_succ]
              refine wpAnyH_ready (rs := [4]) (by kernel_rfl) (by simp) ?_
              refine AllReadyH.cons (o := ⟨_, _, _, _, _, _⟩) rfl (fun K9 hK9 => ?_) AllReadyH.nil
              refine step_append_ownN (f := intc) intc_len intc_flat (by decide) rfl (.tmp 31) (.tmp 34) 35 rfl wr.drew.drew.heap.size 3 i0 zI 8 Try.underlying35 hi hz0 hz1 hz2 rfl va 0 [] rfl OA.out RA rc t 0 htl.out HRA.out (RowsAt.below RK.out E5.out) rfl (by unfold maxLen; omega) (by omega) E5.out.size ?_
              intro v2 p6 ho hg _
              have E6 := Lib.hid (E5.out.grown hg E5.out.size (fun q hq => (OA.out.lt hq).1))
              have O2 : Hid (OwnW p6 wr.drew.drew.heap.size 3 1 v2 0 (t.flatMap intc)) := Lib.hid (by have h := ho; rw [Nat.zero_add, List.nil_append] at h; exact h)
              have NB := Lib.hid (RowsAt.keep (F := fun k => va.ownBlock = some k) NB.out ((Keep.refl _ _).grown hg (fun q hq => .inl hq)) (fun k hk => APN.out k hk))
              clear ho hg
              refine hK9.out _ _ (HXD.out _ E6.out) (fun hHeld => ?_)
              clear hK9 K9
              try simp only [Act.put, List.setIfInBounds_toArray, List.set_cons_zero, List.set_cons_succ]
              refine wpAnyH_ready (rs := [10]) (by kernel_rfl) (by simp) ?_
              refine AllReadyH.cons (o := ⟨_, _, _, _, _, _⟩) rfl (fun K9 hK9 => ?_) AllReadyH.nil
              refine step_append_ownN (f := intc) intc_len intc_flat (by decide) rfl (.tmp 35) (.tmp 40) 35 rfl wr.drew.drew.heap.size 3 i0 zI 8 Try.underlying35 hi hz0 hz1 hz2 rfl v2 0 t rfl O2.out (some ⟨gb, 0, none⟩) 1 [x] 1 rfl (fun h => by cases h) (NB.out.mono (fun _ h => h.elim)) rfl (by unfold maxLen; omega) (by omega) E6.out.size ?_
              intro v9 w9 ho hg _
              have EZ := Lib.hid (E6.out.grown hg E6.out.size (fun q hq => (O2.out.lt hq).1))
              have OZ := Lib.hid ho
              clear ho hg
              refine hK9.out _ _ (HXD.out _ EZ.out) (fun hHeld => ?_)
              clear hK9 K9
              try simp only [Act.put, List.setIfInBounds_toArray, List.set_cons_zero, List.set_cons_succ]
              refine wpAnyH_take (i := 11) (oi := ⟨_, _, _, _, _, _⟩) (v := ?_) rfl (by kernel_rfl) (by kernel_rfl) (by kernel_rfl) (fun _ _ _ h => h) (Or.inl ⟨by rfl, ?_⟩) (by assumption) ?_
              rotate_left
              · intro w' hSw; (try dsimp only at hSw); go_simp; (try with_reducible rfl)
              try simp only [Act.put, List.setIfInBounds_toArray, List.set_cons_zero, List.set_cons_succ]
              refine wpAnyH_done (by kernel_rfl) ?_ _
              clear hHeld
              obtain ⟨B, c2, hS, hB0, hrows⟩ := cut_from (f := intc) (m := 1) RA rc 0 r.length HRA.out
              have hul : u.length = r.length - 0 := by rw [Hu.out, List.length_drop]
              have HRU : Hid (IntsAt (fun _ => False) w9 B u) := Lib.hid (by
                rw [Hu.out]
                exact hrows _ _ r (HR.out _ (hB.out.drew.drew.trans (EZ.out.mono hB.out.size))) (by omega) hk)
              rw [← hul] at hS
              have HB0 := Lib.hid hB0
              have hulI : u.length ≤ 1000 := by omega
              have HTT : Hid ((t ++ [x] ++ u).Perm (l.take (i + 1)) ∧ (t ++ [x] ++ u).Pairwise (· ≤ ·)) := Lib.hid (by rw [Ht.out, Hu.out]; exact HT.out)
              have HLL : Hid ((t ++ [x] ++ u).length = 0 + 1 + u.length) := Lib.hid (by rw [List.length_append, List.length_append, List.length_singleton, htl.out])
              have EW : Hid (Below W.heap.size W w9) := Lib.hid (hI.out.below.trans ((hB.out.drew.drew.trans (EZ.out.mono hB.out.size)).mono hI.out.below.size))
              have HQ : Hid (W.heap.size ≤ wr.drew.drew.heap.size) := Lib.hid (Nat.le_trans hI.out.below.size hB.out.size)
              have HQ9 : Hid (wr.drew.drew.heap.size ≤ w9.heap.size) := Lib.hid EZ.out.size
              have hHS := Lib.hid hS
              have hkN : 0 ≤ r.length := hk
              have hkc : 0 ≤ 1000 := by omega
              clear hS hB0 hrows hul HT HI HRA HXD RK NB WD htl Ht Hu
              go_wp2_with (first | (at_builtin; (refine wpList_append_ownW (f := intc) intc_len intc_flat (by decide) rfl (.tmp 42) (.tmp 45) 35 rfl wr.drew.drew.heap.size 3 i0 zI 8 Try.underlying35 hi hz0 hz1 hz2 rfl v9 (0 + 1) (t ++ [x]) rfl OZ.out B c2 u HB0.out HRU.out rfl (by unfold maxLen; omega) (by omega) HQ9.out ?_)) | (refine wpList_from rfl (.tmp 43) (.tmp 44) 35 rfl i0 1 Try.underlying35 hi hz1 RA r.length rc 0 0 (by omega) rfl rfl hkN _ hHS.out ?_))
              intro v8 w8 ho8 hg8 _
              have O8 : OwnI w8 W.heap.size v8 (t ++ [x] ++ u) := by
                show OwnW w8 _ _ _ v8 (t ++ [x] ++ u).length _
                rw [HLL.out]
                simpa [List.append_assoc] using ho8.mono HQ.out
              have NX : Hid (RisI l (i + 1) W v8 (t ++ [x] ++ u) w8) := Lib.hid ⟨O8, HTT.out.1, HTT.out.2, EW.out.grown hg8 EW.out.size (fun q hq => Nat.le_trans HQ.out (OZ.out.lt hq).1)⟩
              have NL : (t ++ [x] ++ u).length ≤ 1000 := by
                rw [HTT.out.1.length_eq, List.length_take]
                omega
              clear ho8 hg8 O8 EZ OZ HTT HLL hHS
              go_wp2_with fail
              go_roundw
              case rel => exact ⟨i + 1, v8, _, by omega, by go_num, rfl, NL, NX⟩
              case measure => first | (simp [RowKit.intOf]; done) | (simp [RowKit.intOf]; omega)
          · refine step_build1 (f := intc) (m := 1) rfl 35 (.tmp 39) rfl 3 i0 zI Try.underlying35 hi hz0 hz1 (by decide) (by decide) x _ rfl (fillI x) ?_
            intro gb p8 nb hb hg1 hg2
            have E8 := Lib.hid (E0.out.trans (hb.mono E0.out.size))
            have NB := Lib.hid nb
            have GB := Lib.hid hg2
            clear nb hb hg1 hg2
            refine hK9.out _ _ (HXD.out _ E8.out) (fun hHeld => ?_)
            clear hK9 K9
            try simp only [Act.put, List.setIfInBounds_toArray, List.set_cons_zero, List.set_cons_succ]
            refine wpAnyH_ready (rs := [0]) (by kernel_rfl) (by simp) ?_
            refine AllReadyH.cons (o := ⟨_, _, _, _, _, _⟩) rfl (fun K9 hK9 => ?_) AllReadyH.nil
            refine step_build0 rfl 35 rfl 3 i0 1 _ Try.underlying35 hi (Nat.le_refl _) ?_
            intro va p9 ho hb
            have E9 := Lib.hid (E8.out.trans (hb.mono E8.out.size))
            have OA := Lib.hid (ho.mono E8.out.size)
            have APN : Hid (∀ k, va.ownBlock = some k → k ≠ gb) := Lib.hid (fun k hk e => by have h1 := (OwnW.lt ho hk).1; have h2 := GB.out; omega)
            have NB := Lib.hid (RowsAt.below NB.out hb)
            clear ho hb
            refine hK9.out _ _ (HXD.out _ E9.out) (fun hHeld => ?_)
            clear hK9 K9
            try simp only [Act.put, List.setIfInBounds_toArray, List.set_cons_zero, List.set_cons_succ]
            refine wpAnyH_ready (rs := [4]) (by kernel_rfl) (by simp) ?_
            refine AllReadyH.cons (o := ⟨_, _, _, _, _, _⟩) rfl (fun K9 hK9 => ?_) AllReadyH.nil
            refine step_append_ownN (f := intc) intc_len intc_flat (by decide) rfl (.tmp 31) (.tmp 34) 35 rfl wr.drew.drew.heap.size 3 i0 zI 8 Try.underlying35 hi hz0 hz1 hz2 rfl va 0 [] rfl OA.out RA rc t 0 htl.out HRA.out (RowsAt.below RK.out E9.out) rfl (by unfold maxLen; omega) (by omega) E9.out.size ?_
            intro v2 p10 ho hg _
            have E10 := Lib.hid (E9.out.grown hg E9.out.size (fun q hq => (OA.out.lt hq).1))
            have O2 : Hid (OwnW p10 wr.drew.drew.heap.size 3 1 v2 0 (t.flatMap intc)) := Lib.hid (by have h := ho; rw [Nat.zero_add, List.nil_append] at h; exact h)
            have NB := Lib.hid (RowsAt.keep (F := fun k => va.ownBlock = some k) NB.out ((Keep.refl _ _).grown hg (fun q hq => .inl hq)) (fun k hk => APN.out k hk))
            clear ho hg
            refine hK9.out _ _ (HXD.out _ E10.out) (fun hHeld => ?_)
            clear hK9 K9
            try simp only [Act.put, List.setIfInBounds_toArray, List.set_cons_zero, List.set_cons_succ]
            refine wpAnyH_ready (rs := [10]) (by kernel_rfl) (by simp) ?_
            refine AllReadyH.cons (o := ⟨_, _, _, _, _, _⟩) rfl (fun K9 hK9 => ?_) AllReadyH.nil
            refine step_append_ownN (f := intc) intc_len intc_flat (by decide) rfl (.tmp 35) (.tmp 40) 35 rfl wr.drew.drew.heap.size 3 i0 zI 8 Try.underlying35 hi hz0 hz1 hz2 rfl v2 0 t rfl O2.out (some ⟨gb, 0, none⟩) 1 [x] 1 rfl (fun h => by cases h) (NB.out.mono (fun _ h => h.elim)) rfl (by unfold maxLen; omega) (by omega) E10.out.size ?_
            intro v9 w9 ho hg _
            have EZ := Lib.hid (E10.out.grown hg E10.out.size (fun q hq => (O2.out.lt hq).1))
            have OZ := Lib.hid ho
            clear ho hg
            refine hK9.out _ _ (HXD.out _ EZ.out) (fun hHeld => ?_)
            clear hK9 K9
            try simp only [Act.put, List.setIfInBounds_toArray, List.set_cons_zero, List.set_cons_succ]
            refine wpAnyH_take (i := 11) (oi := ⟨_, _, _, _, _, _⟩) (v := ?_) rfl (by kernel_rfl) (by kernel_rfl) (by kernel_rfl) (fun _ _ _ h => h) (Or.inl ⟨by rfl, ?_⟩) (by assumption) ?_
            rotate_left
            · intro w' hSw; (try dsimp only at hSw); go_simp; (try with_reducible rfl)
            try simp only [Act.put, List.setIfInBounds_toArray, List.set_cons_zero, List.set_cons_succ]
            refine wpAnyH_done (by kernel_rfl) ?_ _
            clear hHeld
            obtain ⟨B, c2, hS, hB0, hrows⟩ := cut_from (f := intc) (m := 1) RA rc 0 r.length HRA.out
            have hul : u.length = r.length - 0 := by rw [Hu.out, List.length_drop]
            have HRU : Hid (IntsAt (fun _ => False) w9 B u) := Lib.hid (by
              rw [Hu.out]
              exact hrows _ _ r (HR.out _ (hB.out.drew.drew.trans (EZ.out.mono hB.out.size))) (by omega) hk)
            rw [← hul] at hS
            have HB0 := Lib.hid hB0
            have hulI : u.length ≤ 1000 := by omega
            have HTT : Hid ((t ++ [x] ++ u).Perm (l.take (i + 1)) ∧ (t ++ [x] ++ u).Pairwise (· ≤ ·)) := Lib.hid (by rw [Ht.out, Hu.out]; exact HT.out)
            have HLL : Hid ((t ++ [x] ++ u).length = 0 + 1 + u.length) := Lib.hid (by rw [List.length_append, List.length_append, List.length_singleton, htl.out])
            have EW : Hid (Below W.heap.size W w9) := Lib.hid (hI.out.below.trans ((hB.out.drew.drew.trans (EZ.out.mono hB.out.size)).mono hI.out.below.size))
            have HQ : Hid (W.heap.size ≤ wr.drew.drew.heap.size) := Lib.hid (Nat.le_trans hI.out.below.size hB.out.size)
            have HQ9 : Hid (wr.drew.drew.heap.size ≤ w9.heap.size) := Lib.hid EZ.out.size
            have hHS := Lib.hid hS
            have hkN : 0 ≤ r.length := hk
            have hkc : 0 ≤ 1000 := by omega
            clear hS hB0 hrows hul HT HI HRA HXD RK NB WD htl Ht Hu
            go_wp2_with (first | (at_builtin; (refine wpList_append_ownW (f := intc) intc_len intc_flat (by decide) rfl (.tmp 42) (.tmp 45) 35 rfl wr.drew.drew.heap.size 3 i0 zI 8 Try.underlying35 hi hz0 hz1 hz2 rfl v9 (0 + 1) (t ++ [x]) rfl OZ.out B c2 u HB0.out HRU.out rfl (by unfold maxLen; omega) (by omega) HQ9.out ?_)) | (refine wpList_from rfl (.tmp 43) (.tmp 44) 35 rfl i0 1 Try.underlying35 hi hz1 RA r.length rc 0 0 (by omega) rfl rfl hkN _ hHS.out ?_))
            intro v8 w8 ho8 hg8 _
            have O8 : OwnI w8 W.heap.size v8 (t ++ [x] ++ u) := by
              show OwnW w8 _ _ _ v8 (t ++ [x] ++ u).length _
              rw [HLL.out]
              simpa [List.append_assoc] using ho8.mono HQ.out
            have NX : Hid (RisI l (i + 1) W v8 (t ++ [x] ++ u) w8) := Lib.hid ⟨O8, HTT.out.1, HTT.out.2, EW.out.grown hg8 EW.out.size (fun q hq => Nat.le_trans HQ.out (OZ.out.lt hq).1)⟩
            have NL : (t ++ [x] ++ u).length ≤ 1000 := by
              rw [HTT.out.1.length_eq, List.length_take]
              omega
            clear ho8 hg8 O8 EZ OZ HTT HLL hHS
            go_wp2_with fail
            go_roundw
            case rel => exact ⟨i + 1, v8, _, by omega, by go_num, rfl, NL, NX⟩
            case measure => first | (simp [RowKit.intOf]; done) | (simp [RowKit.intOf]; omega)
        · obtain ⟨k, rfl⟩ : ∃ k', k = k' + 1 := ⟨k - 1, by omega⟩
          have hkI : (0 : Int) < (k : Int) + 1 := by omega
          have hk2 : k < r.length := by omega
          have hk3 : (k : Int) < (r.length : Int) := by omega
          have hwk : IntKind.i64.wrap (k : Int) = (k : Int) := IntWalk.i64_in _ (by omega)
          have hk4 : (0 : Int) ≤ (k : Int) := by omega
          have hk5 : (0 : Int) ≤ (k : Int) + 1 := by omega
          have hk6 : (k : Int) + 1 ≤ (rc : Int) := by omega
          obtain ⟨rd, rfl, -, d0⟩ := IntsAt.at (HR.out _ hB.out.drew) hk2
          have hx := HX.out _ hB.out.drew
          generalize hy : r[k] = y at *
          have HSC : Hid ((fun w' : World => w'.cell? (xd.add i) = some (.int .i64 x) ∧ w'.cell? (rd.add k) = some (.int .i64 y)) wr.drew) := Lib.hid ⟨hx, d0⟩
          clear hx d0
          by_cases hxy : x < y
          · have NX : Hid (∀ j (h : j < r.length), k ≤ j → x < r[j]) := Lib.hid (fun j h1 h2 => by
              by_cases e : j = k
              · subst e; rw [hy]; exact hxy
              · exact hJ.out j h1 (by omega))
            have NB := Lib.hid hB.out.drew
            have hxd : decide (x < y) = true := decide_eq_true hxy
            clear hJ HST hy
            go_wp2_with fail
            refine wp_region_held_drew (S := (fun w' : World => w'.cell? (xd.add i) = some (.int .i64 x) ∧ w'.cell? (rd.add k) = some (.int .i64 y))) (by kernel_rfl) HSC.out (fun hHeld => ?_)
            refine wpAnyH_take (i := 0) (oi := ⟨_, _, _, _, _, _⟩) (v := ?_) rfl (by kernel_rfl) (by kernel_rfl) (by kernel_rfl) (fun _ _ _ h => h) (Or.inl ⟨by rfl, ?_⟩) (by assumption) ?_
            rotate_left
            · intro w' hSw; (try dsimp only at hSw); go_simp; (try with_reducible rfl)
            try simp only [Act.put, List.setIfInBounds_toArray, List.set_cons_zero, List.set_cons_succ]
            refine wpAnyH_take (i := 1) (oi := ⟨_, _, _, _, _, _⟩) (v := ?_) rfl (by kernel_rfl) (by kernel_rfl) (by kernel_rfl) (fun _ _ _ h => h) (Or.inl ⟨by rfl, ?_⟩) (by assumption) ?_
            rotate_left
            · intro w' hSw; (try dsimp only at hSw); go_simp; (try with_reducible rfl)
            try simp only [Act.put, List.setIfInBounds_toArray, List.set_cons_zero, List.set_cons_succ]
            refine wpAnyH_take (i := 2) (oi := ⟨_, _, _, _, _, _⟩) (v := ?_) rfl (by kernel_rfl) (by kernel_rfl) (by kernel_rfl) (fun _ _ _ h => h) (Or.inl ⟨by rfl, ?_⟩) (by assumption) ?_
            rotate_left
            · intro w' hSw; (try dsimp only at hSw); go_simp; (try with_reducible rfl)
            try simp only [Act.put, List.setIfInBounds_toArray, List.set_cons_zero, List.set_cons_succ]
            refine wpAnyH_take (i := 3) (oi := ⟨_, _, _, _, _, _⟩) (v := ?_) rfl (by kernel_rfl) (by kernel_rfl) (by kernel_rfl) (fun _ _ _ h => h) (Or.inl ⟨by rfl, ?_⟩) (by assumption) ?_
            rotate_left
            · intro w' hSw; (try dsimp only at hSw); go_simp; (try with_reducible rfl)
            try simp only [Act.put, List.setIfInBounds_toArray, List.set_cons_zero, List.set_cons_succ]
            refine wpAnyH_take (i := 4) (oi := ⟨_, _, _, _, _, _⟩) (v := ?_) rfl (by kernel_rfl) (by kernel_rfl) (by kernel_rfl) (fun _ _ _ h => h) (Or.inl ⟨by rfl, ?_⟩) (by assumption) ?_
            rotate_left
            · intro w' hSw; (try dsimp only at hSw); go_simp; (try with_reducible rfl)
            try simp only [Act.put, List.setIfInBounds_toArray, List.set_cons_zero, List.set_cons_succ]
            refine wpAnyH_take (i := 5) (oi := ⟨_, _, _, _, _, _⟩) (v := ?_) rfl (by kernel_rfl) (by kernel_rfl) (by kernel_rfl) (fun _ _ _ h => h) (Or.inl ⟨by rfl, ?_⟩) (by assumption) ?_
            rotate_left
            · intro w' hSw; (try dsimp only at hSw); go_simp; (try with_reducible rfl)
            try simp only [Act.put, List.setIfInBounds_toArray, List.set_cons_zero, List.set_cons_succ]
            refine wpAnyH_take (i := 6) (oi := ⟨_, _, _, _, _, _⟩) (v := ?_) rfl (by kernel_rfl) (by kernel_rfl) (by kernel_rfl) (fun _ _ _ h => h) (Or.inl ⟨by rfl, ?_⟩) (by assumption) ?_
            rotate_left
            · intro w' hSw; (try dsimp only at hSw); go_simp; (try with_reducible rfl)
            try simp only [Act.put, List.setIfInBounds_toArray, List.set_cons_zero, List.set_cons_succ]
            refine wpAnyH_take (i := 7) (oi := ⟨_, _, _, _, _, _⟩) (v := ?_) rfl (by kernel_rfl) (by kernel_rfl) (by kernel_rfl) (fun _ _ _ h => h) (Or.inl ⟨by rfl, ?_⟩) (by assumption) ?_
            rotate_left
            · intro w' hSw; (try dsimp only at hSw); go_simp; (try with_reducible rfl)
            try simp only [Act.put, List.setIfInBounds_toArray, List.set_cons_zero, List.set_cons_succ]
            refine wpAnyH_take (i := 8) (oi := ⟨_, _, _, _, _, _⟩) (v := ?_) rfl (by kernel_rfl) (by kernel_rfl) (by kernel_rfl) (fun _ _ _ h => h) (Or.inl ⟨by rfl, ?_⟩) (by assumption) ?_
            rotate_left
            · intro w' hSw; (try dsimp only at hSw); go_simp; (try with_reducible rfl)
            try simp only [Act.put, List.setIfInBounds_toArray, List.set_cons_zero, List.set_cons_succ]
            refine wpAnyH_take (i := 9) (oi := ⟨_, _, _, _, _, _⟩) (v := ?_) rfl (by kernel_rfl) (by kernel_rfl) (by kernel_rfl) (fun _ _ _ h => h) (Or.inl ⟨by rfl, ?_⟩) (by assumption) ?_
            rotate_left
            · intro w' hSw; (try dsimp only at hSw); go_simp; (try with_reducible rfl)
            try simp only [Act.put, List.setIfInBounds_toArray, List.set_cons_zero, List.set_cons_succ]
            refine wpAnyH_take (i := 10) (oi := ⟨_, _, _, _, _, _⟩) (v := ?_) rfl (by kernel_rfl) (by kernel_rfl) (by kernel_rfl) (fun _ _ _ h => h) (Or.inl ⟨by rfl, ?_⟩) (by assumption) ?_
            rotate_left
            · intro w' hSw; (try dsimp only at hSw); go_simp; (try with_reducible rfl)
            try simp only [Act.put, List.setIfInBounds_toArray, List.set_cons_zero, List.set_cons_succ]
            refine wpAnyH_take (i := 11) (oi := ⟨_, _, _, _, _, _⟩) (v := ?_) rfl (by kernel_rfl) (by kernel_rfl) (by kernel_rfl) (fun _ _ _ h => h) (Or.inl ⟨by rfl, ?_⟩) (by assumption) ?_
            rotate_left
            · intro w' hSw; (try dsimp only at hSw); go_simp; (try with_reducible rfl)
            try simp only [Act.put, List.setIfInBounds_toArray, List.set_cons_zero, List.set_cons_succ]
            refine wpAnyH_take (i := 12) (oi := ⟨_, _, _, _, _, _⟩) (v := ?_) rfl (by kernel_rfl) (by kernel_rfl) (by kernel_rfl) (fun _ _ _ h => h) (Or.inl ⟨by rfl, ?_⟩) (by assumption) ?_
            rotate_left
            · intro w' hSw; (try dsimp only at hSw); go_simp; (try with_reducible rfl)
            try simp only [Act.put, List.setIfInBounds_toArray, List.set_cons_zero, List.set_cons_succ]
            refine wpAnyH_take (i := 13) (oi := ⟨_, _, _, _, _, _⟩) (v := ?_) rfl (by kernel_rfl) (by kernel_rfl) (by kernel_rfl) (fun _ _ _ h => h) (Or.inl ⟨by rfl, ?_⟩) (by assumption) ?_
            rotate_left
            · intro w' hSw; (try dsimp only at hSw); go_simp; (try with_reducible rfl)
            try simp only [Act.put, List.setIfInBounds_toArray, List.set_cons_zero, List.set_cons_succ]
            refine wpAnyH_done (by kernel_rfl) ?_ _
            clear hHeld
            go_wp2_with fail
            go_roundw
            case rel => exact ⟨k, by omega, by go_num, NX, NB⟩
            case measure => first | (simp [RowKit.intOf]; done) | (simp [RowKit.intOf]; omega)
          · have HE : r = r.take (k + 1) ++ r.drop (k + 1) := (List.take_append_drop _ _).symm
            have HT := Lib.hid (HST.out _ _ HE (fun z hz => by
              rw [List.getLast?_eq_getElem?, List.length_take, Nat.min_eq_left (by omega), List.getElem?_take, if_pos (by omega), Nat.add_sub_cancel, List.getElem?_eq_getElem hk2, hy] at hz
              injection hz with hz
              omega) (fun z hz => by
              obtain ⟨j, hj, rfl⟩ := List.getElem_of_mem hz
              rw [List.getElem_drop]
              exact hJ.out _ _ (by omega)))
            have hxd : decide (x < y) = false := decide_eq_false hxy
            clear hJ HST hy HE
            go_wp2_with fail
            refine wp_region_held_drew (S := (fun w' : World => w'.cell? (xd.add i) = some (.int .i64 x) ∧ w'.cell? (rd.add k) = some (.int .i64 y))) (by kernel_rfl) HSC.out (fun hHeld => ?_)
            refine wpAnyH_take (i := 0) (oi := ⟨_, _, _, _, _, _⟩) (v := ?_) rfl (by kernel_rfl) (by kernel_rfl) (by kernel_rfl) (fun _ _ _ h => h) (Or.inl ⟨by rfl, ?_⟩) (by assumption) ?_
            rotate_left
            · intro w' hSw; (try dsimp only at hSw); go_simp; (try with_reducible rfl)
            try simp only [Act.put, List.setIfInBounds_toArray, List.set_cons_zero, List.set_cons_succ]
            refine wpAnyH_take (i := 1) (oi := ⟨_, _, _, _, _, _⟩) (v := ?_) rfl (by kernel_rfl) (by kernel_rfl) (by kernel_rfl) (fun _ _ _ h => h) (Or.inl ⟨by rfl, ?_⟩) (by assumption) ?_
            rotate_left
            · intro w' hSw; (try dsimp only at hSw); go_simp; (try with_reducible rfl)
            try simp only [Act.put, List.setIfInBounds_toArray, List.set_cons_zero, List.set_cons_succ]
            refine wpAnyH_take (i := 2) (oi := ⟨_, _, _, _, _, _⟩) (v := ?_) rfl (by kernel_rfl) (by kernel_rfl) (by kernel_rfl) (fun _ _ _ h => h) (Or.inl ⟨by rfl, ?_⟩) (by assumption) ?_
            rotate_left
            · intro w' hSw; (try dsimp only at hSw); go_simp; (try with_reducible rfl)
            try simp only [Act.put, List.setIfInBounds_toArray, List.set_cons_zero, List.set_cons_succ]
            refine wpAnyH_take (i := 3) (oi := ⟨_, _, _, _, _, _⟩) (v := ?_) rfl (by kernel_rfl) (by kernel_rfl) (by kernel_rfl) (fun _ _ _ h => h) (Or.inl ⟨by rfl, ?_⟩) (by assumption) ?_
            rotate_left
            · intro w' hSw; (try dsimp only at hSw); go_simp; (try with_reducible rfl)
            try simp only [Act.put, List.setIfInBounds_toArray, List.set_cons_zero, List.set_cons_succ]
            refine wpAnyH_take (i := 4) (oi := ⟨_, _, _, _, _, _⟩) (v := ?_) rfl (by kernel_rfl) (by kernel_rfl) (by kernel_rfl) (fun _ _ _ h => h) (Or.inl ⟨by rfl, ?_⟩) (by assumption) ?_
            rotate_left
            · intro w' hSw; (try dsimp only at hSw); go_simp; (try with_reducible rfl)
            try simp only [Act.put, List.setIfInBounds_toArray, List.set_cons_zero, List.set_cons_succ]
            refine wpAnyH_take (i := 5) (oi := ⟨_, _, _, _, _, _⟩) (v := ?_) rfl (by kernel_rfl) (by kernel_rfl) (by kernel_rfl) (fun _ _ _ h => h) (Or.inl ⟨by rfl, ?_⟩) (by assumption) ?_
            rotate_left
            · intro w' hSw; (try dsimp only at hSw); go_simp; (try with_reducible rfl)
            try simp only [Act.put, List.setIfInBounds_toArray, List.set_cons_zero, List.set_cons_succ]
            refine wpAnyH_take (i := 6) (oi := ⟨_, _, _, _, _, _⟩) (v := ?_) rfl (by kernel_rfl) (by kernel_rfl) (by kernel_rfl) (fun _ _ _ h => h) (Or.inl ⟨by rfl, ?_⟩) (by assumption) ?_
            rotate_left
            · intro w' hSw; (try dsimp only at hSw); go_simp; (try with_reducible rfl)
            try simp only [Act.put, List.setIfInBounds_toArray, List.set_cons_zero, List.set_cons_succ]
            refine wpAnyH_take (i := 7) (oi := ⟨_, _, _, _, _, _⟩) (v := ?_) rfl (by kernel_rfl) (by kernel_rfl) (by kernel_rfl) (fun _ _ _ h => h) (Or.inl ⟨by rfl, ?_⟩) (by assumption) ?_
            rotate_left
            · intro w' hSw; (try dsimp only at hSw); go_simp; (try with_reducible rfl)
            try simp only [Act.put, List.setIfInBounds_toArray, List.set_cons_zero, List.set_cons_succ]
            refine wpAnyH_take (i := 8) (oi := ⟨_, _, _, _, _, _⟩) (v := ?_) rfl (by kernel_rfl) (by kernel_rfl) (by kernel_rfl) (fun _ _ _ h => h) (Or.inl ⟨by rfl, ?_⟩) (by assumption) ?_
            rotate_left
            · intro w' hSw; (try dsimp only at hSw); go_simp; (try with_reducible rfl)
            try simp only [Act.put, List.setIfInBounds_toArray, List.set_cons_zero, List.set_cons_succ]
            refine wpAnyH_take (i := 9) (oi := ⟨_, _, _, _, _, _⟩) (v := ?_) rfl (by kernel_rfl) (by kernel_rfl) (by kernel_rfl) (fun _ _ _ h => h) (Or.inl ⟨by rfl, ?_⟩) (by assumption) ?_
            rotate_left
            · intro w' hSw; (try dsimp only at hSw); go_simp; (try with_reducible rfl)
            try simp only [Act.put, List.setIfInBounds_toArray, List.set_cons_zero, List.set_cons_succ]
            refine wpAnyH_take (i := 10) (oi := ⟨_, _, _, _, _, _⟩) (v := ?_) rfl (by kernel_rfl) (by kernel_rfl) (by kernel_rfl) (fun _ _ _ h => h) (Or.inl ⟨by rfl, ?_⟩) (by assumption) ?_
            rotate_left
            · intro w' hSw; (try dsimp only at hSw); go_simp; (try with_reducible rfl)
            try simp only [Act.put, List.setIfInBounds_toArray, List.set_cons_zero, List.set_cons_succ]
            refine wpAnyH_take (i := 11) (oi := ⟨_, _, _, _, _, _⟩) (v := ?_) rfl (by kernel_rfl) (by kernel_rfl) (by kernel_rfl) (fun _ _ _ h => h) (Or.inl ⟨by rfl, ?_⟩) (by assumption) ?_
            rotate_left
            · intro w' hSw; (try dsimp only at hSw); go_simp; (try with_reducible rfl)
            try simp only [Act.put, List.setIfInBounds_toArray, List.set_cons_zero, List.set_cons_succ]
            refine wpAnyH_take (i := 12) (oi := ⟨_, _, _, _, _, _⟩) (v := ?_) rfl (by kernel_rfl) (by kernel_rfl) (by kernel_rfl) (fun _ _ _ h => h) (Or.inl ⟨by rfl, ?_⟩) (by assumption) ?_
            rotate_left
            · intro w' hSw; (try dsimp only at hSw); go_simp; (try with_reducible rfl)
            try simp only [Act.put, List.setIfInBounds_toArray, List.set_cons_zero, List.set_cons_succ]
            refine wpAnyH_take (i := 13) (oi := ⟨_, _, _, _, _, _⟩) (v := ?_) rfl (by kernel_rfl) (by kernel_rfl) (by kernel_rfl) (fun _ _ _ h => h) (Or.inl ⟨by rfl, ?_⟩) (by assumption) ?_
            rotate_left
            · intro w' hSw; (try dsimp only at hSw); go_simp; (try with_reducible rfl)
            try simp only [Act.put, List.setIfInBounds_toArray, List.set_cons_zero, List.set_cons_succ]
            refine wpAnyH_done (by kernel_rfl) ?_ _
            clear hHeld
            obtain ⟨t, Ht⟩ : ∃ t, Hid (t = r.take (k + 1)) := ⟨_, Lib.hid rfl⟩
            obtain ⟨u, Hu⟩ : ∃ u, Hid (u = r.drop (k + 1)) := ⟨_, Lib.hid rfl⟩
            have htl : Hid (t.length = (k + 1)) := Lib.hid (by rw [Ht.out, List.length_take]; omega)
            have WD := Lib.hid hB.out.drew
            have E0 := Lib.hid (Below.refl wr.drew.drew.heap.size wr.drew.drew)
            have HXD : Hid (∀ w', Below wr.drew.drew.heap.size wr.drew.drew w' → (fun w' : World => w'.cell? (xd.add i) = some (.int .i64 x)) w') := Lib.hid (fun w' hb => HX.out w' (hB.out.drew.drew.trans (hb.mono hB.out.size)))
            have RK : Hid (IntsAt (fun _ => False) wr.drew.drew (some rd) t) := Lib.hid (by
              rw [Ht.out]
              exact rows_take (HR.out _ hB.out.drew.drew) _)
            go_wp2_with fail
            refine wp_region_held_drew (S := (fun w' : World => w'.cell? (xd.add i) = some (.int .i64 x))) (by kernel_rfl) (HXD.out _ E0.out) (fun hHeld => ?_)
            refine wpAnyH_take (i := 1) (oi := ⟨_, _, _, _, _, _⟩) (v := ?_) rfl (by kernel_rfl) (by kernel_rfl) (by kernel_rfl) (fun _ _ _ h => h) (Or.inl ⟨by rfl, ?_⟩) (by assumption) ?_
            rotate_left
            · intro w' hSw; (try dsimp only at hSw); go_simp; (try with_reducible rfl)
            try simp only [Act.put, List.setIfInBounds_toArray, List.set_cons_zero, List.set_cons_succ]
            refine wpAnyH_take (i := 2) (oi := ⟨_, _, _, _, _, _⟩) (v := ?_) rfl (by kernel_rfl) (by kernel_rfl) (by kernel_rfl) (fun _ _ _ h => h) (Or.inl ⟨by rfl, ?_⟩) (by assumption) ?_
            rotate_left
            · intro w' hSw; (try dsimp only at hSw); go_simp; (try with_reducible rfl)
            try simp only [Act.put, List.setIfInBounds_toArray, List.set_cons_zero, List.set_cons_succ]
            refine wpAnyH_take (i := 3) (oi := ⟨_, _, _, _, _, _⟩) (v := ?_) rfl (by kernel_rfl) (by kernel_rfl) (by kernel_rfl) (fun _ _ _ h => h) (Or.inl ⟨by rfl, ?_⟩) (by assumption) ?_
            rotate_left
            · intro w' hSw; (try dsimp only at hSw); go_simp; (try with_reducible rfl)
            try simp only [Act.put, List.setIfInBounds_toArray, List.set_cons_zero, List.set_cons_succ]
            refine wpAnyH_take (i := 5) (oi := ⟨_, _, _, _, _, _⟩) (v := ?_) rfl (by kernel_rfl) (by kernel_rfl) (by kernel_rfl) (fun _ _ _ h => h) (Or.inl ⟨by rfl, ?_⟩) (by assumption) ?_
            rotate_left
            · intro w' hSw; (try dsimp only at hSw); go_simp; (try with_reducible rfl)
            try simp only [Act.put, List.setIfInBounds_toArray, List.set_cons_zero, List.set_cons_succ]
            refine wpAnyH_take (i := 6) (oi := ⟨_, _, _, _, _, _⟩) (v := ?_) rfl (by kernel_rfl) (by kernel_rfl) (by kernel_rfl) (fun _ _ _ h => h) (Or.inl ⟨by rfl, ?_⟩) (by assumption) ?_
            rotate_left
            · intro w' hSw; (try dsimp only at hSw); go_simp; (try with_reducible rfl)
            try simp only [Act.put, List.setIfInBounds_toArray, List.set_cons_zero, List.set_cons_succ]
            refine wpAnyH_take (i := 7) (oi := ⟨_, _, _, _, _, _⟩) (v := ?_) rfl (by kernel_rfl) (by kernel_rfl) (by kernel_rfl) (fun _ _ _ h => h) (Or.inl ⟨by rfl, ?_⟩) (by assumption) ?_
            rotate_left
            · intro w' hSw; (try dsimp only at hSw); go_simp; (try with_reducible rfl)
            try simp only [Act.put, List.setIfInBounds_toArray, List.set_cons_zero, List.set_cons_succ]
            refine wpAnyH_take (i := 8) (oi := ⟨_, _, _, _, _, _⟩) (v := ?_) rfl (by kernel_rfl) (by kernel_rfl) (by kernel_rfl) (fun _ _ _ h => h) (Or.inl ⟨by rfl, ?_⟩) (by assumption) ?_
            rotate_left
            · intro w' hSw; (try dsimp only at hSw); go_simp; (try with_reducible rfl)
            try simp only [Act.put, List.setIfInBounds_toArray, List.set_cons_zero, List.set_cons_succ]
            refine wpAnyH_ready (rs := [0, 9]) (by kernel_rfl) (by simp) ?_
            refine (AllReadyH.cons (o := ⟨_, _, _, _, _, _⟩) rfl (fun K9 hK9 => ?_) (AllReadyH.cons (o := ⟨_, _, _, _, _, _⟩) rfl (fun K9 hK9 => ?_) AllReadyH.nil))
            · refine step_build0 rfl 35 rfl 3 i0 1 _ Try.underlying35 hi (Nat.le_refl _) ?_
              intro va p1 ho hb
              have E1 := Lib.hid (E0.out.trans (hb.mono E0.out.size))
              have OA := Lib.hid (ho.mono E0.out.size)
              clear ho hb
              refine hK9.out _ _ (HXD.out _ E1.out) (fun hHeld => ?_)
              clear hK9 K9
              try simp only [Act.put, List.setIfInBounds_toArray, List.set_cons_zero, List.set_cons_succ]
              refine wpAnyH_ready (rs := [4, 9]) (by kernel_rfl) (by simp) ?_
              refine (AllReadyH.cons (o := ⟨_, _, _, _, _, _⟩) rfl (fun K9 hK9 => ?_) (AllReadyH.cons (o := ⟨_, _, _, _, _, _⟩) rfl (fun K9 hK9 => ?_) AllReadyH.nil))
              · refine step_append_ownN (f := intc) intc_len intc_flat (by decide) rfl (.tmp 31) (.tmp 34) 35 rfl wr.drew.drew.heap.size 3 i0 zI 8 Try.underlying35 hi hz0 hz1 hz2 rfl va 0 [] rfl OA.out (some rd) rc t (k + 1) htl.out HRA.out (RowsAt.below RK.out E1.out) rfl (by unfold maxLen; omega) (by omega) E1.out.size ?_
                intro v2 p2 ho hg _
                have E2 := Lib.hid (E1.out.grown hg E1.out.size (fun q hq => (OA.out.lt hq).1))
                have O2 : Hid (OwnW p2 wr.drew.drew.heap.size 3 1 v2 (k + 1) (t.flatMap intc)) := Lib.hid (by have h := ho; rw [Nat.zero_add, List.nil_append] at h; exact h)
                clear ho hg
                refine hK9.out _ _ (HXD.out _ E2.out) (fun hHeld => ?_)
                clear hK9 K9
                try simp only [Act.put, List.setIfInBounds_toArray, List.set_cons_zero, List.set_cons_succ]
                refine wpAnyH_ready (rs := [9]) (by kernel_rfl) (by simp) ?_
                refine AllReadyH.cons (o := ⟨_, _, _, _, _, _⟩) rfl (fun K9 hK9 => ?_) AllReadyH.nil
                refine step_build1 (f := intc) (m := 1) rfl 35 (.tmp 39) rfl 3 i0 zI Try.underlying35 hi hz0 hz1 (by decide) (by decide) x _ rfl (fillI x) ?_
                intro gb p3 nb hb hg1 hg2
                have E3 := Lib.hid (E2.out.trans (hb.mono E2.out.size))
                have NB := Lib.hid nb
                have GB := Lib.hid hg2
                have O2 := Lib.hid (OwnW.below O2.out hb)
                clear nb hb hg1 hg2
                refine hK9.out _ _ (HXD.out _ E3.out) (fun hHeld => ?_)
                clear hK9 K9
                try simp only [Act.put, List.setIfInBounds_toArray, List.set_cons_zero, List.set_cons_succ]
                refine wpAnyH_ready (rs := [10]) (by kernel_rfl) (by simp) ?_
                refine AllReadyH.cons (o := ⟨_, _, _, _, _, _⟩) rfl (fun K9 hK9 => ?_) AllReadyH.nil
                refine step_append_ownN (f := intc) intc_len intc_flat (by decide) rfl (.tmp 35) (.tmp 40) 35 rfl wr.drew.drew.heap.size 3 i0 zI 8 Try.underlying35 hi hz0 hz1 hz2 rfl v2 (k + 1) t rfl O2.out (some ⟨gb, 0, none⟩) 1 [x] 1 rfl (fun h => by cases h) (NB.out.mono (fun _ h => h.elim)) rfl (by unfold maxLen; omega) (by omega) E3.out.size ?_
                intro v9 w9 ho hg _
                have EZ := Lib.hid (E3.out.grown hg E3.out.size (fun q hq => (O2.out.lt hq).1))
                have OZ := Lib.hid ho
                clear ho hg
                refine hK9.out _ _ (HXD.out _ EZ.out) (fun hHeld => ?_)
                clear hK9 K9
                try simp only [Act.put, List.setIfInBounds_toArray, List.set_cons_zero, List.set_cons_succ]
                refine wpAnyH_take (i := 11) (oi := ⟨_, _, _, _, _, _⟩) (v := ?_) rfl (by kernel_rfl) (by kernel_rfl) (by kernel_rfl) (fun _ _ _ h => h) (Or.inl ⟨by rfl, ?_⟩) (by assumption) ?_
                rotate_left
                · intro w' hSw; (try dsimp only at hSw); go_simp; (try with_reducible rfl)
                try simp only [Act.put, List.setIfInBounds_toArray, List.set_cons_zero, List.set_cons_succ]
                refine wpAnyH_done (by kernel_rfl) ?_ _
                clear hHeld
                obtain ⟨B, c2, hS, hB0, hrows⟩ := cut_from (f := intc) (m := 1) (some rd) rc (k + 1) r.length HRA.out
                have hul : u.length = r.length - (k + 1) := by rw [Hu.out, List.length_drop]
                have HRU : Hid (IntsAt (fun _ => False) w9 B u) := Lib.hid (by
                  rw [Hu.out]
                  exact hrows _ _ r (HR.out _ (hB.out.drew.drew.trans (EZ.out.mono hB.out.size))) (by omega) hk)
                rw [← hul] at hS
                have HB0 := Lib.hid hB0
                have hulI : u.length ≤ 1000 := by omega
                have HTT : Hid ((t ++ [x] ++ u).Perm (l.take (i + 1)) ∧ (t ++ [x] ++ u).Pairwise (· ≤ ·)) := Lib.hid (by rw [Ht.out, Hu.out]; exact HT.out)
                have HLL : Hid ((t ++ [x] ++ u).length = (k + 1) + 1 + u.length) := Lib.hid (by rw [List.length_append, List.length_append, List.length_singleton, htl.out])
                have EW : Hid (Below W.heap.size W w9) := Lib.hid (hI.out.below.trans ((hB.out.drew.drew.trans (EZ.out.mono hB.out.size)).mono hI.out.below.size))
                have HQ : Hid (W.heap.size ≤ wr.drew.drew.heap.size) := Lib.hid (Nat.le_trans hI.out.below.size hB.out.size)
                have HQ9 : Hid (wr.drew.drew.heap.size ≤ w9.heap.size) := Lib.hid EZ.out.size
                have hHS := Lib.hid hS
                have hkN : (k + 1) ≤ r.length := hk
                have hkc : (k + 1) ≤ 1000 := by omega
                clear hS hB0 hrows hul HT HI HRA HXD RK NB WD htl Ht Hu
                go_wp2_with (first | (at_builtin; (refine wpList_append_ownW (f := intc) intc_len intc_flat (by decide) rfl (.tmp 42) (.tmp 45) 35 rfl wr.drew.drew.heap.size 3 i0 zI 8 Try.underlying35 hi hz0 hz1 hz2 rfl v9 ((k + 1) + 1) (t ++ [x]) rfl OZ.out B c2 u HB0.out HRU.out rfl (by unfold maxLen; omega) (by omega) HQ9.out ?_)) | (refine wpList_from rfl (.tmp 43) (.tmp 44) 35 rfl i0 1 Try.underlying35 hi hz1 (some rd) r.length rc (k + 1) ((k : Int) + 1) (by omega) rfl rfl hkN _ hHS.out ?_))
                intro v8 w8 ho8 hg8 _
                have O8 : OwnI w8 W.heap.size v8 (t ++ [x] ++ u) := by
                  show OwnW w8 _ _ _ v8 (t ++ [x] ++ u).length _
                  rw [HLL.out]
                  simpa [List.append_assoc] using ho8.mono HQ.out
                have NX : Hid (RisI l (i + 1) W v8 (t ++ [x] ++ u) w8) := Lib.hid ⟨O8, HTT.out.1, HTT.out.2, EW.out.grown hg8 EW.out.size (fun q hq => Nat.le_trans HQ.out (OZ.out.lt hq).1)⟩
                have NL : (t ++ [x] ++ u).length ≤ 1000 := by
                  rw [HTT.out.1.length_eq, List.length_take]
                  omega
                clear ho8 hg8 O8 EZ OZ HTT HLL hHS
                go_wp2_with fail
                go_roundw
                case rel => exact ⟨i + 1, v8, _, by omega, by go_num, rfl, NL, NX⟩
                case measure => first | (simp [RowKit.intOf]; done) | (simp [RowKit.intOf]; omega)
              · refine step_build1 (f := intc) (m := 1) rfl 35 (.tmp 39) rfl 3 i0 zI Try.underlying35 hi hz0 hz1 (by decide) (by decide) x _ rfl (fillI x) ?_
                intro gb p5 nb hb hg1 hg2
                have E5 := Lib.hid (E1.out.trans (hb.mono E1.out.size))
                have NB := Lib.hid nb
                have GB := Lib.hid hg2
                have APN : Hid (∀ k, va.ownBlock = some k → k ≠ gb) := Lib.hid (fun k hk e => by have h1 := (OA.out.lt hk).2; omega)
                have OA := Lib.hid (OwnW.below OA.out hb)
                clear nb hb hg1 hg2
                refine hK9.out _ _ (HXD.out _ E5.out) (fun hHeld => ?_)
                clear hK9 K9
                try simp only [Act.put, List.setIfInBounds_toArray, List.set_cons_zero, List.set_cons_succ]
                refine wpAnyH_ready (rs := [4]) (by kernel_rfl) (by simp) ?_
                refine AllReadyH.cons (o := ⟨_, _, _, _, _, _⟩) rfl (fun K9 hK9 => ?_) AllReadyH.nil
                refine step_append_ownN (f := intc) intc_len intc_flat (by decide) rfl (.tmp 31) (.tmp 34) 35 rfl wr.drew.drew.heap.size 3 i0 zI 8 Try.underlying35 hi hz0 hz1 hz2 rfl va 0 [] rfl OA.out (some rd) rc t (k + 1) htl.out HRA.out (RowsAt.below RK.out E5.out) rfl (by unfold maxLen; omega) (by omega) E5.out.size ?_
                intro v2 p6 ho hg _
                have E6 := Lib.hid (E5.out.grown hg E5.out.size (fun q hq => (OA.out.lt hq).1))
                have O2 : Hid (OwnW p6 wr.drew.drew.heap.size 3 1 v2 (k + 1) (t.flatMap intc)) := Lib.hid (by have h := ho; rw [Nat.zero_add, List.nil_append] at h; exact h)
                have NB := Lib.hid (RowsAt.keep (F := fun k => va.ownBlock = some k) NB.out ((Keep.refl _ _).grown hg (fun q hq => .inl hq)) (fun k hk => APN.out k hk))
                clear ho hg
                refine hK9.out _ _ (HXD.out _ E6.out) (fun hHeld => ?_)
                clear hK9 K9
                try simp only [Act.put, List.setIfInBounds_toArray, List.set_cons_zero, List.set_cons_succ]
                refine wpAnyH_ready (rs := [10]) (by kernel_rfl) (by simp) ?_
                refine AllReadyH.cons (o := ⟨_, _, _, _, _, _⟩) rfl (fun K9 hK9 => ?_) AllReadyH.nil
                refine step_append_ownN (f := intc) intc_len intc_flat (by decide) rfl (.tmp 35) (.tmp 40) 35 rfl wr.drew.drew.heap.size 3 i0 zI 8 Try.underlying35 hi hz0 hz1 hz2 rfl v2 (k + 1) t rfl O2.out (some ⟨gb, 0, none⟩) 1 [x] 1 rfl (fun h => by cases h) (NB.out.mono (fun _ h => h.elim)) rfl (by unfold maxLen; omega) (by omega) E6.out.size ?_
                intro v9 w9 ho hg _
                have EZ := Lib.hid (E6.out.grown hg E6.out.size (fun q hq => (O2.out.lt hq).1))
                have OZ := Lib.hid ho
                clear ho hg
                refine hK9.out _ _ (HXD.out _ EZ.out) (fun hHeld => ?_)
                clear hK9 K9
                try simp only [Act.put, List.setIfInBounds_toArray, List.set_cons_zero, List.set_cons_succ]
                refine wpAnyH_take (i := 11) (oi := ⟨_, _, _, _, _, _⟩) (v := ?_) rfl (by kernel_rfl) (by kernel_rfl) (by kernel_rfl) (fun _ _ _ h => h) (Or.inl ⟨by rfl, ?_⟩) (by assumption) ?_
                rotate_left
                · intro w' hSw; (try dsimp only at hSw); go_simp; (try with_reducible rfl)
                try simp only [Act.put, List.setIfInBounds_toArray, List.set_cons_zero, List.set_cons_succ]
                refine wpAnyH_done (by kernel_rfl) ?_ _
                clear hHeld
                obtain ⟨B, c2, hS, hB0, hrows⟩ := cut_from (f := intc) (m := 1) (some rd) rc (k + 1) r.length HRA.out
                have hul : u.length = r.length - (k + 1) := by rw [Hu.out, List.length_drop]
                have HRU : Hid (IntsAt (fun _ => False) w9 B u) := Lib.hid (by
                  rw [Hu.out]
                  exact hrows _ _ r (HR.out _ (hB.out.drew.drew.trans (EZ.out.mono hB.out.size))) (by omega) hk)
                rw [← hul] at hS
                have HB0 := Lib.hid hB0
                have hulI : u.length ≤ 1000 := by omega
                have HTT : Hid ((t ++ [x] ++ u).Perm (l.take (i + 1)) ∧ (t ++ [x] ++ u).Pairwise (· ≤ ·)) := Lib.hid (by rw [Ht.out, Hu.out]; exact HT.out)
                have HLL : Hid ((t ++ [x] ++ u).length = (k + 1) + 1 + u.length) := Lib.hid (by rw [List.length_append, List.length_append, List.length_singleton, htl.out])
                have EW : Hid (Below W.heap.size W w9) := Lib.hid (hI.out.below.trans ((hB.out.drew.drew.trans (EZ.out.mono hB.out.size)).mono hI.out.below.size))
                have HQ : Hid (W.heap.size ≤ wr.drew.drew.heap.size) := Lib.hid (Nat.le_trans hI.out.below.size hB.out.size)
                have HQ9 : Hid (wr.drew.drew.heap.size ≤ w9.heap.size) := Lib.hid EZ.out.size
                have hHS := Lib.hid hS
                have hkN : (k + 1) ≤ r.length := hk
                have hkc : (k + 1) ≤ 1000 := by omega
                clear hS hB0 hrows hul HT HI HRA HXD RK NB WD htl Ht Hu
                go_wp2_with (first | (at_builtin; (refine wpList_append_ownW (f := intc) intc_len intc_flat (by decide) rfl (.tmp 42) (.tmp 45) 35 rfl wr.drew.drew.heap.size 3 i0 zI 8 Try.underlying35 hi hz0 hz1 hz2 rfl v9 ((k + 1) + 1) (t ++ [x]) rfl OZ.out B c2 u HB0.out HRU.out rfl (by unfold maxLen; omega) (by omega) HQ9.out ?_)) | (refine wpList_from rfl (.tmp 43) (.tmp 44) 35 rfl i0 1 Try.underlying35 hi hz1 (some rd) r.length rc (k + 1) ((k : Int) + 1) (by omega) rfl rfl hkN _ hHS.out ?_))
                intro v8 w8 ho8 hg8 _
                have O8 : OwnI w8 W.heap.size v8 (t ++ [x] ++ u) := by
                  show OwnW w8 _ _ _ v8 (t ++ [x] ++ u).length _
                  rw [HLL.out]
                  simpa [List.append_assoc] using ho8.mono HQ.out
                have NX : Hid (RisI l (i + 1) W v8 (t ++ [x] ++ u) w8) := Lib.hid ⟨O8, HTT.out.1, HTT.out.2, EW.out.grown hg8 EW.out.size (fun q hq => Nat.le_trans HQ.out (OZ.out.lt hq).1)⟩
                have NL : (t ++ [x] ++ u).length ≤ 1000 := by
                  rw [HTT.out.1.length_eq, List.length_take]
                  omega
                clear ho8 hg8 O8 EZ OZ HTT HLL hHS
                go_wp2_with fail
                go_roundw
                case rel => exact ⟨i + 1, v8, _, by omega, by go_num, rfl, NL, NX⟩
                case measure => first | (simp [RowKit.intOf]; done) | (simp [RowKit.intOf]; omega)
            · refine step_build1 (f := intc) (m := 1) rfl 35 (.tmp 39) rfl 3 i0 zI Try.underlying35 hi hz0 hz1 (by decide) (by decide) x _ rfl (fillI x) ?_
              intro gb p8 nb hb hg1 hg2
              have E8 := Lib.hid (E0.out.trans (hb.mono E0.out.size))
              have NB := Lib.hid nb
              have GB := Lib.hid hg2
              clear nb hb hg1 hg2
              refine hK9.out _ _ (HXD.out _ E8.out) (fun hHeld => ?_)
              clear hK9 K9
              try simp only [Act.put, List.setIfInBounds_toArray, List.set_cons_zero, List.set_cons_succ]
              refine wpAnyH_ready (rs := [0]) (by kernel_rfl) (by simp) ?_
              refine AllReadyH.cons (o := ⟨_, _, _, _, _, _⟩) rfl (fun K9 hK9 => ?_) AllReadyH.nil
              refine step_build0 rfl 35 rfl 3 i0 1 _ Try.underlying35 hi (Nat.le_refl _) ?_
              intro va p9 ho hb
              have E9 := Lib.hid (E8.out.trans (hb.mono E8.out.size))
              have OA := Lib.hid (ho.mono E8.out.size)
              have APN : Hid (∀ k, va.ownBlock = some k → k ≠ gb) := Lib.hid (fun k hk e => by have h1 := (OwnW.lt ho hk).1; have h2 := GB.out; omega)
              have NB := Lib.hid (RowsAt.below NB.out hb)
              clear ho hb
              refine hK9.out _ _ (HXD.out _ E9.out) (fun hHeld => ?_)
              clear hK9 K9
              try simp only [Act.put, List.setIfInBounds_toArray, List.set_cons_zero, List.set_cons_succ]
              refine wpAnyH_ready (rs := [4]) (by kernel_rfl) (by simp) ?_
              refine AllReadyH.cons (o := ⟨_, _, _, _, _, _⟩) rfl (fun K9 hK9 => ?_) AllReadyH.nil
              refine step_append_ownN (f := intc) intc_len intc_flat (by decide) rfl (.tmp 31) (.tmp 34) 35 rfl wr.drew.drew.heap.size 3 i0 zI 8 Try.underlying35 hi hz0 hz1 hz2 rfl va 0 [] rfl OA.out (some rd) rc t (k + 1) htl.out HRA.out (RowsAt.below RK.out E9.out) rfl (by unfold maxLen; omega) (by omega) E9.out.size ?_
              intro v2 p10 ho hg _
              have E10 := Lib.hid (E9.out.grown hg E9.out.size (fun q hq => (OA.out.lt hq).1))
              have O2 : Hid (OwnW p10 wr.drew.drew.heap.size 3 1 v2 (k + 1) (t.flatMap intc)) := Lib.hid (by have h := ho; rw [Nat.zero_add, List.nil_append] at h; exact h)
              have NB := Lib.hid (RowsAt.keep (F := fun k => va.ownBlock = some k) NB.out ((Keep.refl _ _).grown hg (fun q hq => .inl hq)) (fun k hk => APN.out k hk))
              clear ho hg
              refine hK9.out _ _ (HXD.out _ E10.out) (fun hHeld => ?_)
              clear hK9 K9
              try simp only [Act.put, List.setIfInBounds_toArray, List.set_cons_zero, List.set_cons_succ]
              refine wpAnyH_ready (rs := [10]) (by kernel_rfl) (by simp) ?_
              refine AllReadyH.cons (o := ⟨_, _, _, _, _, _⟩) rfl (fun K9 hK9 => ?_) AllReadyH.nil
              refine step_append_ownN (f := intc) intc_len intc_flat (by decide) rfl (.tmp 35) (.tmp 40) 35 rfl wr.drew.drew.heap.size 3 i0 zI 8 Try.underlying35 hi hz0 hz1 hz2 rfl v2 (k + 1) t rfl O2.out (some ⟨gb, 0, none⟩) 1 [x] 1 rfl (fun h => by cases h) (NB.out.mono (fun _ h => h.elim)) rfl (by unfold maxLen; omega) (by omega) E10.out.size ?_
              intro v9 w9 ho hg _
              have EZ := Lib.hid (E10.out.grown hg E10.out.size (fun q hq => (O2.out.lt hq).1))
              have OZ := Lib.hid ho
              clear ho hg
              refine hK9.out _ _ (HXD.out _ EZ.out) (fun hHeld => ?_)
              clear hK9 K9
              try simp only [Act.put, List.setIfInBounds_toArray, List.set_cons_zero, List.set_cons_succ]
              refine wpAnyH_take (i := 11) (oi := ⟨_, _, _, _, _, _⟩) (v := ?_) rfl (by kernel_rfl) (by kernel_rfl) (by kernel_rfl) (fun _ _ _ h => h) (Or.inl ⟨by rfl, ?_⟩) (by assumption) ?_
              rotate_left
              · intro w' hSw; (try dsimp only at hSw); go_simp; (try with_reducible rfl)
              try simp only [Act.put, List.setIfInBounds_toArray, List.set_cons_zero, List.set_cons_succ]
              refine wpAnyH_done (by kernel_rfl) ?_ _
              clear hHeld
              obtain ⟨B, c2, hS, hB0, hrows⟩ := cut_from (f := intc) (m := 1) (some rd) rc (k + 1) r.length HRA.out
              have hul : u.length = r.length - (k + 1) := by rw [Hu.out, List.length_drop]
              have HRU : Hid (IntsAt (fun _ => False) w9 B u) := Lib.hid (by
                rw [Hu.out]
                exact hrows _ _ r (HR.out _ (hB.out.drew.drew.trans (EZ.out.mono hB.out.size))) (by omega) hk)
              rw [← hul] at hS
              have HB0 := Lib.hid hB0
              have hulI : u.length ≤ 1000 := by omega
              have HTT : Hid ((t ++ [x] ++ u).Perm (l.take (i + 1)) ∧ (t ++ [x] ++ u).Pairwise (· ≤ ·)) := Lib.hid (by rw [Ht.out, Hu.out]; exact HT.out)
              have HLL : Hid ((t ++ [x] ++ u).length = (k + 1) + 1 + u.length) := Lib.hid (by rw [List.length_append, List.length_append, List.length_singleton, htl.out])
              have EW : Hid (Below W.heap.size W w9) := Lib.hid (hI.out.below.trans ((hB.out.drew.drew.trans (EZ.out.mono hB.out.size)).mono hI.out.below.size))
              have HQ : Hid (W.heap.size ≤ wr.drew.drew.heap.size) := Lib.hid (Nat.le_trans hI.out.below.size hB.out.size)
              have HQ9 : Hid (wr.drew.drew.heap.size ≤ w9.heap.size) := Lib.hid EZ.out.size
              have hHS := Lib.hid hS
              have hkN : (k + 1) ≤ r.length := hk
              have hkc : (k + 1) ≤ 1000 := by omega
              clear hS hB0 hrows hul HT HI HRA HXD RK NB WD htl Ht Hu
              go_wp2_with (first | (at_builtin; (refine wpList_append_ownW (f := intc) intc_len intc_flat (by decide) rfl (.tmp 42) (.tmp 45) 35 rfl wr.drew.drew.heap.size 3 i0 zI 8 Try.underlying35 hi hz0 hz1 hz2 rfl v9 ((k + 1) + 1) (t ++ [x]) rfl OZ.out B c2 u HB0.out HRU.out rfl (by unfold maxLen; omega) (by omega) HQ9.out ?_)) | (refine wpList_from rfl (.tmp 43) (.tmp 44) 35 rfl i0 1 Try.underlying35 hi hz1 (some rd) r.length rc (k + 1) ((k : Int) + 1) (by omega) rfl rfl hkN _ hHS.out ?_))
              intro v8 w8 ho8 hg8 _
              have O8 : OwnI w8 W.heap.size v8 (t ++ [x] ++ u) := by
                show OwnW w8 _ _ _ v8 (t ++ [x] ++ u).length _
                rw [HLL.out]
                simpa [List.append_assoc] using ho8.mono HQ.out
              have NX : Hid (RisI l (i + 1) W v8 (t ++ [x] ++ u) w8) := Lib.hid ⟨O8, HTT.out.1, HTT.out.2, EW.out.grown hg8 EW.out.size (fun q hq => Nat.le_trans HQ.out (OZ.out.lt hq).1)⟩
              have NL : (t ++ [x] ++ u).length ≤ 1000 := by
                rw [HTT.out.1.length_eq, List.length_take]
                omega
              clear ho8 hg8 O8 EZ OZ HTT HLL hHS
              go_wp2_with fail
              go_roundw
              case rel => exact ⟨i + 1, v8, _, by omega, by go_num, rfl, NL, NX⟩
              case measure => first | (simp [RowKit.intOf]; done) | (simp [RowKit.intOf]; omega)
    · obtain rfl : i = l.length := by omega
      have HD := Lib.hid (show RisR l W (.returned (.slice RA r.length rc)) wr from ⟨_, r, rfl, hI.out⟩)
      clear hI hRA
      go_wp2_with fail
      go_ret
      exact HD.out
end Go.Proofs.Ytonflknnlfffhaa
