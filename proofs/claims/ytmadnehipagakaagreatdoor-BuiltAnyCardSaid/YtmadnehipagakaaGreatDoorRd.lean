/- The reference's numbers: what folds. -/
import Derived.Test.YtmadnehipagakaaGreatDoorBt
import Derived.Test.YtmadnehipagakaaGreatDoorRb
import Derived.Test.YtmadnehipagakaaGreatDoorLv
namespace Go.Proofs.YtmadnehipagakaaGreatDoor
open Go.RowKit Go.Lib Go.Sort KP
theorem minO_ok2 {a b y : Int} (ha : okI a) (hb : okI b) (h : minO a b = some y) : okI y := by unfold minO at h; injection h with h; subst h; split <;> assumption
theorem maxO_ok2 {a b y : Int} (ha : okI a) (hb : okI b) (h : maxO a b = some y) : okI y := by unfold maxO at h; injection h with h; subst h; split <;> assumption
theorem subO_ok2 {a b y : Int} (_ : okI a) (_ : okI b) (h : subO a b = some y) : okI y := lim_ok h
theorem addO_ok2 {a b y : Int} (_ : okI a) (_ : okI b) (h : addO a b = some y) : okI y := lim_ok h
theorem mulO_ok2 {a b y : Int} (_ : okI a) (_ : okI b) (h : mulO a b = some y) : okI y := lim_ok h
theorem divO_ok2 {a b y : Int} (ha : okI a) (_ : okI b) (h : divO a b = some y) : okI y := divO_ok ha h
theorem modO_ok2 {a b y : Int} (ha : okI a) (_ : okI b) (h : modO a b = some y) : okI y := modO_ok ha h
theorem out_none {R : Option Int} (h : R = none) : Ending.returned (.tuple #[Vl.val v0, .int .i64 11]) = .returned (outW R) := by subst h; rfl
theorem out_some {R : Option Int} {x : Int} (h : R = some x) : Ending.returned (.tuple #[Vl.val (vI x), .int .i64 0]) = .returned (outW R) := by subst h; rfl
set_option maxRecDepth 100000 in
set_option maxHeartbeats 8000000 in
theorem rfold_div (A : Option Addr) (c : Nat) (l : List Vl) (w : World) (hv : ValsAt w A l) (h1 : 1 ≤ l.length) (hl : l.length ≤ 1000000) (hall : ∀ k (h : k < l.length), l[k].1 = 1) (hok : ∀ k (h : k < l.length), okI l[k].2.1) :
    Calls Tryz.prog 57 #[.string ⟨#[100, 105, 118]⟩, .slice A l.length c] w fun e w' => e = .returned (outW (foldO divO ((nums l).headD 0) (nums l).tail)) ∧ Below w.heap.size w w' := by
  have h0 : Hid (Below w.heap.size w (w.alloc (.cells #[.int .i64 0, .int .i64 0, .string ⟨#[]⟩] 26))) := Lib.hid ((Below.refl _ _).alloc (Nat.le_refl _) _)
  have V := Lib.hid (fun W (h : Below w.heap.size w W) => hv.below h)
  have AL := Lib.hid hall
  clear hv hall
  obtain ⟨n, hn⟩ : ∃ n, n = nums l := ⟨_, rfl⟩
  have hnl : n.length = l.length := by rw [hn]; unfold nums; simp
  rw [← hn]
  have CE : Hid (∀ W, Below w.heap.size w W → ∀ k (h : k < n.length), ∃ ad, A = some ad ∧ W.cell? ⟨(ad.add (k * 3)).block, (ad.add (k * 3)).off + 1, none⟩ = some (.int .i64 n[k])) := Lib.hid (fun W h k hk => by
    obtain ⟨ad, e, _, c1, _⟩ := (V.out W h).at (hnl ▸ hk)
    refine ⟨ad, e, c1.trans ?_⟩
    subst hn
    simp [nums])
  have MK : Hid (∀ k (h : k < n.length), okI n[k]) := Lib.hid (fun k h => by subst hn; simp [nums]; exact hok k (hnl ▸ h))
  have hn1 : 0 < n.length := by omega
  obtain ⟨R, hR⟩ : ∃ R, R = foldO divO (n.headD 0) n.tail := ⟨_, rfl⟩
  rw [← hR]
  obtain ⟨x0, hx0⟩ : ∃ x, x = n[0] := ⟨_, rfl⟩
  have HR : Hid (foldO divO x0 (n.drop 1) = R) := Lib.hid (by
    rw [hR, hx0]
    obtain ⟨a, n', rfl⟩ := List.exists_cons_of_length_pos hn1
    rfl)
  have HX0 := Lib.hid (show okI x0 by rw [hx0]; exact MK.out 0 hn1)
  clear hn hR hok
  have hlI : (l.length : Int) ≤ 1000000 := by omega
  go_enter Tryz.func57, Tryz.ntmps57
  go_wp2_with fail
  go_loopw [6] (fun i wr => ∃ k : Nat, k ≤ l.length ∧ i = .int .i64 k ∧ wr = w.alloc (.cells #[.int .i64 0, .int .i64 0, .string ⟨#[]⟩] 26)) (fun i _ => l.length - (intOf i).toNat)
  case atStart => exact ⟨0, by omega, rfl, rfl⟩
  case round =>
    obtain ⟨k, hk, rfl, rfl⟩ := hrel
    by_cases hlt : k < l.length
    · have hltI : (k : Int) < (l.length : Int) := by omega
      obtain ⟨ad, rfl, c0, c1, c2⟩ := (V.out _ h0.out).at hlt
      have h1 := AL.out k hlt
      generalize l[k] = v at *
      obtain ⟨a, b, s2⟩ := v
      dsimp only at c0 c1 c2 h1
      subst h1
      go_wp2_with fail
      exact ⟨⟨k + 1, by omega, by go_num, by first | rfl | trivial⟩, by simp [intOf]; omega⟩
    · obtain rfl : k = l.length := by omega
      obtain ⟨wz, hwz⟩ : ∃ wz, wz = w.alloc (.cells #[.int .i64 0, .int .i64 0, .string ⟨#[]⟩] 26) := ⟨_, rfl⟩
      have HZ : Hid (wz.heap[w.heap.size]? = some (.cells #[.int .i64 0, .int .i64 0, .string ⟨#[]⟩] 26)) := Lib.hid (by rw [hwz]; exact heap_alloc_new w _)
      rw [← hwz] at h0 ⊢
      have hlz := Lib.hid (show w.heap.size < wz.heap.size by rw [hwz]; simp)
      clear V AL hwz
      have hlen := Lib.hid hnl
      have CM : Hid (∀ W, Below wz.heap.size wz W → ∀ k (h : k < n.length), ∃ ad, A = some ad ∧ W.cell? ⟨(ad.add (k * 3)).block, (ad.add (k * 3)).off + 1, none⟩ = some (.int .i64 n[k])) := Lib.hid (fun W h => CE.out W (h0.out.trans (h.mono h0.out.size)))
      obtain ⟨ad, rfl, hc⟩ := CM.out _ (Below.refl _ _) 0 hn1
      rw [← hx0] at hc
      have hc0 : wz.cell? ⟨ad.block, ad.off + 1, none⟩ = some (.int .i64 x0) := by simpa [Addr.add] using hc
      have hl1 : (1 : Int) ≤ (l.length : Int) := by omega
      have EZ := Lib.hid (Below.refl wz.heap.size wz)
      clear hc CE hx0
      rw [← hnl] at *
      go_wp2_with fail
      go_loopw [9, 10] (fun v i wr => ∃ (k : Nat) (x : Int), 1 ≤ k ∧ k ≤ n.length ∧ i = .int .i64 k ∧ v = .int .i64 x ∧ Hid (okI x) ∧ Hid (foldO divO x (n.drop k) = R) ∧ Hid (Below wz.heap.size wz wr)) (fun _ i _ => n.length - (intOf i).toNat)
      case atStart => exact ⟨1, x0, by omega, by omega, rfl, rfl, HX0, HR, Lib.hid (Below.refl _ _)⟩
      case round =>
        obtain ⟨k, x, hk1, hk, rfl, rfl, hx, hF, hB⟩ := hrel
        have EB := Lib.hid (EZ.out.trans (hB.out.mono EZ.out.size))
        obtain ⟨⟨_, _, _⟩, ⟨_, _, _⟩⟩ := new3g HZ.out EB.out
        have E10 := Lib.hid (h0.out.trans (EB.out.mono h0.out.size))
        by_cases hlt : k < n.length
        · have hltI : (k : Int) < (n.length : Int) := by omega
          obtain ⟨ad', e, c1⟩ := CM.out _ hB.out k hlt
          injection e with e
          subst e
          have hF2 := Lib.hid ((foldO_drop hlt).symm.trans hF.out)
          have hoy := Lib.hid (MK.out k hlt)
          obtain ⟨y, hy⟩ : ∃ y, y = n[k] := ⟨_, rfl⟩
          rw [← hy] at c1 hF2 hoy
          clear hy hF
          have hC := Lib.hid (fun W => two_div x y W hx.out hoy.out)
          cases ho : divO x y with
          | none =>
            have hC2 := Lib.hid (fun W => numV_no (hC.out W) ho)
            have hRn : Hid (R = none) := Lib.hid (by have := hF2.out; rw [ho] at this; exact this.symm)
            clear hC hF2 ho
            go_wp2_with fail
            refine (hC2.out _).mono ?_
            rintro e w' ⟨rfl, rfl⟩
            go_wp2_with fail
            exact bodyPost_ret (v := .tuple #[Vl.val v0, .int .i64 11]) (by simp [results, Tryz.results57, go_sem, *]) rfl ⟨out_none hRn.out, put3 E10.out⟩
          | some z =>
            have hC2 := Lib.hid (fun W => numV_yes (hC.out W) ho)
            have hF3 : Hid (foldO divO z (n.drop (k + 1)) = R) := Lib.hid (by have := hF2.out; rw [ho] at this; exact this)
            have hz := Lib.hid (divO_ok2 hx.out hoy.out ho)
            clear hC hF2 ho
            go_wp2_with fail
            refine (hC2.out _).mono ?_
            rintro e w' ⟨rfl, rfl⟩
            go_wp2_with fail
            exact ⟨⟨k + 1, z, by omega, by omega, by go_num, rfl, hz, hF3, hB⟩, by simp [intOf]; omega⟩
        · obtain rfl : k = n.length := by omega
          have hRs : Hid (R = some x) := Lib.hid (by have := hF.out; rw [List.drop_length] at this; exact this.symm)
          clear hF
          go_wp2_with fail
          refine (rInt_c x _).mono ?_
          rintro e w9 ⟨rfl, b9⟩
          have E11 := Lib.hid (EB.out.trans (b9.mono EB.out.size))
          obtain ⟨⟨_, _, _⟩, ⟨_, _, _⟩⟩ := new3g HZ.out E11.out
          have E12 := Lib.hid (h0.out.trans (E11.out.mono h0.out.size))
          clear b9
          go_wp2_with fail
          exact bodyPost_ret (v := .tuple #[Vl.val (vI x), .int .i64 0]) (by simp [results, Tryz.results57, go_sem, *]) rfl ⟨out_some hRs.out, put3 E12.out⟩
set_option maxRecDepth 100000 in
set_option maxHeartbeats 8000000 in
theorem rfold_mod (A : Option Addr) (c : Nat) (l : List Vl) (w : World) (hv : ValsAt w A l) (h1 : 1 ≤ l.length) (hl : l.length ≤ 1000000) (hall : ∀ k (h : k < l.length), l[k].1 = 1) (hok : ∀ k (h : k < l.length), okI l[k].2.1) :
    Calls Tryz.prog 57 #[.string ⟨#[109, 111, 100]⟩, .slice A l.length c] w fun e w' => e = .returned (outW (foldO modO ((nums l).headD 0) (nums l).tail)) ∧ Below w.heap.size w w' := by
  have h0 : Hid (Below w.heap.size w (w.alloc (.cells #[.int .i64 0, .int .i64 0, .string ⟨#[]⟩] 26))) := Lib.hid ((Below.refl _ _).alloc (Nat.le_refl _) _)
  have V := Lib.hid (fun W (h : Below w.heap.size w W) => hv.below h)
  have AL := Lib.hid hall
  clear hv hall
  obtain ⟨n, hn⟩ : ∃ n, n = nums l := ⟨_, rfl⟩
  have hnl : n.length = l.length := by rw [hn]; unfold nums; simp
  rw [← hn]
  have CE : Hid (∀ W, Below w.heap.size w W → ∀ k (h : k < n.length), ∃ ad, A = some ad ∧ W.cell? ⟨(ad.add (k * 3)).block, (ad.add (k * 3)).off + 1, none⟩ = some (.int .i64 n[k])) := Lib.hid (fun W h k hk => by
    obtain ⟨ad, e, _, c1, _⟩ := (V.out W h).at (hnl ▸ hk)
    refine ⟨ad, e, c1.trans ?_⟩
    subst hn
    simp [nums])
  have MK : Hid (∀ k (h : k < n.length), okI n[k]) := Lib.hid (fun k h => by subst hn; simp [nums]; exact hok k (hnl ▸ h))
  have hn1 : 0 < n.length := by omega
  obtain ⟨R, hR⟩ : ∃ R, R = foldO modO (n.headD 0) n.tail := ⟨_, rfl⟩
  rw [← hR]
  obtain ⟨x0, hx0⟩ : ∃ x, x = n[0] := ⟨_, rfl⟩
  have HR : Hid (foldO modO x0 (n.drop 1) = R) := Lib.hid (by
    rw [hR, hx0]
    obtain ⟨a, n', rfl⟩ := List.exists_cons_of_length_pos hn1
    rfl)
  have HX0 := Lib.hid (show okI x0 by rw [hx0]; exact MK.out 0 hn1)
  clear hn hR hok
  have hlI : (l.length : Int) ≤ 1000000 := by omega
  go_enter Tryz.func57, Tryz.ntmps57
  go_wp2_with fail
  go_loopw [6] (fun i wr => ∃ k : Nat, k ≤ l.length ∧ i = .int .i64 k ∧ wr = w.alloc (.cells #[.int .i64 0, .int .i64 0, .string ⟨#[]⟩] 26)) (fun i _ => l.length - (intOf i).toNat)
  case atStart => exact ⟨0, by omega, rfl, rfl⟩
  case round =>
    obtain ⟨k, hk, rfl, rfl⟩ := hrel
    by_cases hlt : k < l.length
    · have hltI : (k : Int) < (l.length : Int) := by omega
      obtain ⟨ad, rfl, c0, c1, c2⟩ := (V.out _ h0.out).at hlt
      have h1 := AL.out k hlt
      generalize l[k] = v at *
      obtain ⟨a, b, s2⟩ := v
      dsimp only at c0 c1 c2 h1
      subst h1
      go_wp2_with fail
      exact ⟨⟨k + 1, by omega, by go_num, by first | rfl | trivial⟩, by simp [intOf]; omega⟩
    · obtain rfl : k = l.length := by omega
      obtain ⟨wz, hwz⟩ : ∃ wz, wz = w.alloc (.cells #[.int .i64 0, .int .i64 0, .string ⟨#[]⟩] 26) := ⟨_, rfl⟩
      have HZ : Hid (wz.heap[w.heap.size]? = some (.cells #[.int .i64 0, .int .i64 0, .string ⟨#[]⟩] 26)) := Lib.hid (by rw [hwz]; exact heap_alloc_new w _)
      rw [← hwz] at h0 ⊢
      have hlz := Lib.hid (show w.heap.size < wz.heap.size by rw [hwz]; simp)
      clear V AL hwz
      have hlen := Lib.hid hnl
      have CM : Hid (∀ W, Below wz.heap.size wz W → ∀ k (h : k < n.length), ∃ ad, A = some ad ∧ W.cell? ⟨(ad.add (k * 3)).block, (ad.add (k * 3)).off + 1, none⟩ = some (.int .i64 n[k])) := Lib.hid (fun W h => CE.out W (h0.out.trans (h.mono h0.out.size)))
      obtain ⟨ad, rfl, hc⟩ := CM.out _ (Below.refl _ _) 0 hn1
      rw [← hx0] at hc
      have hc0 : wz.cell? ⟨ad.block, ad.off + 1, none⟩ = some (.int .i64 x0) := by simpa [Addr.add] using hc
      have hl1 : (1 : Int) ≤ (l.length : Int) := by omega
      have EZ := Lib.hid (Below.refl wz.heap.size wz)
      clear hc CE hx0
      rw [← hnl] at *
      go_wp2_with fail
      go_loopw [9, 10] (fun v i wr => ∃ (k : Nat) (x : Int), 1 ≤ k ∧ k ≤ n.length ∧ i = .int .i64 k ∧ v = .int .i64 x ∧ Hid (okI x) ∧ Hid (foldO modO x (n.drop k) = R) ∧ Hid (Below wz.heap.size wz wr)) (fun _ i _ => n.length - (intOf i).toNat)
      case atStart => exact ⟨1, x0, by omega, by omega, rfl, rfl, HX0, HR, Lib.hid (Below.refl _ _)⟩
      case round =>
        obtain ⟨k, x, hk1, hk, rfl, rfl, hx, hF, hB⟩ := hrel
        have EB := Lib.hid (EZ.out.trans (hB.out.mono EZ.out.size))
        obtain ⟨⟨_, _, _⟩, ⟨_, _, _⟩⟩ := new3g HZ.out EB.out
        have E10 := Lib.hid (h0.out.trans (EB.out.mono h0.out.size))
        by_cases hlt : k < n.length
        · have hltI : (k : Int) < (n.length : Int) := by omega
          obtain ⟨ad', e, c1⟩ := CM.out _ hB.out k hlt
          injection e with e
          subst e
          have hF2 := Lib.hid ((foldO_drop hlt).symm.trans hF.out)
          have hoy := Lib.hid (MK.out k hlt)
          obtain ⟨y, hy⟩ : ∃ y, y = n[k] := ⟨_, rfl⟩
          rw [← hy] at c1 hF2 hoy
          clear hy hF
          have hC := Lib.hid (fun W => two_mod x y W hx.out hoy.out)
          cases ho : modO x y with
          | none =>
            have hC2 := Lib.hid (fun W => numV_no (hC.out W) ho)
            have hRn : Hid (R = none) := Lib.hid (by have := hF2.out; rw [ho] at this; exact this.symm)
            clear hC hF2 ho
            go_wp2_with fail
            refine (hC2.out _).mono ?_
            rintro e w' ⟨rfl, rfl⟩
            go_wp2_with fail
            exact bodyPost_ret (v := .tuple #[Vl.val v0, .int .i64 11]) (by simp [results, Tryz.results57, go_sem, *]) rfl ⟨out_none hRn.out, put3 E10.out⟩
          | some z =>
            have hC2 := Lib.hid (fun W => numV_yes (hC.out W) ho)
            have hF3 : Hid (foldO modO z (n.drop (k + 1)) = R) := Lib.hid (by have := hF2.out; rw [ho] at this; exact this)
            have hz := Lib.hid (modO_ok2 hx.out hoy.out ho)
            clear hC hF2 ho
            go_wp2_with fail
            refine (hC2.out _).mono ?_
            rintro e w' ⟨rfl, rfl⟩
            go_wp2_with fail
            exact ⟨⟨k + 1, z, by omega, by omega, by go_num, rfl, hz, hF3, hB⟩, by simp [intOf]; omega⟩
        · obtain rfl : k = n.length := by omega
          have hRs : Hid (R = some x) := Lib.hid (by have := hF.out; rw [List.drop_length] at this; exact this.symm)
          clear hF
          go_wp2_with fail
          refine (rInt_c x _).mono ?_
          rintro e w9 ⟨rfl, b9⟩
          have E11 := Lib.hid (EB.out.trans (b9.mono EB.out.size))
          obtain ⟨⟨_, _, _⟩, ⟨_, _, _⟩⟩ := new3g HZ.out E11.out
          have E12 := Lib.hid (h0.out.trans (E11.out.mono h0.out.size))
          clear b9
          go_wp2_with fail
          exact bodyPost_ret (v := .tuple #[Vl.val (vI x), .int .i64 0]) (by simp [results, Tryz.results57, go_sem, *]) rfl ⟨out_some hRs.out, put3 E12.out⟩
set_option maxRecDepth 100000 in
set_option maxHeartbeats 8000000 in
theorem rfold_min (A : Option Addr) (c : Nat) (l : List Vl) (w : World) (hv : ValsAt w A l) (h1 : 1 ≤ l.length) (hl : l.length ≤ 1000000) (hall : ∀ k (h : k < l.length), l[k].1 = 1) (hok : ∀ k (h : k < l.length), okI l[k].2.1) :
    Calls Tryz.prog 57 #[.string ⟨#[109, 105, 110]⟩, .slice A l.length c] w fun e w' => e = .returned (outW (foldO minO ((nums l).headD 0) (nums l).tail)) ∧ Below w.heap.size w w' := by
  have h0 : Hid (Below w.heap.size w (w.alloc (.cells #[.int .i64 0, .int .i64 0, .string ⟨#[]⟩] 26))) := Lib.hid ((Below.refl _ _).alloc (Nat.le_refl _) _)
  have V := Lib.hid (fun W (h : Below w.heap.size w W) => hv.below h)
  have AL := Lib.hid hall
  clear hv hall
  obtain ⟨n, hn⟩ : ∃ n, n = nums l := ⟨_, rfl⟩
  have hnl : n.length = l.length := by rw [hn]; unfold nums; simp
  rw [← hn]
  have CE : Hid (∀ W, Below w.heap.size w W → ∀ k (h : k < n.length), ∃ ad, A = some ad ∧ W.cell? ⟨(ad.add (k * 3)).block, (ad.add (k * 3)).off + 1, none⟩ = some (.int .i64 n[k])) := Lib.hid (fun W h k hk => by
    obtain ⟨ad, e, _, c1, _⟩ := (V.out W h).at (hnl ▸ hk)
    refine ⟨ad, e, c1.trans ?_⟩
    subst hn
    simp [nums])
  have MK : Hid (∀ k (h : k < n.length), okI n[k]) := Lib.hid (fun k h => by subst hn; simp [nums]; exact hok k (hnl ▸ h))
  have hn1 : 0 < n.length := by omega
  obtain ⟨R, hR⟩ : ∃ R, R = foldO minO (n.headD 0) n.tail := ⟨_, rfl⟩
  rw [← hR]
  obtain ⟨x0, hx0⟩ : ∃ x, x = n[0] := ⟨_, rfl⟩
  have HR : Hid (foldO minO x0 (n.drop 1) = R) := Lib.hid (by
    rw [hR, hx0]
    obtain ⟨a, n', rfl⟩ := List.exists_cons_of_length_pos hn1
    rfl)
  have HX0 := Lib.hid (show okI x0 by rw [hx0]; exact MK.out 0 hn1)
  clear hn hR hok
  have hlI : (l.length : Int) ≤ 1000000 := by omega
  go_enter Tryz.func57, Tryz.ntmps57
  go_wp2_with fail
  go_loopw [6] (fun i wr => ∃ k : Nat, k ≤ l.length ∧ i = .int .i64 k ∧ wr = w.alloc (.cells #[.int .i64 0, .int .i64 0, .string ⟨#[]⟩] 26)) (fun i _ => l.length - (intOf i).toNat)
  case atStart => exact ⟨0, by omega, rfl, rfl⟩
  case round =>
    obtain ⟨k, hk, rfl, rfl⟩ := hrel
    by_cases hlt : k < l.length
    · have hltI : (k : Int) < (l.length : Int) := by omega
      obtain ⟨ad, rfl, c0, c1, c2⟩ := (V.out _ h0.out).at hlt
      have h1 := AL.out k hlt
      generalize l[k] = v at *
      obtain ⟨a, b, s2⟩ := v
      dsimp only at c0 c1 c2 h1
      subst h1
      go_wp2_with fail
      exact ⟨⟨k + 1, by omega, by go_num, by first | rfl | trivial⟩, by simp [intOf]; omega⟩
    · obtain rfl : k = l.length := by omega
      obtain ⟨wz, hwz⟩ : ∃ wz, wz = w.alloc (.cells #[.int .i64 0, .int .i64 0, .string ⟨#[]⟩] 26) := ⟨_, rfl⟩
      have HZ : Hid (wz.heap[w.heap.size]? = some (.cells #[.int .i64 0, .int .i64 0, .string ⟨#[]⟩] 26)) := Lib.hid (by rw [hwz]; exact heap_alloc_new w _)
      rw [← hwz] at h0 ⊢
      have hlz := Lib.hid (show w.heap.size < wz.heap.size by rw [hwz]; simp)
      clear V AL hwz
      have hlen := Lib.hid hnl
      have CM : Hid (∀ W, Below wz.heap.size wz W → ∀ k (h : k < n.length), ∃ ad, A = some ad ∧ W.cell? ⟨(ad.add (k * 3)).block, (ad.add (k * 3)).off + 1, none⟩ = some (.int .i64 n[k])) := Lib.hid (fun W h => CE.out W (h0.out.trans (h.mono h0.out.size)))
      obtain ⟨ad, rfl, hc⟩ := CM.out _ (Below.refl _ _) 0 hn1
      rw [← hx0] at hc
      have hc0 : wz.cell? ⟨ad.block, ad.off + 1, none⟩ = some (.int .i64 x0) := by simpa [Addr.add] using hc
      have hl1 : (1 : Int) ≤ (l.length : Int) := by omega
      have EZ := Lib.hid (Below.refl wz.heap.size wz)
      clear hc CE hx0
      rw [← hnl] at *
      go_wp2_with fail
      go_loopw [9, 10] (fun v i wr => ∃ (k : Nat) (x : Int), 1 ≤ k ∧ k ≤ n.length ∧ i = .int .i64 k ∧ v = .int .i64 x ∧ Hid (okI x) ∧ Hid (foldO minO x (n.drop k) = R) ∧ Hid (Below wz.heap.size wz wr)) (fun _ i _ => n.length - (intOf i).toNat)
      case atStart => exact ⟨1, x0, by omega, by omega, rfl, rfl, HX0, HR, Lib.hid (Below.refl _ _)⟩
      case round =>
        obtain ⟨k, x, hk1, hk, rfl, rfl, hx, hF, hB⟩ := hrel
        have EB := Lib.hid (EZ.out.trans (hB.out.mono EZ.out.size))
        obtain ⟨⟨_, _, _⟩, ⟨_, _, _⟩⟩ := new3g HZ.out EB.out
        have E10 := Lib.hid (h0.out.trans (EB.out.mono h0.out.size))
        by_cases hlt : k < n.length
        · have hltI : (k : Int) < (n.length : Int) := by omega
          obtain ⟨ad', e, c1⟩ := CM.out _ hB.out k hlt
          injection e with e
          subst e
          have hF2 := Lib.hid ((foldO_drop hlt).symm.trans hF.out)
          have hoy := Lib.hid (MK.out k hlt)
          obtain ⟨y, hy⟩ : ∃ y, y = n[k] := ⟨_, rfl⟩
          rw [← hy] at c1 hF2 hoy
          clear hy hF
          have hC := Lib.hid (fun W => two_min x y W hx.out hoy.out)
          cases ho : minO x y with
          | none =>
            have hC2 := Lib.hid (fun W => numV_no (hC.out W) ho)
            have hRn : Hid (R = none) := Lib.hid (by have := hF2.out; rw [ho] at this; exact this.symm)
            clear hC hF2 ho
            go_wp2_with fail
            refine (hC2.out _).mono ?_
            rintro e w' ⟨rfl, rfl⟩
            go_wp2_with fail
            exact bodyPost_ret (v := .tuple #[Vl.val v0, .int .i64 11]) (by simp [results, Tryz.results57, go_sem, *]) rfl ⟨out_none hRn.out, put3 E10.out⟩
          | some z =>
            have hC2 := Lib.hid (fun W => numV_yes (hC.out W) ho)
            have hF3 : Hid (foldO minO z (n.drop (k + 1)) = R) := Lib.hid (by have := hF2.out; rw [ho] at this; exact this)
            have hz := Lib.hid (minO_ok2 hx.out hoy.out ho)
            clear hC hF2 ho
            go_wp2_with fail
            refine (hC2.out _).mono ?_
            rintro e w' ⟨rfl, rfl⟩
            go_wp2_with fail
            exact ⟨⟨k + 1, z, by omega, by omega, by go_num, rfl, hz, hF3, hB⟩, by simp [intOf]; omega⟩
        · obtain rfl : k = n.length := by omega
          have hRs : Hid (R = some x) := Lib.hid (by have := hF.out; rw [List.drop_length] at this; exact this.symm)
          clear hF
          go_wp2_with fail
          refine (rInt_c x _).mono ?_
          rintro e w9 ⟨rfl, b9⟩
          have E11 := Lib.hid (EB.out.trans (b9.mono EB.out.size))
          obtain ⟨⟨_, _, _⟩, ⟨_, _, _⟩⟩ := new3g HZ.out E11.out
          have E12 := Lib.hid (h0.out.trans (E11.out.mono h0.out.size))
          clear b9
          go_wp2_with fail
          exact bodyPost_ret (v := .tuple #[Vl.val (vI x), .int .i64 0]) (by simp [results, Tryz.results57, go_sem, *]) rfl ⟨out_some hRs.out, put3 E12.out⟩
set_option maxRecDepth 100000 in
set_option maxHeartbeats 8000000 in
theorem rfold_max (A : Option Addr) (c : Nat) (l : List Vl) (w : World) (hv : ValsAt w A l) (h1 : 1 ≤ l.length) (hl : l.length ≤ 1000000) (hall : ∀ k (h : k < l.length), l[k].1 = 1) (hok : ∀ k (h : k < l.length), okI l[k].2.1) :
    Calls Tryz.prog 57 #[.string ⟨#[109, 97, 120]⟩, .slice A l.length c] w fun e w' => e = .returned (outW (foldO maxO ((nums l).headD 0) (nums l).tail)) ∧ Below w.heap.size w w' := by
  have h0 : Hid (Below w.heap.size w (w.alloc (.cells #[.int .i64 0, .int .i64 0, .string ⟨#[]⟩] 26))) := Lib.hid ((Below.refl _ _).alloc (Nat.le_refl _) _)
  have V := Lib.hid (fun W (h : Below w.heap.size w W) => hv.below h)
  have AL := Lib.hid hall
  clear hv hall
  obtain ⟨n, hn⟩ : ∃ n, n = nums l := ⟨_, rfl⟩
  have hnl : n.length = l.length := by rw [hn]; unfold nums; simp
  rw [← hn]
  have CE : Hid (∀ W, Below w.heap.size w W → ∀ k (h : k < n.length), ∃ ad, A = some ad ∧ W.cell? ⟨(ad.add (k * 3)).block, (ad.add (k * 3)).off + 1, none⟩ = some (.int .i64 n[k])) := Lib.hid (fun W h k hk => by
    obtain ⟨ad, e, _, c1, _⟩ := (V.out W h).at (hnl ▸ hk)
    refine ⟨ad, e, c1.trans ?_⟩
    subst hn
    simp [nums])
  have MK : Hid (∀ k (h : k < n.length), okI n[k]) := Lib.hid (fun k h => by subst hn; simp [nums]; exact hok k (hnl ▸ h))
  have hn1 : 0 < n.length := by omega
  obtain ⟨R, hR⟩ : ∃ R, R = foldO maxO (n.headD 0) n.tail := ⟨_, rfl⟩
  rw [← hR]
  obtain ⟨x0, hx0⟩ : ∃ x, x = n[0] := ⟨_, rfl⟩
  have HR : Hid (foldO maxO x0 (n.drop 1) = R) := Lib.hid (by
    rw [hR, hx0]
    obtain ⟨a, n', rfl⟩ := List.exists_cons_of_length_pos hn1
    rfl)
  have HX0 := Lib.hid (show okI x0 by rw [hx0]; exact MK.out 0 hn1)
  clear hn hR hok
  have hlI : (l.length : Int) ≤ 1000000 := by omega
  go_enter Tryz.func57, Tryz.ntmps57
  go_wp2_with fail
  go_loopw [6] (fun i wr => ∃ k : Nat, k ≤ l.length ∧ i = .int .i64 k ∧ wr = w.alloc (.cells #[.int .i64 0, .int .i64 0, .string ⟨#[]⟩] 26)) (fun i _ => l.length - (intOf i).toNat)
  case atStart => exact ⟨0, by omega, rfl, rfl⟩
  case round =>
    obtain ⟨k, hk, rfl, rfl⟩ := hrel
    by_cases hlt : k < l.length
    · have hltI : (k : Int) < (l.length : Int) := by omega
      obtain ⟨ad, rfl, c0, c1, c2⟩ := (V.out _ h0.out).at hlt
      have h1 := AL.out k hlt
      generalize l[k] = v at *
      obtain ⟨a, b, s2⟩ := v
      dsimp only at c0 c1 c2 h1
      subst h1
      go_wp2_with fail
      exact ⟨⟨k + 1, by omega, by go_num, by first | rfl | trivial⟩, by simp [intOf]; omega⟩
    · obtain rfl : k = l.length := by omega
      obtain ⟨wz, hwz⟩ : ∃ wz, wz = w.alloc (.cells #[.int .i64 0, .int .i64 0, .string ⟨#[]⟩] 26) := ⟨_, rfl⟩
      have HZ : Hid (wz.heap[w.heap.size]? = some (.cells #[.int .i64 0, .int .i64 0, .string ⟨#[]⟩] 26)) := Lib.hid (by rw [hwz]; exact heap_alloc_new w _)
      rw [← hwz] at h0 ⊢
      have hlz := Lib.hid (show w.heap.size < wz.heap.size by rw [hwz]; simp)
      clear V AL hwz
      have hlen := Lib.hid hnl
      have CM : Hid (∀ W, Below wz.heap.size wz W → ∀ k (h : k < n.length), ∃ ad, A = some ad ∧ W.cell? ⟨(ad.add (k * 3)).block, (ad.add (k * 3)).off + 1, none⟩ = some (.int .i64 n[k])) := Lib.hid (fun W h => CE.out W (h0.out.trans (h.mono h0.out.size)))
      obtain ⟨ad, rfl, hc⟩ := CM.out _ (Below.refl _ _) 0 hn1
      rw [← hx0] at hc
      have hc0 : wz.cell? ⟨ad.block, ad.off + 1, none⟩ = some (.int .i64 x0) := by simpa [Addr.add] using hc
      have hl1 : (1 : Int) ≤ (l.length : Int) := by omega
      have EZ := Lib.hid (Below.refl wz.heap.size wz)
      clear hc CE hx0
      rw [← hnl] at *
      go_wp2_with fail
      go_loopw [9, 10] (fun v i wr => ∃ (k : Nat) (x : Int), 1 ≤ k ∧ k ≤ n.length ∧ i = .int .i64 k ∧ v = .int .i64 x ∧ Hid (okI x) ∧ Hid (foldO maxO x (n.drop k) = R) ∧ Hid (Below wz.heap.size wz wr)) (fun _ i _ => n.length - (intOf i).toNat)
      case atStart => exact ⟨1, x0, by omega, by omega, rfl, rfl, HX0, HR, Lib.hid (Below.refl _ _)⟩
      case round =>
        obtain ⟨k, x, hk1, hk, rfl, rfl, hx, hF, hB⟩ := hrel
        have EB := Lib.hid (EZ.out.trans (hB.out.mono EZ.out.size))
        obtain ⟨⟨_, _, _⟩, ⟨_, _, _⟩⟩ := new3g HZ.out EB.out
        have E10 := Lib.hid (h0.out.trans (EB.out.mono h0.out.size))
        by_cases hlt : k < n.length
        · have hltI : (k : Int) < (n.length : Int) := by omega
          obtain ⟨ad', e, c1⟩ := CM.out _ hB.out k hlt
          injection e with e
          subst e
          have hF2 := Lib.hid ((foldO_drop hlt).symm.trans hF.out)
          have hoy := Lib.hid (MK.out k hlt)
          obtain ⟨y, hy⟩ : ∃ y, y = n[k] := ⟨_, rfl⟩
          rw [← hy] at c1 hF2 hoy
          clear hy hF
          have hC := Lib.hid (fun W => two_max x y W hx.out hoy.out)
          cases ho : maxO x y with
          | none =>
            have hC2 := Lib.hid (fun W => numV_no (hC.out W) ho)
            have hRn : Hid (R = none) := Lib.hid (by have := hF2.out; rw [ho] at this; exact this.symm)
            clear hC hF2 ho
            go_wp2_with fail
            refine (hC2.out _).mono ?_
            rintro e w' ⟨rfl, rfl⟩
            go_wp2_with fail
            exact bodyPost_ret (v := .tuple #[Vl.val v0, .int .i64 11]) (by simp [results, Tryz.results57, go_sem, *]) rfl ⟨out_none hRn.out, put3 E10.out⟩
          | some z =>
            have hC2 := Lib.hid (fun W => numV_yes (hC.out W) ho)
            have hF3 : Hid (foldO maxO z (n.drop (k + 1)) = R) := Lib.hid (by have := hF2.out; rw [ho] at this; exact this)
            have hz := Lib.hid (maxO_ok2 hx.out hoy.out ho)
            clear hC hF2 ho
            go_wp2_with fail
            refine (hC2.out _).mono ?_
            rintro e w' ⟨rfl, rfl⟩
            go_wp2_with fail
            exact ⟨⟨k + 1, z, by omega, by omega, by go_num, rfl, hz, hF3, hB⟩, by simp [intOf]; omega⟩
        · obtain rfl : k = n.length := by omega
          have hRs : Hid (R = some x) := Lib.hid (by have := hF.out; rw [List.drop_length] at this; exact this.symm)
          clear hF
          go_wp2_with fail
          refine (rInt_c x _).mono ?_
          rintro e w9 ⟨rfl, b9⟩
          have E11 := Lib.hid (EB.out.trans (b9.mono EB.out.size))
          obtain ⟨⟨_, _, _⟩, ⟨_, _, _⟩⟩ := new3g HZ.out E11.out
          have E12 := Lib.hid (h0.out.trans (E11.out.mono h0.out.size))
          clear b9
          go_wp2_with fail
          exact bodyPost_ret (v := .tuple #[Vl.val (vI x), .int .i64 0]) (by simp [results, Tryz.results57, go_sem, *]) rfl ⟨out_some hRs.out, put3 E12.out⟩
set_option maxRecDepth 100000 in
set_option maxHeartbeats 8000000 in
theorem rfold_sub (A : Option Addr) (c : Nat) (l : List Vl) (w : World) (hv : ValsAt w A l) (h1 : 1 ≤ l.length) (hl : l.length ≤ 1000000) (hall : ∀ k (h : k < l.length), l[k].1 = 1) (hok : ∀ k (h : k < l.length), okI l[k].2.1) (h2 : l.length ≠ 1) :
    Calls Tryz.prog 57 #[.string ⟨#[45]⟩, .slice A l.length c] w fun e w' => e = .returned (outW (foldO subO ((nums l).headD 0) (nums l).tail)) ∧ Below w.heap.size w w' := by
  have h0 : Hid (Below w.heap.size w (w.alloc (.cells #[.int .i64 0, .int .i64 0, .string ⟨#[]⟩] 26))) := Lib.hid ((Below.refl _ _).alloc (Nat.le_refl _) _)
  have V := Lib.hid (fun W (h : Below w.heap.size w W) => hv.below h)
  have AL := Lib.hid hall
  clear hv hall
  obtain ⟨n, hn⟩ : ∃ n, n = nums l := ⟨_, rfl⟩
  have hnl : n.length = l.length := by rw [hn]; unfold nums; simp
  rw [← hn]
  have CE : Hid (∀ W, Below w.heap.size w W → ∀ k (h : k < n.length), ∃ ad, A = some ad ∧ W.cell? ⟨(ad.add (k * 3)).block, (ad.add (k * 3)).off + 1, none⟩ = some (.int .i64 n[k])) := Lib.hid (fun W h k hk => by
    obtain ⟨ad, e, _, c1, _⟩ := (V.out W h).at (hnl ▸ hk)
    refine ⟨ad, e, c1.trans ?_⟩
    subst hn
    simp [nums])
  have MK : Hid (∀ k (h : k < n.length), okI n[k]) := Lib.hid (fun k h => by subst hn; simp [nums]; exact hok k (hnl ▸ h))
  have hn1 : 0 < n.length := by omega
  obtain ⟨R, hR⟩ : ∃ R, R = foldO subO (n.headD 0) n.tail := ⟨_, rfl⟩
  rw [← hR]
  obtain ⟨x0, hx0⟩ : ∃ x, x = n[0] := ⟨_, rfl⟩
  have HR : Hid (foldO subO x0 (n.drop 1) = R) := Lib.hid (by
    rw [hR, hx0]
    obtain ⟨a, n', rfl⟩ := List.exists_cons_of_length_pos hn1
    rfl)
  have HX0 := Lib.hid (show okI x0 by rw [hx0]; exact MK.out 0 hn1)
  have hne : ((n.length : Int) == 1) = false := by simp; omega
  clear hn hR hok
  have hlI : (l.length : Int) ≤ 1000000 := by omega
  go_enter Tryz.func57, Tryz.ntmps57
  go_wp2_with fail
  go_loopw [6] (fun i wr => ∃ k : Nat, k ≤ l.length ∧ i = .int .i64 k ∧ wr = w.alloc (.cells #[.int .i64 0, .int .i64 0, .string ⟨#[]⟩] 26)) (fun i _ => l.length - (intOf i).toNat)
  case atStart => exact ⟨0, by omega, rfl, rfl⟩
  case round =>
    obtain ⟨k, hk, rfl, rfl⟩ := hrel
    by_cases hlt : k < l.length
    · have hltI : (k : Int) < (l.length : Int) := by omega
      obtain ⟨ad, rfl, c0, c1, c2⟩ := (V.out _ h0.out).at hlt
      have h1 := AL.out k hlt
      generalize l[k] = v at *
      obtain ⟨a, b, s2⟩ := v
      dsimp only at c0 c1 c2 h1
      subst h1
      go_wp2_with fail
      exact ⟨⟨k + 1, by omega, by go_num, by first | rfl | trivial⟩, by simp [intOf]; omega⟩
    · obtain rfl : k = l.length := by omega
      obtain ⟨wz, hwz⟩ : ∃ wz, wz = w.alloc (.cells #[.int .i64 0, .int .i64 0, .string ⟨#[]⟩] 26) := ⟨_, rfl⟩
      have HZ : Hid (wz.heap[w.heap.size]? = some (.cells #[.int .i64 0, .int .i64 0, .string ⟨#[]⟩] 26)) := Lib.hid (by rw [hwz]; exact heap_alloc_new w _)
      rw [← hwz] at h0 ⊢
      have hlz := Lib.hid (show w.heap.size < wz.heap.size by rw [hwz]; simp)
      clear V AL hwz
      have hlen := Lib.hid hnl
      have CM : Hid (∀ W, Below wz.heap.size wz W → ∀ k (h : k < n.length), ∃ ad, A = some ad ∧ W.cell? ⟨(ad.add (k * 3)).block, (ad.add (k * 3)).off + 1, none⟩ = some (.int .i64 n[k])) := Lib.hid (fun W h => CE.out W (h0.out.trans (h.mono h0.out.size)))
      obtain ⟨ad, rfl, hc⟩ := CM.out _ (Below.refl _ _) 0 hn1
      rw [← hx0] at hc
      have hc0 : wz.cell? ⟨ad.block, ad.off + 1, none⟩ = some (.int .i64 x0) := by simpa [Addr.add] using hc
      have hl1 : (1 : Int) ≤ (l.length : Int) := by omega
      have EZ := Lib.hid (Below.refl wz.heap.size wz)
      clear hc CE hx0
      rw [← hnl] at *
      go_wp2_with fail
      go_loopw [9, 10] (fun v i wr => ∃ (k : Nat) (x : Int), 1 ≤ k ∧ k ≤ n.length ∧ i = .int .i64 k ∧ v = .int .i64 x ∧ Hid (okI x) ∧ Hid (foldO subO x (n.drop k) = R) ∧ Hid (Below wz.heap.size wz wr)) (fun _ i _ => n.length - (intOf i).toNat)
      case atStart => exact ⟨1, x0, by omega, by omega, rfl, rfl, HX0, HR, Lib.hid (Below.refl _ _)⟩
      case round =>
        obtain ⟨k, x, hk1, hk, rfl, rfl, hx, hF, hB⟩ := hrel
        have EB := Lib.hid (EZ.out.trans (hB.out.mono EZ.out.size))
        obtain ⟨⟨_, _, _⟩, ⟨_, _, _⟩⟩ := new3g HZ.out EB.out
        have E10 := Lib.hid (h0.out.trans (EB.out.mono h0.out.size))
        by_cases hlt : k < n.length
        · have hltI : (k : Int) < (n.length : Int) := by omega
          obtain ⟨ad', e, c1⟩ := CM.out _ hB.out k hlt
          injection e with e
          subst e
          have hF2 := Lib.hid ((foldO_drop hlt).symm.trans hF.out)
          have hoy := Lib.hid (MK.out k hlt)
          obtain ⟨y, hy⟩ : ∃ y, y = n[k] := ⟨_, rfl⟩
          rw [← hy] at c1 hF2 hoy
          clear hy hF
          have hC := Lib.hid (fun W => two_sub x y W hx.out hoy.out)
          cases ho : subO x y with
          | none =>
            have hC2 := Lib.hid (fun W => numV_no (hC.out W) ho)
            have hRn : Hid (R = none) := Lib.hid (by have := hF2.out; rw [ho] at this; exact this.symm)
            clear hC hF2 ho
            go_wp2_with fail
            refine (hC2.out _).mono ?_
            rintro e w' ⟨rfl, rfl⟩
            go_wp2_with fail
            exact bodyPost_ret (v := .tuple #[Vl.val v0, .int .i64 11]) (by simp [results, Tryz.results57, go_sem, *]) rfl ⟨out_none hRn.out, put3 E10.out⟩
          | some z =>
            have hC2 := Lib.hid (fun W => numV_yes (hC.out W) ho)
            have hF3 : Hid (foldO subO z (n.drop (k + 1)) = R) := Lib.hid (by have := hF2.out; rw [ho] at this; exact this)
            have hz := Lib.hid (subO_ok2 hx.out hoy.out ho)
            clear hC hF2 ho
            go_wp2_with fail
            refine (hC2.out _).mono ?_
            rintro e w' ⟨rfl, rfl⟩
            go_wp2_with fail
            exact ⟨⟨k + 1, z, by omega, by omega, by go_num, rfl, hz, hF3, hB⟩, by simp [intOf]; omega⟩
        · obtain rfl : k = n.length := by omega
          have hRs : Hid (R = some x) := Lib.hid (by have := hF.out; rw [List.drop_length] at this; exact this.symm)
          clear hF
          go_wp2_with fail
          refine (rInt_c x _).mono ?_
          rintro e w9 ⟨rfl, b9⟩
          have E11 := Lib.hid (EB.out.trans (b9.mono EB.out.size))
          obtain ⟨⟨_, _, _⟩, ⟨_, _, _⟩⟩ := new3g HZ.out E11.out
          have E12 := Lib.hid (h0.out.trans (E11.out.mono h0.out.size))
          clear b9
          go_wp2_with fail
          exact bodyPost_ret (v := .tuple #[Vl.val (vI x), .int .i64 0]) (by simp [results, Tryz.results57, go_sem, *]) rfl ⟨out_some hRs.out, put3 E12.out⟩
set_option maxRecDepth 100000 in
set_option maxHeartbeats 8000000 in
theorem rfold_abs (A : Option Addr) (c : Nat) (l : List Vl) (w : World) (hv : ValsAt w A l) (h1 : 1 ≤ l.length) (hl : l.length ≤ 1000000) (hall : ∀ k (h : k < l.length), l[k].1 = 1) (hok : ∀ k (h : k < l.length), okI l[k].2.1) (h2 : 0 ≤ (nums l).headD 0) :
    Calls Tryz.prog 57 #[.string ⟨#[97, 98, 115]⟩, .slice A l.length c] w fun e w' => e = .returned (outW (foldO subO ((nums l).headD 0) (nums l).tail)) ∧ Below w.heap.size w w' := by
  have h0 : Hid (Below w.heap.size w (w.alloc (.cells #[.int .i64 0, .int .i64 0, .string ⟨#[]⟩] 26))) := Lib.hid ((Below.refl _ _).alloc (Nat.le_refl _) _)
  have V := Lib.hid (fun W (h : Below w.heap.size w W) => hv.below h)
  have AL := Lib.hid hall
  clear hv hall
  obtain ⟨n, hn⟩ : ∃ n, n = nums l := ⟨_, rfl⟩
  have hnl : n.length = l.length := by rw [hn]; unfold nums; simp
  rw [← hn]
  have CE : Hid (∀ W, Below w.heap.size w W → ∀ k (h : k < n.length), ∃ ad, A = some ad ∧ W.cell? ⟨(ad.add (k * 3)).block, (ad.add (k * 3)).off + 1, none⟩ = some (.int .i64 n[k])) := Lib.hid (fun W h k hk => by
    obtain ⟨ad, e, _, c1, _⟩ := (V.out W h).at (hnl ▸ hk)
    refine ⟨ad, e, c1.trans ?_⟩
    subst hn
    simp [nums])
  have MK : Hid (∀ k (h : k < n.length), okI n[k]) := Lib.hid (fun k h => by subst hn; simp [nums]; exact hok k (hnl ▸ h))
  have hn1 : 0 < n.length := by omega
  obtain ⟨R, hR⟩ : ∃ R, R = foldO subO (n.headD 0) n.tail := ⟨_, rfl⟩
  rw [← hR]
  obtain ⟨x0, hx0⟩ : ∃ x, x = n[0] := ⟨_, rfl⟩
  have HR : Hid (foldO subO x0 (n.drop 1) = R) := Lib.hid (by
    rw [hR, hx0]
    obtain ⟨a, n', rfl⟩ := List.exists_cons_of_length_pos hn1
    rfl)
  have HX0 := Lib.hid (show okI x0 by rw [hx0]; exact MK.out 0 hn1)
  have hge : 0 ≤ x0 := by
    rw [← hn] at h2
    rw [hx0]
    obtain ⟨a, n', rfl⟩ := List.exists_cons_of_length_pos hn1
    exact h2
  clear h2
  clear hn hR hok
  have hlI : (l.length : Int) ≤ 1000000 := by omega
  go_enter Tryz.func57, Tryz.ntmps57
  go_wp2_with fail
  go_loopw [6] (fun i wr => ∃ k : Nat, k ≤ l.length ∧ i = .int .i64 k ∧ wr = w.alloc (.cells #[.int .i64 0, .int .i64 0, .string ⟨#[]⟩] 26)) (fun i _ => l.length - (intOf i).toNat)
  case atStart => exact ⟨0, by omega, rfl, rfl⟩
  case round =>
    obtain ⟨k, hk, rfl, rfl⟩ := hrel
    by_cases hlt : k < l.length
    · have hltI : (k : Int) < (l.length : Int) := by omega
      obtain ⟨ad, rfl, c0, c1, c2⟩ := (V.out _ h0.out).at hlt
      have h1 := AL.out k hlt
      generalize l[k] = v at *
      obtain ⟨a, b, s2⟩ := v
      dsimp only at c0 c1 c2 h1
      subst h1
      go_wp2_with fail
      exact ⟨⟨k + 1, by omega, by go_num, by first | rfl | trivial⟩, by simp [intOf]; omega⟩
    · obtain rfl : k = l.length := by omega
      obtain ⟨wz, hwz⟩ : ∃ wz, wz = w.alloc (.cells #[.int .i64 0, .int .i64 0, .string ⟨#[]⟩] 26) := ⟨_, rfl⟩
      have HZ : Hid (wz.heap[w.heap.size]? = some (.cells #[.int .i64 0, .int .i64 0, .string ⟨#[]⟩] 26)) := Lib.hid (by rw [hwz]; exact heap_alloc_new w _)
      rw [← hwz] at h0 ⊢
      have hlz := Lib.hid (show w.heap.size < wz.heap.size by rw [hwz]; simp)
      clear V AL hwz
      have hlen := Lib.hid hnl
      have CM : Hid (∀ W, Below wz.heap.size wz W → ∀ k (h : k < n.length), ∃ ad, A = some ad ∧ W.cell? ⟨(ad.add (k * 3)).block, (ad.add (k * 3)).off + 1, none⟩ = some (.int .i64 n[k])) := Lib.hid (fun W h => CE.out W (h0.out.trans (h.mono h0.out.size)))
      obtain ⟨ad, rfl, hc⟩ := CM.out _ (Below.refl _ _) 0 hn1
      rw [← hx0] at hc
      have hc0 : wz.cell? ⟨ad.block, ad.off + 1, none⟩ = some (.int .i64 x0) := by simpa [Addr.add] using hc
      have hl1 : (1 : Int) ≤ (l.length : Int) := by omega
      have EZ := Lib.hid (Below.refl wz.heap.size wz)
      clear hc CE hx0
      rw [← hnl] at *
      go_wp2_with fail
      go_loopw [9, 10] (fun v i wr => ∃ (k : Nat) (x : Int), 1 ≤ k ∧ k ≤ n.length ∧ i = .int .i64 k ∧ v = .int .i64 x ∧ Hid (okI x) ∧ Hid (foldO subO x (n.drop k) = R) ∧ Hid (Below wz.heap.size wz wr)) (fun _ i _ => n.length - (intOf i).toNat)
      case atStart => exact ⟨1, x0, by omega, by omega, rfl, rfl, HX0, HR, Lib.hid (Below.refl _ _)⟩
      case round =>
        obtain ⟨k, x, hk1, hk, rfl, rfl, hx, hF, hB⟩ := hrel
        have EB := Lib.hid (EZ.out.trans (hB.out.mono EZ.out.size))
        obtain ⟨⟨_, _, _⟩, ⟨_, _, _⟩⟩ := new3g HZ.out EB.out
        have E10 := Lib.hid (h0.out.trans (EB.out.mono h0.out.size))
        by_cases hlt : k < n.length
        · have hltI : (k : Int) < (n.length : Int) := by omega
          obtain ⟨ad', e, c1⟩ := CM.out _ hB.out k hlt
          injection e with e
          subst e
          have hF2 := Lib.hid ((foldO_drop hlt).symm.trans hF.out)
          have hoy := Lib.hid (MK.out k hlt)
          obtain ⟨y, hy⟩ : ∃ y, y = n[k] := ⟨_, rfl⟩
          rw [← hy] at c1 hF2 hoy
          clear hy hF
          have hC := Lib.hid (fun W => two_abs x y W hx.out hoy.out)
          cases ho : subO x y with
          | none =>
            have hC2 := Lib.hid (fun W => numV_no (hC.out W) ho)
            have hRn : Hid (R = none) := Lib.hid (by have := hF2.out; rw [ho] at this; exact this.symm)
            clear hC hF2 ho
            go_wp2_with fail
            refine (hC2.out _).mono ?_
            rintro e w' ⟨rfl, rfl⟩
            go_wp2_with fail
            exact bodyPost_ret (v := .tuple #[Vl.val v0, .int .i64 11]) (by simp [results, Tryz.results57, go_sem, *]) rfl ⟨out_none hRn.out, put3 E10.out⟩
          | some z =>
            have hC2 := Lib.hid (fun W => numV_yes (hC.out W) ho)
            have hF3 : Hid (foldO subO z (n.drop (k + 1)) = R) := Lib.hid (by have := hF2.out; rw [ho] at this; exact this)
            have hz := Lib.hid (subO_ok2 hx.out hoy.out ho)
            clear hC hF2 ho
            go_wp2_with fail
            refine (hC2.out _).mono ?_
            rintro e w' ⟨rfl, rfl⟩
            go_wp2_with fail
            exact ⟨⟨k + 1, z, by omega, by omega, by go_num, rfl, hz, hF3, hB⟩, by simp [intOf]; omega⟩
        · obtain rfl : k = n.length := by omega
          have hRs : Hid (R = some x) := Lib.hid (by have := hF.out; rw [List.drop_length] at this; exact this.symm)
          clear hF
          go_wp2_with fail
          refine (rInt_c x _).mono ?_
          rintro e w9 ⟨rfl, b9⟩
          have E11 := Lib.hid (EB.out.trans (b9.mono EB.out.size))
          obtain ⟨⟨_, _, _⟩, ⟨_, _, _⟩⟩ := new3g HZ.out E11.out
          have E12 := Lib.hid (h0.out.trans (E11.out.mono h0.out.size))
          clear b9
          go_wp2_with fail
          exact bodyPost_ret (v := .tuple #[Vl.val (vI x), .int .i64 0]) (by simp [results, Tryz.results57, go_sem, *]) rfl ⟨out_some hRs.out, put3 E12.out⟩
end Go.Proofs.YtmadnehipagakaaGreatDoor
