/- The reference's cmp, either, first, lex. -/
import Derived.Test.YtbogjhgnnmgiaaaSu
import Derived.Test.YtbogjhgnnmgiaaaSk
namespace Go.Proofs.Ytbogjhgnnmgiaaa
open Go.Shelf Go.RowKit Go.Lib

theorem boxed2t (t : TypeId) (w : World) (a b : AV) : ∀ W, Below ((w.alloc (.cells a.cs t)).alloc (.cells b.cs t)).heap.size ((w.alloc (.cells a.cs t)).alloc (.cells b.cs t)) W → Boxed W w.heap.size a ∧ Boxed W (w.heap.size + 1) b := by
  intro W hW
  have e : ((w.alloc (.cells a.cs t)).alloc (.cells b.cs t)).heap = (w.heap.push (.cells a.cs t)).push (.cells b.cs t) := rfl
  have h1 : ((w.alloc (.cells a.cs t)).alloc (.cells b.cs t)).heap[w.heap.size]? = some (.cells a.cs t) := by
    rw [e]; simp only [Array.getElem?_push, Array.size_push]; grind
  have h2 : ((w.alloc (.cells a.cs t)).alloc (.cells b.cs t)).heap[w.heap.size + 1]? = some (.cells b.cs t) := by
    rw [e]; simp only [Array.getElem?_push, Array.size_push]; grind
  exact ⟨(boxed_of h1).below hW (Array.getElem?_eq_some_iff.1 h1).1, (boxed_of h2).below hW (Array.getElem?_eq_some_iff.1 h2).1⟩

theorem rcmp (a b : Int) (w : World) : Calls Try.prog 21 #[.int .i64 a, .int .i64 b] w fun e w'' => e = .returned (.int .i64 (cI a b)) ∧ w = w'' := by
  by_cases h1 : a < b
  · go_enter Try.func21, Try.ntmps21
    go_wp2
    go_ret
    exact ⟨ret_int (by unfold cI Lib.compareInt; rw [if_pos h1]), rfl⟩
  by_cases h2 : b < a
  · have h1' : b ≤ a := by omega
    clear h1
    go_enter Try.func21, Try.ntmps21
    go_wp2
    go_ret
    exact ⟨ret_int (by unfold cI Lib.compareInt; rw [if_neg (by omega), if_pos h2]), rfl⟩
  · have h1' : b ≤ a := by omega
    have h2' : a ≤ b := by omega
    clear h1 h2
    go_enter Try.func21, Try.ntmps21
    go_wp2
    go_ret
    exact ⟨ret_int (by unfold cI Lib.compareInt; rw [if_neg (by omega), if_neg (by omega)]), rfl⟩
theorem reither (a b : Int) (w : World) : Calls Try.prog 23 #[.int .i64 a, .int .i64 b] w fun e w'' => e = .returned (.int .i64 (orI a b)) ∧ w = w'' := by
  by_cases h : a = 0
  · have h' : (a == 0) = true := by simpa using h
    have hr : orI a b = b := by unfold orI; rw [if_neg (by simp [h])]
    rw [hr]
    clear hr h
    go_enter Try.func23, Try.ntmps23
    go_wp2
    go_ret
    exact ⟨rfl, rfl⟩
  · have h' : (a == 0) = false := beq_eq_false_iff_ne.2 h
    have hr : orI a b = a := by unfold orI; rw [if_pos h]
    rw [hr]
    clear hr h
    go_enter Try.func23, Try.ntmps23
    go_wp2
    go_ret
    exact ⟨rfl, rfl⟩
theorem rcmp_q (a b : Int) (w : World) : Calls Try.prog 21 #[.int .i64 a, .int .i64 b] w fun e w' => e = .returned (.int .i64 (cI a b)) ∧ w' = w := (rcmp a b w).mono fun _ _ h => ⟨h.1, h.2.symm⟩
theorem reither_q (a b : Int) (w : World) : Calls Try.prog 23 #[.int .i64 a, .int .i64 b] w fun e w' => e = .returned (.int .i64 (orI a b)) ∧ w' = w := (reither a b w).mono fun _ _ h => ⟨h.1, h.2.symm⟩
theorem rfirst (a : AV) (w : World) (h : RowAt w (Value.int .i64) a.A a.l) : Calls Try.prog 24 #[a.v] w fun e w' => e = .returned (.int .i64 (firstI a.l)) ∧ Below w.heap.size w w' := by
  obtain ⟨r, al, A, l, c, sa, sp, bo, ke⟩ := a
  cases l with
  | nil =>
    clear h
    go_enter Try.func24, Try.ntmps24
    go_wp2
    go_ret
    exact ⟨rfl, bel1 _ _⟩
  | cons x l =>
    obtain ⟨ad, e, hb, hc⟩ := h.below (bel1 w (.cells (AV.cs ⟨r, al, A, x :: l, c, sa, sp, bo, ke⟩) 29)) 0 (by simp)
    dsimp only at e
    subst e
    rw [add0] at hc
    have hc2 : (w.alloc (.cells #[.int .i64 r, .int .i64 al, .slice (some ad) (l.length + 1) c, .int .i64 sa, .int .i64 sp, .int .i64 bo, .int .i64 ke] 29)).cell? ad = some (.int .i64 x) := hc
    clear h hc hb
    go_enter Try.func24, Try.ntmps24
    go_wp2
    go_ret
    exact ⟨rfl, bel1 _ _⟩

theorem cL_end {x y : List Int} {k : Nat} (h : x.length = k ∨ y.length = k) (hx : k ≤ x.length) (hy : k ≤ y.length) : cmpList (y.drop k) (x.drop k) = cI (y.length : Int) (x.length : Int) := by
  have hl1 := List.length_drop (i := k) (l := x)
  have hl2 := List.length_drop (i := k) (l := y)
  unfold cI Lib.compareInt
  cases e1 : x.drop k with
  | nil =>
    rw [e1] at hl1
    simp at hl1
    cases e2 : y.drop k with
    | nil => rw [e2] at hl2; simp at hl2; simp only [cmpList]; rw [if_neg (by omega), if_neg (by omega)]
    | cons _ _ => rw [e2] at hl2; simp at hl2; simp only [cmpList]; rw [if_neg (by omega), if_pos (by omega)]
  | cons _ _ =>
    rw [e1] at hl1
    simp at hl1
    cases e2 : y.drop k with
    | nil => rw [e2] at hl2; simp at hl2; simp only [cmpList]; rw [if_pos (by omega)]
    | cons _ _ => rw [e2] at hl2; simp at hl2; omega

set_option maxHeartbeats 1000000 in
theorem rlex (a b : AV) (w : World) (ha : a.ok w) (hb : b.ok w) (h1 : a.l.length ≤ 40) (h2 : b.l.length ≤ 40) : Calls Try.prog 22 #[a.v, b.v] w fun e w' => e = .returned (.int .i64 (orI (cmpList (falls b.l) (falls a.l)) (cI b.sp a.sp))) ∧ Below w.heap.size w w' := by
  obtain ⟨W0, hW0⟩ : ∃ W0, W0 = (w.alloc (.cells a.cs 29)).alloc (.cells b.cs 29) := ⟨_, rfl⟩
  have hC := boxed2t 29 w a b
  have hB := bel2 w (.cells a.cs 29) (.cells b.cs 29)
  rw [← hW0] at hC hB
  have C := Lib.hid hC; clear hC
  have OA := Lib.hid (ha.below hB)
  have OB := Lib.hid (hb.below hB)
  have B0 := Lib.hid hB; clear hB
  clear ha hb
  generalize hR : orI (cmpList (falls b.l) (falls a.l)) (cI b.sp a.sp) = R
  have HR := Lib.hid hR; clear hR
  go_enter Try.func22, Try.ntmps22
  go_wp2_with fail
  rw [← hW0]
  obtain ⟨⟨_, _, _, _, _, _, _⟩, ⟨_, _, _, _, _, _, _⟩⟩ := C.out _ (Below.refl W0.heap.size W0)
  clear hW0
  go_wp2_with fail
  refine (rfalling_any a.A a.l a.c W0 OA.out.row (by omega)).mono ?_
  rintro e w1 ⟨A1, c1, rfl, r1, b1⟩
  have E1 := Lib.hid b1
  obtain ⟨⟨_, _, _, _, _, _, _⟩, ⟨_, _, _, _, _, _, _⟩⟩ := C.out _ b1
  have R1 := Lib.hid r1
  clear b1 r1
  go_wp2_with fail
  refine (rfalling_any b.A b.l b.c w1 (OB.out.below E1.out).row (by omega)).mono ?_
  rintro e w2 ⟨A2, c2, rfl, r2, b2⟩
  have E2 := Lib.hid (E1.out.trans (b2.mono E1.out.size))
  obtain ⟨⟨_, _, _, _, _, _, _⟩, ⟨_, _, _, _, _, _, _⟩⟩ := C.out _ E2.out
  have F1 := Lib.hid (fun W (h : Below w2.heap.size w2 W) => (R1.out.below b2).below h)
  have F2 := Lib.hid (fun W (h : Below w2.heap.size w2 W) => r2.below h)
  have L1 := Lib.hid (falls_len a.l)
  have L2 := Lib.hid (falls_len b.l)
  clear b2 r2 R1
  generalize falls a.l = x at F1 L1 HR
  generalize falls b.l = y at F2 L2 HR
  go_wp2_with fail
  go_loopw [7] (fun i wr => ∃ k : Nat, k ≤ a.l.length ∧ k ≤ b.l.length ∧ i = .int .i64 k ∧ Hid (cmpList y x = cmpList (y.drop k) (x.drop k)) ∧ Hid (Below w2.heap.size w2 wr)) (fun i _ => a.l.length - (intOf i).toNat)
  case atStart => exact ⟨0, by omega, by omega, rfl, Lib.hid rfl, Lib.hid (Below.refl _ _)⟩
  case round =>
    obtain ⟨k, hka, hkb, rfl, hI, hB⟩ := hrel
    have BW := Lib.hid (B0.out.trans ((E2.out.trans (hB.out.mono E2.out.size)).mono B0.out.size))
    by_cases hlt : k < a.l.length ∧ k < b.l.length
    · obtain ⟨h3, h4⟩ := hlt
      have hkx : k < x.length := by have := L1.out; omega
      have hky : k < y.length := by have := L2.out; omega
      obtain ⟨ax, rfl, _, hx⟩ := F1.out _ hB.out k hkx
      obtain ⟨ay, rfl, _, hy⟩ := F2.out _ hB.out k hky
      have hS := hI.out.trans (cmpList_step hky hkx)
      generalize x[k] = p at *
      generalize y[k] = q at *
      have HS := Lib.hid hS; clear hS
      have h3' : (k : Int) < (a.l.length : Int) := by omega
      have h4' : (k : Int) < (b.l.length : Int) := by omega
      by_cases hpq : q < p
      · have HE : Hid (R = -1) := Lib.hid (by rw [← HR.out, HS.out]; unfold orI Lib.compareInt; simp [hpq])
        go_wp2_with fail
        go_quiet (fail)
        go_wp2_with fail
        go_ret
        exact ⟨ret_int HE.out.symm, belD BW.out⟩
      have hpq' : p ≤ q := by omega
      by_cases hqp : p < q
      · have HE : Hid (R = 1) := Lib.hid (by rw [← HR.out, HS.out]; unfold orI Lib.compareInt; simp [hpq, hqp])
        clear hpq
        go_wp2_with fail
        go_quiet (fail)
        go_wp2_with fail
        have BZ := Lib.hid (belD (n := nq) BW.out)
        have hx2 : (wr.drewN nq).cell? (ax.add k) = some (.int .i64 p) := hx
        have hy2 : (wr.drewN nq).cell? (ay.add k) = some (.int .i64 q) := hy
        generalize wr.drewN nq = wz at *
        clear hx hy
        go_quiet (fail)
        go_wp2_with fail
        go_ret
        exact ⟨ret_int HE.out.symm, belD BZ.out⟩
      · have HE : Hid (cmpList y x = cmpList (y.drop (k + 1)) (x.drop (k + 1))) := Lib.hid (by rw [HS.out]; unfold Lib.compareInt; simp [hpq, hqp])
        have hqp' : q ≤ p := by omega
        clear hpq hqp
        go_wp2_with fail
        go_quiet (fail)
        go_wp2_with fail
        have BZ := Lib.hid (belD (n := nq) hB.out)
        have hx2 : (wr.drewN nq).cell? (ax.add k) = some (.int .i64 p) := hx
        have hy2 : (wr.drewN nq).cell? (ay.add k) = some (.int .i64 q) := hy
        generalize wr.drewN nq = wz at *
        clear hx hy
        go_quiet (fail)
        go_wp2_with fail
        go_roundw
        case rel => exact ⟨k + 1, by omega, by omega, by go_num, HE, Lib.hid (belD BZ.out)⟩
        case measure => first | (simp [intOf]; done) | (simp [intOf]; omega)
    · obtain ⟨⟨_, _, _, _, _, _, _⟩, ⟨_, _, _, _, _, _, _⟩⟩ := C.out _ (E2.out.trans (hB.out.mono E2.out.size))
      have HE : Hid (R = orI (cI (b.l.length : Int) (a.l.length : Int)) (cI b.sp a.sp)) := Lib.hid (by
        have e1 := L1.out; have e2 := L2.out
        rw [← HR.out, hI.out, cL_end (by omega) (by omega) (by omega), e1, e2])
      by_cases hk1 : k < a.l.length
      · have hk2 : k = b.l.length := by omega
        have hk1' : (k : Int) < (a.l.length : Int) := by omega
        have hd : decide ((k : Int) < (b.l.length : Int)) = false := by simp; omega
        have hd2 : decide (k < b.l.length) = false := by simp; omega
        clear hlt hk2
        go_wp2_with fail
        go_big_quiet (first | (go_at_call 21; refine Calls.quiet_of_same (rcmp_q _ _ _)) | (go_at_call 23; refine Calls.quiet_of_same (reither_q _ _ _)))
        go_wp2_with fail
        go_ret
        exact ⟨ret_int HE.out.symm, belD BW.out⟩
      · have hd : decide ((k : Int) < (a.l.length : Int)) = false := by simp; omega
        have hd2 : decide (k < a.l.length) = false := by simp; omega
        clear hlt hk1
        go_wp2_with fail
        go_big_quiet (first | (go_at_call 21; refine Calls.quiet_of_same (rcmp_q _ _ _)) | (go_at_call 23; refine Calls.quiet_of_same (reither_q _ _ _)))
        go_wp2_with fail
        go_ret
        exact ⟨ret_int HE.out.symm, belD BW.out⟩
end Go.Proofs.Ytbogjhgnnmgiaaa
