/- The reference's Before; Of. -/
import Derived.Test.YtbogjhgnnmgiaaaSw
import Derived.Deep.RegionHeld3
namespace Go.Proofs.Ytbogjhgnnmgiaaa
open Go.Shelf Go.RowKit Go.Lib

theorem ofW (a : AV) (w : World) : Calls Try.prog 14 #[a.v] w fun e w' => e = .returned a.v ∧ Below w.heap.size w w' := by
  go_enter Try.func14, Try.ntmps14
  go_wp2
  exact bodyPost_ret (v := a.v) (by simp [results, Try.results14, go_sem]) rfl ⟨rfl, bel2 w _ _⟩

/-- c first, then the later one. -/
def fin (c : Int) (a b : AV) : Bool := if c ≠ 0 then decide (c < 0) else decide (b.bo < a.bo)
theorem fin_is (c : Int) (a b : AV) : decide (orI c (cI b.bo a.bo) < 0) = fin c a b := by
  unfold fin orI
  split
  · rfl
  · exact decide_eq_decide.2 cI_lt
theorem rk_tail (s : Int) (a b : AV) (h : a.sa = b.sa) : rk s a b =
  if s = 2 then cI a.bo b.bo else
  if s = 3 then orI (cI a.sp b.sp) (cI b.bo a.bo) else
  if s = 7 then orI (cI a.ke b.ke) (cI b.bo a.bo) else
  if s = 6 then orI (orI (cI (firstI b.l) (firstI a.l)) (orI (cmpList (falls b.l) (falls a.l)) (cI b.sp a.sp))) (cI b.bo a.bo) else
  if s = 5 then orI (orI (cmpList (falls b.l) (falls a.l)) (cI b.sp a.sp)) (cI b.bo a.bo) else
  if s = 4 then orI (cI b.sp a.sp) (cI b.bo a.bo) else orI 0 (cI b.bo a.bo) := by
  have h0 : cI b.sa a.sa = 0 := cI_eq.2 h.symm
  unfold rk rankF
  rw [if_neg (by simp [h0])]
  have e : ∀ x y z : Int, orI x (orI y z) = orI (orI x y) z := by intro x y z; unfold orI; split <;> simp_all
  have e5 : rank5 a.l a.sp a.bo b.l b.sp b.bo = orI (cmpList (falls b.l) (falls a.l)) (orI (cI b.sp a.sp) (cI b.bo a.bo)) := rfl
  rw [e5, e]
  have e6 : ∀ x y : Int, (if x ≠ 0 then x else y) = orI x y := fun _ _ => rfl
  rw [e6, e]
theorem bef2 (a b : AV) (h : a.sa = b.sa) : before 2 a b = decide (a.bo < b.bo) := by
  unfold before; rw [rk_tail 2 a b h]; exact decide_eq_decide.2 cI_lt
theorem bef3 (a b : AV) (h : a.sa = b.sa) : before 3 a b = fin (cI a.sp b.sp) a b := by
  unfold before; rw [rk_tail 3 a b h]; exact fin_is _ _ _
theorem bef4 (a b : AV) (h : a.sa = b.sa) : before 4 a b = fin (cI b.sp a.sp) a b := by
  unfold before; rw [rk_tail 4 a b h]; exact fin_is _ _ _
theorem bef5 (a b : AV) (h : a.sa = b.sa) : before 5 a b = fin (orI (cmpList (falls b.l) (falls a.l)) (cI b.sp a.sp)) a b := by
  unfold before; rw [rk_tail 5 a b h]; exact fin_is _ _ _
theorem bef6 (a b : AV) (h : a.sa = b.sa) : before 6 a b = fin (orI (cI (firstI b.l) (firstI a.l)) (orI (cmpList (falls b.l) (falls a.l)) (cI b.sp a.sp))) a b := by
  unfold before; rw [rk_tail 6 a b h]; exact fin_is _ _ _
theorem bef7 (a b : AV) (h : a.sa = b.sa) : before 7 a b = if a.ke = b.ke then decide (b.bo < a.bo) else decide (a.ke < b.ke) := by
  unfold before; rw [rk_tail 7 a b h]
  show decide (orI (cI a.ke b.ke) (cI b.bo a.bo) < 0) = _
  rw [fin_is]
  unfold fin
  by_cases e : a.ke = b.ke
  · rw [if_neg (by simp [cI_eq.2 e]), if_pos e]
  · rw [if_pos (fun h => e (cI_eq.1 h)), if_neg e]; exact decide_eq_decide.2 cI_lt
theorem bef0 (s : Int) (a b : AV) (h : a.sa = b.sa) (h2 : s ≠ 2) (h3 : s ≠ 3) (h4 : s ≠ 4) (h5 : s ≠ 5) (h6 : s ≠ 6) (h7 : s ≠ 7) : before s a b = decide (b.bo < a.bo) := by
  unfold before; rw [rk_tail s a b h, if_neg h2, if_neg h3, if_neg h7, if_neg h6, if_neg h5, if_neg h4]
  show decide (orI 0 (cI b.bo a.bo) < 0) = _
  rw [fin_is]; rfl
theorem rfirst_w (a : AV) {W0 W : World} (h : a.ok W0) (hW : Below W0.heap.size W0 W) : Calls Try.prog 24 #[a.v] W fun e w' => e = .returned (.int .i64 (firstI a.l)) ∧ Below W0.heap.size W0 w' :=
  (rfirst a W (h.below hW).row).mono fun _ _ h => ⟨h.1, hW.trans (h.2.mono hW.size)⟩
theorem rlex_w (a b : AV) {W0 W : World} (ha : a.ok W0) (hb : b.ok W0) (h1 : a.l.length ≤ 40) (h2 : b.l.length ≤ 40) (hW : Below W0.heap.size W0 W) : Calls Try.prog 22 #[a.v, b.v] W fun e w' => e = .returned (.int .i64 (orI (cmpList (falls b.l) (falls a.l)) (cI b.sp a.sp))) ∧ Below W0.heap.size W0 w' :=
  (rlex a b W (ha.below hW) (hb.below hW) h1 h2).mono fun _ _ h => ⟨h.1, hW.trans (h.2.mono hW.size)⟩
theorem rcmp_w (a b : Int) {W0 W : World} (hW : Below W0.heap.size W0 W) : Calls Try.prog 21 #[.int .i64 a, .int .i64 b] W fun e w' => e = .returned (.int .i64 (cI a b)) ∧ Below W0.heap.size W0 w' :=
  (rcmp a b W).mono fun _ _ h => ⟨h.1, h.2 ▸ hW⟩
theorem reither_w (a b : Int) {W0 W : World} (hW : Below W0.heap.size W0 W) : Calls Try.prog 23 #[.int .i64 a, .int .i64 b] W fun e w' => e = .returned (.int .i64 (orI a b)) ∧ Below W0.heap.size W0 w' :=
  (reither a b W).mono fun _ _ h => ⟨h.1, h.2 ▸ hW⟩
theorem fin_no {c : Int} {a b : AV} (h : c = 0) : fin c a b = decide (b.bo < a.bo) := by unfold fin; rw [if_neg (by simp [h])]
theorem fin_yes {c : Int} {a b : AV} (h : c ≠ 0) : fin c a b = decide (c < 0) := by unfold fin; rw [if_pos h]

set_option maxHeartbeats 1000000 in
theorem rb_sal (a b : AV) (w : World) (s : Int) (hs : (a.sa == b.sa) = false) : Calls Try.prog 13 #[.int .i64 s, a.v, b.v] w fun e w' => e = .returned (.bool (decide (b.sa < a.sa))) ∧ Below w.heap.size w w' := by
  obtain ⟨W0, hW0⟩ : ∃ W0, W0 = (w.alloc (.cells a.cs 29)).alloc (.cells b.cs 29) := ⟨_, rfl⟩
  have hC := boxed2t 29 w a b
  have hB := bel2 w (.cells a.cs 29) (.cells b.cs 29)
  rw [← hW0] at hC hB
  have C := Lib.hid hC; clear hC
  have B0 := Lib.hid hB; clear hB
  go_enter Try.func13, Try.ntmps13
  go_wp2_with fail
  rw [← hW0]
  obtain ⟨⟨_, _, _, _, _, _, _⟩, ⟨_, _, _, _, _, _, _⟩⟩ := C.out _ (Below.refl W0.heap.size W0)
  clear hW0
  go_wp2_with fail
  go_ret
  exact ⟨rfl, B0.out⟩

set_option maxHeartbeats 1000000 in
theorem rb_2 (a b : AV) (w : World) (hs : (a.sa == b.sa) = true) : Calls Try.prog 13 #[.int .i64 2, a.v, b.v] w fun e w' => e = .returned (.bool (decide (a.bo < b.bo))) ∧ Below w.heap.size w w' := by
  obtain ⟨W0, hW0⟩ : ∃ W0, W0 = (w.alloc (.cells a.cs 29)).alloc (.cells b.cs 29) := ⟨_, rfl⟩
  have hC := boxed2t 29 w a b
  have hB := bel2 w (.cells a.cs 29) (.cells b.cs 29)
  rw [← hW0] at hC hB
  have C := Lib.hid hC; clear hC
  have B0 := Lib.hid hB; clear hB
  go_enter Try.func13, Try.ntmps13
  go_wp2_with fail
  rw [← hW0]
  obtain ⟨⟨_, _, _, _, _, _, _⟩, ⟨_, _, _, _, _, _, _⟩⟩ := C.out _ (Below.refl W0.heap.size W0)
  clear hW0
  go_wp2_with fail
  go_ret
  exact ⟨rfl, B0.out⟩

set_option maxHeartbeats 1000000 in
theorem rb_0 (a b : AV) (w : World) (s : Int) (hs : (a.sa == b.sa) = true) (h2 : (s == 2) = false) (h3 : (s == 3) = false) (h4 : (s == 4) = false) (h5 : (s == 5) = false) (h6 : (s == 6) = false) (h7 : (s == 7) = false) : Calls Try.prog 13 #[.int .i64 s, a.v, b.v] w fun e w' => e = .returned (.bool (decide (b.bo < a.bo))) ∧ Below w.heap.size w w' := by
  obtain ⟨W0, hW0⟩ : ∃ W0, W0 = (w.alloc (.cells a.cs 29)).alloc (.cells b.cs 29) := ⟨_, rfl⟩
  have hC := boxed2t 29 w a b
  have hB := bel2 w (.cells a.cs 29) (.cells b.cs 29)
  rw [← hW0] at hC hB
  have C := Lib.hid hC; clear hC
  have B0 := Lib.hid hB; clear hB
  go_enter Try.func13, Try.ntmps13
  go_wp2_with fail
  rw [← hW0]
  obtain ⟨⟨_, _, _, _, _, _, _⟩, ⟨_, _, _, _, _, _, _⟩⟩ := C.out _ (Below.refl W0.heap.size W0)
  clear hW0
  go_wp2_with fail
  go_ret
  exact ⟨rfl, B0.out⟩

set_option maxHeartbeats 1000000 in
theorem rb_7a (a b : AV) (w : World) (hs : (a.sa == b.sa) = true) (hk : (a.ke == b.ke) = true) : Calls Try.prog 13 #[.int .i64 7, a.v, b.v] w fun e w' => e = .returned (.bool (decide (b.bo < a.bo))) ∧ Below w.heap.size w w' := by
  obtain ⟨W0, hW0⟩ : ∃ W0, W0 = (w.alloc (.cells a.cs 29)).alloc (.cells b.cs 29) := ⟨_, rfl⟩
  have hC := boxed2t 29 w a b
  have hB := bel2 w (.cells a.cs 29) (.cells b.cs 29)
  rw [← hW0] at hC hB
  have C := Lib.hid hC; clear hC
  have B0 := Lib.hid hB; clear hB
  go_enter Try.func13, Try.ntmps13
  go_wp2_with fail
  rw [← hW0]
  obtain ⟨⟨_, _, _, _, _, _, _⟩, ⟨_, _, _, _, _, _, _⟩⟩ := C.out _ (Below.refl W0.heap.size W0)
  clear hW0
  go_wp2_with fail
  go_ret
  exact ⟨rfl, B0.out⟩

set_option maxHeartbeats 1000000 in
theorem rb_7b (a b : AV) (w : World) (hs : (a.sa == b.sa) = true) (hk : (a.ke == b.ke) = false) : Calls Try.prog 13 #[.int .i64 7, a.v, b.v] w fun e w' => e = .returned (.bool (decide (a.ke < b.ke))) ∧ Below w.heap.size w w' := by
  obtain ⟨W0, hW0⟩ : ∃ W0, W0 = (w.alloc (.cells a.cs 29)).alloc (.cells b.cs 29) := ⟨_, rfl⟩
  have hC := boxed2t 29 w a b
  have hB := bel2 w (.cells a.cs 29) (.cells b.cs 29)
  rw [← hW0] at hC hB
  have C := Lib.hid hC; clear hC
  have B0 := Lib.hid hB; clear hB
  go_enter Try.func13, Try.ntmps13
  go_wp2_with fail
  rw [← hW0]
  obtain ⟨⟨_, _, _, _, _, _, _⟩, ⟨_, _, _, _, _, _, _⟩⟩ := C.out _ (Below.refl W0.heap.size W0)
  clear hW0
  go_wp2_with fail
  go_ret
  exact ⟨rfl, B0.out⟩

set_option maxHeartbeats 1000000 in
theorem rb_3y (a b : AV) (w : World) (hs : (a.sa == b.sa) = true) (c : Int) (hc : (c == 0) = true) (hq : Hid (cI a.sp b.sp = c)) : Calls Try.prog 13 #[.int .i64 3, a.v, b.v] w fun e w' => e = .returned (.bool (decide (b.bo < a.bo))) ∧ Below w.heap.size w w' := by
  obtain ⟨W0, hW0⟩ : ∃ W0, W0 = (w.alloc (.cells a.cs 29)).alloc (.cells b.cs 29) := ⟨_, rfl⟩
  have hC := boxed2t 29 w a b
  have hB := bel2 w (.cells a.cs 29) (.cells b.cs 29)
  rw [← hW0] at hC hB
  have C := Lib.hid hC; clear hC
  have B0 := Lib.hid hB; clear hB
  go_enter Try.func13, Try.ntmps13
  go_wp2_with fail
  rw [← hW0]
  obtain ⟨⟨_, _, _, _, _, _, _⟩, ⟨_, _, _, _, _, _, _⟩⟩ := C.out _ (Below.refl W0.heap.size W0)
  clear hW0
  go_wp2_with fail
  refine (rcmp_w a.sp b.sp (Below.refl W0.heap.size W0)).mono ?_
  rw [hq.out]
  rintro e w1 ⟨rfl, b1⟩
  obtain ⟨⟨_, _, _, _, _, _, _⟩, ⟨_, _, _, _, _, _, _⟩⟩ := C.out _ b1
  have E1 := Lib.hid (B0.out.trans (b1.mono B0.out.size)); clear b1
  go_wp2_with fail
  go_ret
  exact ⟨rfl, E1.out⟩

set_option maxHeartbeats 1000000 in
theorem rb_4y (a b : AV) (w : World) (hs : (a.sa == b.sa) = true) (c : Int) (hc : (c == 0) = true) (hq : Hid (cI b.sp a.sp = c)) : Calls Try.prog 13 #[.int .i64 4, a.v, b.v] w fun e w' => e = .returned (.bool (decide (b.bo < a.bo))) ∧ Below w.heap.size w w' := by
  obtain ⟨W0, hW0⟩ : ∃ W0, W0 = (w.alloc (.cells a.cs 29)).alloc (.cells b.cs 29) := ⟨_, rfl⟩
  have hC := boxed2t 29 w a b
  have hB := bel2 w (.cells a.cs 29) (.cells b.cs 29)
  rw [← hW0] at hC hB
  have C := Lib.hid hC; clear hC
  have B0 := Lib.hid hB; clear hB
  go_enter Try.func13, Try.ntmps13
  go_wp2_with fail
  rw [← hW0]
  obtain ⟨⟨_, _, _, _, _, _, _⟩, ⟨_, _, _, _, _, _, _⟩⟩ := C.out _ (Below.refl W0.heap.size W0)
  clear hW0
  go_wp2_with fail
  refine (rcmp_w b.sp a.sp (Below.refl W0.heap.size W0)).mono ?_
  rw [hq.out]
  rintro e w1 ⟨rfl, b1⟩
  obtain ⟨⟨_, _, _, _, _, _, _⟩, ⟨_, _, _, _, _, _, _⟩⟩ := C.out _ b1
  have E1 := Lib.hid (B0.out.trans (b1.mono B0.out.size)); clear b1
  go_wp2_with fail
  go_ret
  exact ⟨rfl, E1.out⟩

set_option maxHeartbeats 1000000 in
theorem rb_5y (a b : AV) (w : World) (ha : a.ok w) (hb : b.ok w) (h1 : a.l.length ≤ 40) (h2 : b.l.length ≤ 40) (hs : (a.sa == b.sa) = true) (c : Int) (hc : (c == 0) = true) (hq : Hid (orI (cmpList (falls b.l) (falls a.l)) (cI b.sp a.sp) = c)) : Calls Try.prog 13 #[.int .i64 5, a.v, b.v] w fun e w' => e = .returned (.bool (decide (b.bo < a.bo))) ∧ Below w.heap.size w w' := by
  obtain ⟨W0, hW0⟩ : ∃ W0, W0 = (w.alloc (.cells a.cs 29)).alloc (.cells b.cs 29) := ⟨_, rfl⟩
  have hC := boxed2t 29 w a b
  have hB := bel2 w (.cells a.cs 29) (.cells b.cs 29)
  rw [← hW0] at hC hB
  have C := Lib.hid hC; clear hC
  have OA := Lib.hid (ha.below hB)
  have OB := Lib.hid (hb.below hB)
  clear ha hb
  have B0 := Lib.hid hB; clear hB
  go_enter Try.func13, Try.ntmps13
  go_wp2_with fail
  rw [← hW0]
  obtain ⟨⟨_, _, _, _, _, _, _⟩, ⟨_, _, _, _, _, _, _⟩⟩ := C.out _ (Below.refl W0.heap.size W0)
  clear hW0
  go_wp2_with fail
  refine (rlex_w a b OA.out OB.out h1 h2 (Below.refl W0.heap.size W0)).mono ?_
  rw [hq.out]
  rintro e w1 ⟨rfl, b1⟩
  obtain ⟨⟨_, _, _, _, _, _, _⟩, ⟨_, _, _, _, _, _, _⟩⟩ := C.out _ b1
  have E1 := Lib.hid (B0.out.trans (b1.mono B0.out.size)); clear b1
  go_wp2_with fail
  go_ret
  exact ⟨rfl, E1.out⟩

set_option maxHeartbeats 1000000 in
theorem rb_6y (a b : AV) (w : World) (ha : a.ok w) (hb : b.ok w) (h1 : a.l.length ≤ 40) (h2 : b.l.length ≤ 40) (hs : (a.sa == b.sa) = true) (c : Int) (hc : (c == 0) = true) (hq : Hid (orI (cI (firstI b.l) (firstI a.l)) (orI (cmpList (falls b.l) (falls a.l)) (cI b.sp a.sp)) = c)) : Calls Try.prog 13 #[.int .i64 6, a.v, b.v] w fun e w' => e = .returned (.bool (decide (b.bo < a.bo))) ∧ Below w.heap.size w w' := by
  obtain ⟨W0, hW0⟩ : ∃ W0, W0 = (w.alloc (.cells a.cs 29)).alloc (.cells b.cs 29) := ⟨_, rfl⟩
  have hC := boxed2t 29 w a b
  have hB := bel2 w (.cells a.cs 29) (.cells b.cs 29)
  rw [← hW0] at hC hB
  have C := Lib.hid hC; clear hC
  have OA := Lib.hid (ha.below hB)
  have OB := Lib.hid (hb.below hB)
  clear ha hb
  have B0 := Lib.hid hB; clear hB
  go_enter Try.func13, Try.ntmps13
  go_wp2_with fail
  rw [← hW0]
  obtain ⟨⟨_, _, _, _, _, _, _⟩, ⟨_, _, _, _, _, _, _⟩⟩ := C.out _ (Below.refl W0.heap.size W0)
  clear hW0
  go_wp2_with fail
  have K : Hid (∀ w', Below W0.heap.size W0 w' → (Below W0.heap.size W0 w' ∧ w'.cell? ⟨w.heap.size, 0, none⟩ = some (.int .i64 a.r) ∧ w'.cell? ⟨w.heap.size, 1, none⟩ = some (.int .i64 a.al) ∧ w'.cell? ⟨w.heap.size, 2, none⟩ = some (.slice a.A a.l.length a.c) ∧ w'.cell? ⟨w.heap.size, 3, none⟩ = some (.int .i64 a.sa) ∧ w'.cell? ⟨w.heap.size, 4, none⟩ = some (.int .i64 a.sp) ∧ w'.cell? ⟨w.heap.size, 5, none⟩ = some (.int .i64 a.bo) ∧ w'.cell? ⟨w.heap.size, 6, none⟩ = some (.int .i64 a.ke) ∧ w'.cell? ⟨w.heap.size + 1, 0, none⟩ = some (.int .i64 b.r) ∧ w'.cell? ⟨w.heap.size + 1, 1, none⟩ = some (.int .i64 b.al) ∧ w'.cell? ⟨w.heap.size + 1, 2, none⟩ = some (.slice b.A b.l.length b.c) ∧ w'.cell? ⟨w.heap.size + 1, 3, none⟩ = some (.int .i64 b.sa) ∧ w'.cell? ⟨w.heap.size + 1, 4, none⟩ = some (.int .i64 b.sp) ∧ w'.cell? ⟨w.heap.size + 1, 5, none⟩ = some (.int .i64 b.bo) ∧ w'.cell? ⟨w.heap.size + 1, 6, none⟩ = some (.int .i64 b.ke))) := Lib.hid (fun w' h => by
    obtain ⟨⟨h0, h1, h2, h3, h4, h5, h6⟩, g0, g1, g2, g3, g4, g5, g6⟩ := C.out _ h
    exact ⟨h, h0, h1, h2, h3, h4, h5, h6, g0, g1, g2, g3, g4, g5, g6⟩)
  have D0 := belDr (Below.refl W0.heap.size W0)
  go_region_held3 (fun w' => Below W0.heap.size W0 w' ∧ w'.cell? ⟨w.heap.size, 0, none⟩ = some (.int .i64 a.r) ∧ w'.cell? ⟨w.heap.size, 1, none⟩ = some (.int .i64 a.al) ∧ w'.cell? ⟨w.heap.size, 2, none⟩ = some (.slice a.A a.l.length a.c) ∧ w'.cell? ⟨w.heap.size, 3, none⟩ = some (.int .i64 a.sa) ∧ w'.cell? ⟨w.heap.size, 4, none⟩ = some (.int .i64 a.sp) ∧ w'.cell? ⟨w.heap.size, 5, none⟩ = some (.int .i64 a.bo) ∧ w'.cell? ⟨w.heap.size, 6, none⟩ = some (.int .i64 a.ke) ∧ w'.cell? ⟨w.heap.size + 1, 0, none⟩ = some (.int .i64 b.r) ∧ w'.cell? ⟨w.heap.size + 1, 1, none⟩ = some (.int .i64 b.al) ∧ w'.cell? ⟨w.heap.size + 1, 2, none⟩ = some (.slice b.A b.l.length b.c) ∧ w'.cell? ⟨w.heap.size + 1, 3, none⟩ = some (.int .i64 b.sa) ∧ w'.cell? ⟨w.heap.size + 1, 4, none⟩ = some (.int .i64 b.sp) ∧ w'.cell? ⟨w.heap.size + 1, 5, none⟩ = some (.int .i64 b.bo) ∧ w'.cell? ⟨w.heap.size + 1, 6, none⟩ = some (.int .i64 b.ke))
    (first | exact K.out _ (by assumption) | exact K.out _ (belDr (by assumption)))
    (first
      | (go_at_call_of 24 b.A; refine (rfirst_w b OB.out (by first | assumption | (refine belDr ?_; assumption))).mono ?_; rintro e w' ⟨rfl, hb9⟩)
      | (go_at_call_of 24 a.A; refine (rfirst_w a OA.out (by first | assumption | (refine belDr ?_; assumption))).mono ?_; rintro e w' ⟨rfl, hb9⟩)
      | (go_at_call 21; refine (rcmp_w _ _ (by first | assumption | (refine belDr ?_; assumption))).mono ?_; rintro e w' ⟨rfl, hb9⟩)
      | (go_at_call 22; refine (rlex_w a b OA.out OB.out h1 h2 (by first | assumption | (refine belDr ?_; assumption))).mono ?_; rintro e w' ⟨rfl, hb9⟩)
      | (go_at_call 23; refine (reither_w _ _ (by first | assumption | (refine belDr ?_; assumption))).mono ?_; rw [hq.out]; rintro e w' ⟨rfl, hb9⟩))
  all_goals
    rename Below W0.heap.size W0 _ => hb9
    obtain ⟨⟨_, _, _, _, _, _, _⟩, ⟨_, _, _, _, _, _, _⟩⟩ := C.out _ hb9
    have E := Lib.hid (B0.out.trans (hb9.mono B0.out.size))
    go_wp2
    go_ret
    exact ⟨rfl, E.out⟩

set_option maxHeartbeats 1000000 in
theorem rb_3n (a b : AV) (w : World) (hs : (a.sa == b.sa) = true) (c : Int) (hc : (c == 0) = false) (hq : Hid (cI a.sp b.sp = c)) : Calls Try.prog 13 #[.int .i64 3, a.v, b.v] w fun e w' => e = .returned (.bool (decide (c < 0))) ∧ Below w.heap.size w w' := by
  obtain ⟨W0, hW0⟩ : ∃ W0, W0 = (w.alloc (.cells a.cs 29)).alloc (.cells b.cs 29) := ⟨_, rfl⟩
  have hC := boxed2t 29 w a b
  have hB := bel2 w (.cells a.cs 29) (.cells b.cs 29)
  rw [← hW0] at hC hB
  have C := Lib.hid hC; clear hC
  have B0 := Lib.hid hB; clear hB
  go_enter Try.func13, Try.ntmps13
  go_wp2_with fail
  rw [← hW0]
  obtain ⟨⟨_, _, _, _, _, _, _⟩, ⟨_, _, _, _, _, _, _⟩⟩ := C.out _ (Below.refl W0.heap.size W0)
  clear hW0
  go_wp2_with fail
  refine (rcmp_w a.sp b.sp (Below.refl W0.heap.size W0)).mono ?_
  rw [hq.out]
  rintro e w1 ⟨rfl, b1⟩
  obtain ⟨⟨_, _, _, _, _, _, _⟩, ⟨_, _, _, _, _, _, _⟩⟩ := C.out _ b1
  have E1 := Lib.hid (B0.out.trans (b1.mono B0.out.size)); clear b1
  go_wp2_with fail
  go_ret
  exact ⟨rfl, E1.out⟩

set_option maxHeartbeats 1000000 in
theorem rb_4n (a b : AV) (w : World) (hs : (a.sa == b.sa) = true) (c : Int) (hc : (c == 0) = false) (hq : Hid (cI b.sp a.sp = c)) : Calls Try.prog 13 #[.int .i64 4, a.v, b.v] w fun e w' => e = .returned (.bool (decide (c < 0))) ∧ Below w.heap.size w w' := by
  obtain ⟨W0, hW0⟩ : ∃ W0, W0 = (w.alloc (.cells a.cs 29)).alloc (.cells b.cs 29) := ⟨_, rfl⟩
  have hC := boxed2t 29 w a b
  have hB := bel2 w (.cells a.cs 29) (.cells b.cs 29)
  rw [← hW0] at hC hB
  have C := Lib.hid hC; clear hC
  have B0 := Lib.hid hB; clear hB
  go_enter Try.func13, Try.ntmps13
  go_wp2_with fail
  rw [← hW0]
  obtain ⟨⟨_, _, _, _, _, _, _⟩, ⟨_, _, _, _, _, _, _⟩⟩ := C.out _ (Below.refl W0.heap.size W0)
  clear hW0
  go_wp2_with fail
  refine (rcmp_w b.sp a.sp (Below.refl W0.heap.size W0)).mono ?_
  rw [hq.out]
  rintro e w1 ⟨rfl, b1⟩
  obtain ⟨⟨_, _, _, _, _, _, _⟩, ⟨_, _, _, _, _, _, _⟩⟩ := C.out _ b1
  have E1 := Lib.hid (B0.out.trans (b1.mono B0.out.size)); clear b1
  go_wp2_with fail
  go_ret
  exact ⟨rfl, E1.out⟩

set_option maxHeartbeats 1000000 in
theorem rb_5n (a b : AV) (w : World) (ha : a.ok w) (hb : b.ok w) (h1 : a.l.length ≤ 40) (h2 : b.l.length ≤ 40) (hs : (a.sa == b.sa) = true) (c : Int) (hc : (c == 0) = false) (hq : Hid (orI (cmpList (falls b.l) (falls a.l)) (cI b.sp a.sp) = c)) : Calls Try.prog 13 #[.int .i64 5, a.v, b.v] w fun e w' => e = .returned (.bool (decide (c < 0))) ∧ Below w.heap.size w w' := by
  obtain ⟨W0, hW0⟩ : ∃ W0, W0 = (w.alloc (.cells a.cs 29)).alloc (.cells b.cs 29) := ⟨_, rfl⟩
  have hC := boxed2t 29 w a b
  have hB := bel2 w (.cells a.cs 29) (.cells b.cs 29)
  rw [← hW0] at hC hB
  have C := Lib.hid hC; clear hC
  have OA := Lib.hid (ha.below hB)
  have OB := Lib.hid (hb.below hB)
  clear ha hb
  have B0 := Lib.hid hB; clear hB
  go_enter Try.func13, Try.ntmps13
  go_wp2_with fail
  rw [← hW0]
  obtain ⟨⟨_, _, _, _, _, _, _⟩, ⟨_, _, _, _, _, _, _⟩⟩ := C.out _ (Below.refl W0.heap.size W0)
  clear hW0
  go_wp2_with fail
  refine (rlex_w a b OA.out OB.out h1 h2 (Below.refl W0.heap.size W0)).mono ?_
  rw [hq.out]
  rintro e w1 ⟨rfl, b1⟩
  obtain ⟨⟨_, _, _, _, _, _, _⟩, ⟨_, _, _, _, _, _, _⟩⟩ := C.out _ b1
  have E1 := Lib.hid (B0.out.trans (b1.mono B0.out.size)); clear b1
  go_wp2_with fail
  go_ret
  exact ⟨rfl, E1.out⟩

set_option maxHeartbeats 1000000 in
theorem rb_6n (a b : AV) (w : World) (ha : a.ok w) (hb : b.ok w) (h1 : a.l.length ≤ 40) (h2 : b.l.length ≤ 40) (hs : (a.sa == b.sa) = true) (c : Int) (hc : (c == 0) = false) (hq : Hid (orI (cI (firstI b.l) (firstI a.l)) (orI (cmpList (falls b.l) (falls a.l)) (cI b.sp a.sp)) = c)) : Calls Try.prog 13 #[.int .i64 6, a.v, b.v] w fun e w' => e = .returned (.bool (decide (c < 0))) ∧ Below w.heap.size w w' := by
  obtain ⟨W0, hW0⟩ : ∃ W0, W0 = (w.alloc (.cells a.cs 29)).alloc (.cells b.cs 29) := ⟨_, rfl⟩
  have hC := boxed2t 29 w a b
  have hB := bel2 w (.cells a.cs 29) (.cells b.cs 29)
  rw [← hW0] at hC hB
  have C := Lib.hid hC; clear hC
  have OA := Lib.hid (ha.below hB)
  have OB := Lib.hid (hb.below hB)
  clear ha hb
  have B0 := Lib.hid hB; clear hB
  go_enter Try.func13, Try.ntmps13
  go_wp2_with fail
  rw [← hW0]
  obtain ⟨⟨_, _, _, _, _, _, _⟩, ⟨_, _, _, _, _, _, _⟩⟩ := C.out _ (Below.refl W0.heap.size W0)
  clear hW0
  go_wp2_with fail
  have K : Hid (∀ w', Below W0.heap.size W0 w' → (Below W0.heap.size W0 w' ∧ w'.cell? ⟨w.heap.size, 0, none⟩ = some (.int .i64 a.r) ∧ w'.cell? ⟨w.heap.size, 1, none⟩ = some (.int .i64 a.al) ∧ w'.cell? ⟨w.heap.size, 2, none⟩ = some (.slice a.A a.l.length a.c) ∧ w'.cell? ⟨w.heap.size, 3, none⟩ = some (.int .i64 a.sa) ∧ w'.cell? ⟨w.heap.size, 4, none⟩ = some (.int .i64 a.sp) ∧ w'.cell? ⟨w.heap.size, 5, none⟩ = some (.int .i64 a.bo) ∧ w'.cell? ⟨w.heap.size, 6, none⟩ = some (.int .i64 a.ke) ∧ w'.cell? ⟨w.heap.size + 1, 0, none⟩ = some (.int .i64 b.r) ∧ w'.cell? ⟨w.heap.size + 1, 1, none⟩ = some (.int .i64 b.al) ∧ w'.cell? ⟨w.heap.size + 1, 2, none⟩ = some (.slice b.A b.l.length b.c) ∧ w'.cell? ⟨w.heap.size + 1, 3, none⟩ = some (.int .i64 b.sa) ∧ w'.cell? ⟨w.heap.size + 1, 4, none⟩ = some (.int .i64 b.sp) ∧ w'.cell? ⟨w.heap.size + 1, 5, none⟩ = some (.int .i64 b.bo) ∧ w'.cell? ⟨w.heap.size + 1, 6, none⟩ = some (.int .i64 b.ke))) := Lib.hid (fun w' h => by
    obtain ⟨⟨h0, h1, h2, h3, h4, h5, h6⟩, g0, g1, g2, g3, g4, g5, g6⟩ := C.out _ h
    exact ⟨h, h0, h1, h2, h3, h4, h5, h6, g0, g1, g2, g3, g4, g5, g6⟩)
  have D0 := belDr (Below.refl W0.heap.size W0)
  go_region_held3 (fun w' => Below W0.heap.size W0 w' ∧ w'.cell? ⟨w.heap.size, 0, none⟩ = some (.int .i64 a.r) ∧ w'.cell? ⟨w.heap.size, 1, none⟩ = some (.int .i64 a.al) ∧ w'.cell? ⟨w.heap.size, 2, none⟩ = some (.slice a.A a.l.length a.c) ∧ w'.cell? ⟨w.heap.size, 3, none⟩ = some (.int .i64 a.sa) ∧ w'.cell? ⟨w.heap.size, 4, none⟩ = some (.int .i64 a.sp) ∧ w'.cell? ⟨w.heap.size, 5, none⟩ = some (.int .i64 a.bo) ∧ w'.cell? ⟨w.heap.size, 6, none⟩ = some (.int .i64 a.ke) ∧ w'.cell? ⟨w.heap.size + 1, 0, none⟩ = some (.int .i64 b.r) ∧ w'.cell? ⟨w.heap.size + 1, 1, none⟩ = some (.int .i64 b.al) ∧ w'.cell? ⟨w.heap.size + 1, 2, none⟩ = some (.slice b.A b.l.length b.c) ∧ w'.cell? ⟨w.heap.size + 1, 3, none⟩ = some (.int .i64 b.sa) ∧ w'.cell? ⟨w.heap.size + 1, 4, none⟩ = some (.int .i64 b.sp) ∧ w'.cell? ⟨w.heap.size + 1, 5, none⟩ = some (.int .i64 b.bo) ∧ w'.cell? ⟨w.heap.size + 1, 6, none⟩ = some (.int .i64 b.ke))
    (first | exact K.out _ (by assumption) | exact K.out _ (belDr (by assumption)))
    (first
      | (go_at_call_of 24 b.A; refine (rfirst_w b OB.out (by first | assumption | (refine belDr ?_; assumption))).mono ?_; rintro e w' ⟨rfl, hb9⟩)
      | (go_at_call_of 24 a.A; refine (rfirst_w a OA.out (by first | assumption | (refine belDr ?_; assumption))).mono ?_; rintro e w' ⟨rfl, hb9⟩)
      | (go_at_call 21; refine (rcmp_w _ _ (by first | assumption | (refine belDr ?_; assumption))).mono ?_; rintro e w' ⟨rfl, hb9⟩)
      | (go_at_call 22; refine (rlex_w a b OA.out OB.out h1 h2 (by first | assumption | (refine belDr ?_; assumption))).mono ?_; rintro e w' ⟨rfl, hb9⟩)
      | (go_at_call 23; refine (reither_w _ _ (by first | assumption | (refine belDr ?_; assumption))).mono ?_; rw [hq.out]; rintro e w' ⟨rfl, hb9⟩))
  all_goals
    rename Below W0.heap.size W0 _ => hb9
    obtain ⟨⟨_, _, _, _, _, _, _⟩, ⟨_, _, _, _, _, _, _⟩⟩ := C.out _ hb9
    have E := Lib.hid (B0.out.trans (hb9.mono B0.out.size))
    go_wp2
    go_ret
    exact ⟨rfl, E.out⟩
end Go.Proofs.Ytbogjhgnnmgiaaa
