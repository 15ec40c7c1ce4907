/- eval.Machine: Glob, SetGlob, Fuel.Use, found, truth. -/
import Derived.Test.YtmadnehipagakaaGreatDoorGb
import Derived.Deep.RegionWith
namespace Go.Proofs.YtmadnehipagakaaGreatDoor
open Go.RowKit Go.Lib Go.Sort Go.Shelf KP
/-- Block m is a machine: its functions, its globals, its fuel. -/
def MachAt (W : World) (m : Nat) (FV : Value) (A : Option Addr) (n c : Nat) (fuel : Int) : Prop := W.heap[m]? = some (.cells #[FV, .slice A n c, .int .i64 fuel] 61 (0, 0))
section
variable {W W' : World} {m n c : Nat} {FV : Value} {A : Option Addr} {fuel : Int}
theorem MachAt.below (h : MachAt W m FV A n c fuel) (hb : Below W.heap.size W W') : MachAt W' m FV A n c fuel := (hb.block m (Array.getElem?_eq_some_iff.1 h).1).trans h
theorem MachAt.lt (h : MachAt W m FV A n c fuel) : m < W.heap.size := (Array.getElem?_eq_some_iff.1 h).1
theorem MachAt.f (h : MachAt W m FV A n c fuel) : W.cell? ⟨m, 0, none⟩ = some FV := block_cell h rfl
theorem MachAt.g (h : MachAt W m FV A n c fuel) : W.cell? ⟨m, 1, none⟩ = some (.slice A n c) := block_cell h rfl
theorem MachAt.u (h : MachAt W m FV A n c fuel) : W.cell? ⟨m, 2, none⟩ = some (.int .i64 fuel) := block_cell h rfl
theorem MachAt.free (h : MachAt W m FV A n c fuel) (j : Nat) : W.frozen? ⟨m, j, none⟩ = false := block_free h
theorem MachAt.setG (h : MachAt W m FV A n c fuel) (A' : Option Addr) (n' c' : Nat) : MachAt (W.setCell ⟨m, 1, none⟩ (.slice A' n' c')) m FV A' n' c' fuel := block_set h (j := 1) _
theorem MachAt.setU (h : MachAt W m FV A n c fuel) (f : Int) : MachAt (W.setCell ⟨m, 2, none⟩ (.int .i64 f)) m FV A n c f := block_set h (j := 2) _
end
theorem glob_c (m : Nat) (FV : Value) (A : Option Addr) (c : Nat) (fuel : Int) (l : List Bd) (s : ByteArray) (hl : l.length ≤ 1000000) (w : World) (hm : MachAt w m FV A l.length c fuel) (hI : BindsAt (fun _ => False) w A l) :
    Calls Tryz.prog 34 #[.pointer (some ⟨m, 0, none⟩), .string s] w fun e W' => e = .returned (.tuple #[(getO l s).1.val, .bool (getO l s).2]) ∧ Below w.heap.size w W' := by
  have hB := Lib.hid ((Below.refl w.heap.size w).alloc (Nat.le_refl _) (.cells #[.int .i64 0, .int .i64 0, .string ⟨#[]⟩] 26))
  have HG := Lib.hid (get_c A c l s hl _ (hI.below hB.out))
  have cg := (hm.below hB.out).g
  clear hI hm
  generalize getO l s = r at *
  obtain ⟨⟨r1, r2, r3⟩, r4⟩ := r
  go_enter Tryz.func34, Tryz.ntmps34
  go_wp2_with fail
  refine HG.out.mono ?_
  rintro e w1 ⟨rfl, q1⟩
  obtain ⟨⟨_, _, _⟩, ⟨_, _, _⟩, _⟩ := new3 q1
  have M := Lib.hid (put3 (a := .int .i64 r1) (b := .int .i64 r2) (c := .string r3) (bel_new q1))
  clear q1
  go_wp2_with fail
  exact bodyPost_ret (v := .tuple #[Vl.val (r1, r2, r3), .bool r4]) (by simp [results, Tryz.results34, go_sem, *]) rfl ⟨rfl, M.out⟩
theorem glob_w (m : Nat) (FV : Value) (A : Option Addr) (c : Nat) (fuel : Int) (l : List Bd) (s : ByteArray) (r : Vl × Bool) (hr : getO l s = r) (hl : l.length ≤ 1000000) (w : World) (hm : MachAt w m FV A l.length c fuel) (hI : BindsAt (fun _ => False) w A l) :
    Calls Tryz.prog 34 #[.pointer (some ⟨m, 0, none⟩), .string s] w fun e W' => e = .returned (.tuple #[r.1.val, .bool r.2]) ∧ Below w.heap.size w W' := by
  rw [← hr]; exact glob_c m FV A c fuel l s hl w hm hI
set_option maxHeartbeats 1000000 in
theorem setGlob_no (m : Nat) (FV : Value) (A : Option Addr) (c : Nat) (fuel : Int) (l : List Bd) (s : ByteArray) (v : Vl) (hl : l.length ≤ 900000) (w : World) (hm : MachAt w m FV A l.length c fuel) (hI : BindsAt (fun _ => False) w A l) (hg : (getO l s).2 = false) :
    Calls Tryz.prog 35 #[.pointer (some ⟨m, 0, none⟩), .string s, v.val] w fun e W' => e = .returned (.bool false) ∧ Below w.heap.size w W' := by
  obtain ⟨v1, v2, v3⟩ := v
  have hB := Lib.hid ((Below.refl w.heap.size w).alloc (Nat.le_refl _) (.cells #[.int .i64 v1, .int .i64 v2, .string v3] 26))
  have HG := Lib.hid (fun r hr => glob_w m FV A c fuel l s r hr (by omega) _ (hm.below hB.out) (hI.below hB.out))
  generalize getO l s = r at *
  obtain ⟨⟨r1, r2, r3⟩, r4⟩ := r
  have HG := Lib.hid (HG.out _ rfl)
  dsimp only at hg
  subst hg
  clear hI hm
  go_enter Tryz.func35, Tryz.ntmps35
  go_wp2_with fail
  refine HG.out.mono ?_
  rintro e w1 ⟨rfl, q1⟩
  have E1 := Lib.hid (hB.out.trans (q1.mono hB.out.size))
  have E2 := Lib.hid (E1.out.alloc E1.out.size (.cells #[.int .i64 r1, .int .i64 r2, .string r3] 26))
  clear q1
  go_wp2_with fail
  go_ret
  exact ⟨rfl, E2.out⟩
set_option maxHeartbeats 2000000 in
theorem setGlob_yes (m : Nat) (FV : Value) (A : Option Addr) (c : Nat) (fuel : Int) (l : List Bd) (s : ByteArray) (v : Vl) (hA : A = none → c = 0) (hl : l.length ≤ 900000) (w : World) (hm : MachAt w m FV A l.length c fuel) (hI : BindsAt (fun _ => False) w A l) (hg : (getO l s).2 = true) :
    Calls Tryz.prog 35 #[.pointer (some ⟨m, 0, none⟩), .string s, v.val] w fun e W' => e = .returned (.bool true) ∧ Keep (fun k => k = m) w W' ∧ ∃ A', MachAt W' m FV A' (putO l s v).length (putO l s v).length fuel ∧ BindsAt (fun k => k < w.heap.size) W' A' (putO l s v) ∧ (A' = none → False) := by
  obtain ⟨v1, v2, v3⟩ := v
  have hB := Lib.hid ((Below.refl w.heap.size w).alloc (Nat.le_refl _) (.cells #[.int .i64 v1, .int .i64 v2, .string v3] 26))
  have hV := one_box w (v1, v2, v3) 26
  dsimp only at hV
  obtain ⟨⟨c0, c1, c2⟩, _, hz⟩ := hV
  have HG := Lib.hid (fun r hr => glob_w m FV A c fuel l s r hr (by omega) _ (hm.below hB.out) (hI.below hB.out))
  have PU := Lib.hid (fun W (h : Below w.heap.size w W) => put_c A c l s (v1, v2, v3) W hA (hI.below h) hl)
  have HM := Lib.hid (fun W (h : Below w.heap.size w W) => hm.below h)
  have hml := hm.lt
  generalize getO l s = r at *
  obtain ⟨⟨r1, r2, r3⟩, r4⟩ := r
  have HG := Lib.hid (HG.out _ rfl)
  dsimp only at hg
  subst hg
  clear hI hm hA
  generalize putO l s (v1, v2, v3) = p at *
  go_enter Tryz.func35, Tryz.ntmps35
  go_wp2_with fail
  generalize w.alloc (.cells #[.int .i64 v1, .int .i64 v2, .string v3] 26) = wb at *
  refine HG.out.mono ?_
  rintro e w1 ⟨rfl, q1⟩
  have E1 := Lib.hid (hB.out.trans (q1.mono hB.out.size))
  have E2 := Lib.hid (E1.out.alloc E1.out.size (.cells #[.int .i64 r1, .int .i64 r2, .string r3] 26))
  have c0' := (Below.heap_alloc w1 (.cells #[.int .i64 r1, .int .i64 r2, .string r3] 26) w.heap.size (by have := q1.size; omega))
  have d0 := (World.cell?_of_block c0' (a := ⟨w.heap.size, 0, none⟩)).trans ((q1.cell (p := ⟨w.heap.size, 0, none⟩) (by show w.heap.size < _; omega)).trans c0)
  have d1 := (World.cell?_of_block c0' (a := ⟨w.heap.size, 1, none⟩)).trans ((q1.cell (p := ⟨w.heap.size, 1, none⟩) (by show w.heap.size < _; omega)).trans c1)
  have d2 := (World.cell?_of_block c0' (a := ⟨w.heap.size, 2, none⟩)).trans ((q1.cell (p := ⟨w.heap.size, 2, none⟩) (by show w.heap.size < _; omega)).trans c2)
  clear c0' c0 c1 c2 q1
  have M2 := HM.out _ E2.out
  have cg := M2.g
  go_wp2_with fail
  generalize w1.alloc (.cells #[.int .i64 r1, .int .i64 r2, .string r3] 26) = w3 at *
  have HD : Hid (Below w.heap.size w w3.drew) := Lib.hid ⟨E2.out.os, E2.out.tape, E2.out.output, E2.out.size, E2.out.block⟩
  go_region_with (go_at_call 29; refine (PU.out _ HD.out).mono ?_; rintro e w4 ⟨A', rfl, hb4, hn4, q4⟩; have E4 := Lib.hid (HD.out.trans (q4.mono HD.out.size)); have BI4 := Lib.hid hb4; have HN4 := Lib.hid hn4; have M4 := HM.out _ E4.out; have g4 := M4.g; have f4 := M4.free 1; have R4 := Lib.hid (M4.setG A' p.length p.length); have B4 := Lib.hid ((Keep.of_below E4.out (fun k => k = m)).setCell (p := ⟨m, 1, none⟩) (.inl rfl) (.slice A' p.length p.length)); clear hb4 hn4 q4 M4)
  all_goals
    have hsz := HD.out.size
    have RR := Lib.hid ((BI4.out.keep ((Keep.refl (fun k => k = m) w4).setCell (p := ⟨m, 1, none⟩) (.inl rfl) (.slice A' p.length p.length)) (fun k e => by subst e; omega)).mono (M := fun k => k < w.heap.size) (fun k h => by omega))
    clear hsz
    go_wp2
    go_ret
    exact ⟨rfl, B4.out, A', R4.out, RR.out, HN4.out⟩
theorem use_yes (m : Nat) (FV : Value) (A : Option Addr) (n c : Nat) (fuel : Nat) (w : World) (hf : fuel + 1 ≤ 1000000) (hm : MachAt w m FV A n c ((fuel + 1 : Nat) : Int)) :
    Calls Tryz.prog 97 #[.pointer (some ⟨m, 2, none⟩), .int .i64 1] w fun e W' => e = .returned (.int .i64 0) ∧ MachAt W' m FV A n c (fuel : Int) ∧ Keep (fun k => k = m) w W' := by
  have cu := hm.u
  have fu := hm.free 2
  have hI : ((fuel + 1 : Nat) : Int) = (fuel : Int) + 1 := by omega
  have hI2 : (fuel : Int) + 1 ≤ 1000000 := by omega
  have HU := Lib.hid (hm.setU (fuel : Int))
  have HK := Lib.hid ((Keep.refl (fun k => k = m) w).setCell (p := ⟨m, 2, none⟩) (.inl rfl) (.int .i64 (fuel : Int)))
  rw [hI] at cu
  have hb : ¬ ((fuel : Int) + 1 < 1) := by omega
  clear hm hI
  go_enter Tryz.func97, Tryz.ntmps97
  go_wp2
  go_ret
  exact ⟨rfl, HU.out, HK.out⟩
theorem use_no (m : Nat) (FV : Value) (A : Option Addr) (n c : Nat) (w : World) (hm : MachAt w m FV A n c 0) :
    Calls Tryz.prog 97 #[.pointer (some ⟨m, 2, none⟩), .int .i64 1] w fun e W' => e = .returned (.int .i64 9) ∧ MachAt W' m FV A n c 0 ∧ Keep (fun k => k = m) w W' := by
  have cu := hm.u
  have fu := hm.free 2
  have HU := Lib.hid (hm.setU 0)
  have HK := Lib.hid ((Keep.refl (fun k => k = m) w).setCell (p := ⟨m, 2, none⟩) (.inl rfl) (.int .i64 0))
  clear hm
  go_enter Tryz.func97, Tryz.ntmps97
  go_wp2
  go_ret
  exact ⟨rfl, HU.out, HK.out⟩
/-- What is found, or ErrBound. -/
def foundO (r : Vl × Bool) : Vl × Int := if r.2 then (r.1, 0) else (v0, 7)
theorem found_c (v : Vl) (b : Bool) (w : World) : Calls Tryz.prog 98 #[v.val, .bool b] w fun e w' => e = .returned (pairV (foundO (v, b))) ∧ Below w.heap.size w w' := by
  obtain ⟨v1, v2, v3⟩ := v
  have hV := one_box w (v1, v2, v3) 26
  dsimp only at hV
  obtain ⟨⟨c0, c1, c2⟩, hB, hz⟩ := hV
  cases b
  · have E2 := Lib.hid (hB.alloc hB.size (.cells #[.int .i64 0, .int .i64 0, .string ⟨#[]⟩] 26))
    go_enter Tryz.func98, Tryz.ntmps98
    go_wp2
    exact bodyPost_ret (v := pairV (v0, 7)) (by simp [results, Tryz.results98, go_sem]) rfl ⟨rfl, E2.out⟩
  · have E2 := Lib.hid (hB.alloc hB.size (.cells #[.int .i64 v1, .int .i64 v2, .string v3] 26))
    go_enter Tryz.func98, Tryz.ntmps98
    go_wp2
    exact bodyPost_ret (v := pairV ((v1, v2, v3), 0)) (by simp [results, Tryz.results98, go_sem]) rfl ⟨rfl, E2.out⟩
theorem truth_bad (b : Bool) (c : Int) (hc : c ≠ 0) (w : World) : Calls Tryz.prog 102 #[.bool b, .int .i64 c] w fun e w' => e = .returned (pairV (v0, c)) ∧ Below w.heap.size w w' := by
  have E2 := Lib.hid ((Below.refl w.heap.size w).alloc (Nat.le_refl _) (.cells #[.int .i64 0, .int .i64 0, .string ⟨#[]⟩] 26))
  have e1 : (c == 0) = false := by simp [hc]
  have e2 : (c != 0) = true := by simp [hc]
  go_enter Tryz.func102, Tryz.ntmps102
  go_wp2
  exact bodyPost_ret (v := pairV (v0, c)) (by simp [results, Tryz.results102, go_sem]) rfl ⟨rfl, E2.out⟩
theorem truth_ok (b : Bool) (w : World) : Calls Tryz.prog 102 #[.bool b, .int .i64 0] w fun e w' => e = .returned (pairV (vB b, 0)) ∧ Below w.heap.size w w' := by
  go_enter Tryz.func102, Tryz.ntmps102
  go_wp2_with fail
  refine (ofBool_c b _).mono ?_
  rintro e w1 ⟨rfl, q1⟩
  obtain ⟨⟨_, _, _⟩, ⟨_, _, _⟩, _⟩ := new3 q1
  have M := Lib.hid (put3 (a := .int .i64 2) (b := .int .i64 0) (c := .string (sB b)) (bel_new q1))
  clear q1
  go_wp2_with fail
  exact bodyPost_ret (v := pairV (vB b, 0)) (by simp [results, Tryz.results102, go_sem, *]) rfl ⟨rfl, M.out⟩
end Go.Proofs.YtmadnehipagakaaGreatDoor
