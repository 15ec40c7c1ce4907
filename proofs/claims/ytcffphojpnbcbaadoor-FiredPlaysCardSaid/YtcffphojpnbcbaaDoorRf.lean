/- maps.Clone at the set's map (printed by the shelf's command); refr.Set.Twin; the reference's Compare. -/
import Derived.Shelf.SlGeneric
import Derived.Shelf.SlMaps.Clone
import Derived.Ground.SlmcProg
import Derived.Test.YtcffphojpnbcbaaDoorRd
import Derived.Deep.QuietTactic
import Derived.BigQuiet
namespace Go.Proofs.YtcffphojpnbcbaaDoor
open Go.Shelf Go.RowKit Go.Lib KP MR
def cloneM_ren : Go.Shelf.Ren := ⟨fun | 5 => 19 | 7 => 22 | n => n, fun | 23 => 37 | 25 => 9 | 3 => 42 | 4 => 4 | 20 => 20 | n => n, fun | n => n⟩
theorem cloneM : Go.Proofs.SlLaysW.n5 Tryd.prog cloneM_ren := {
  mixed := by kernel_rfl
  f5 := ⟨Tryd.f19.name, by decide, Tryd.func19.trans (congrArg some (by kernel_rfl))⟩
  f7 := Tryd.func22.trans (congrArg some (by kernel_rfl))
  t4 := Tryd.underlying4
  a4 := Tryd.isAgg4
  z4 := Tryd.sizeOf4
  v4 := Tryd.zeroValue4
  t20 := Tryd.underlying20
  a20 := Tryd.isAgg20
  z20 := Tryd.sizeOf20
  v20 := Tryd.zeroValue20
  t23 := Tryd.underlying37
  a23 := Tryd.isAgg37
  z23 := Tryd.sizeOf37
  v23 := Tryd.zeroValue37 }

theorem Wy.ok.other {B g m g' m' : Nat} {W W' : World} {x : Wy} (h : x.ok B g m W) (hg : W.heap.size ≤ g') (hm : W.heap.size ≤ m') (hk : Keep (fun k => k = m) W W') : x.ok B g' m' W' := by
  intro k hlt
  obtain ⟨b, e, h1, h2, h3, h4⟩ := h k hlt
  have hb : b < W.heap.size := World.block_lt_of_cell? _ _ h4
  exact ⟨b, e, h1, by omega, by omega, hk.cell h4 h3⟩
set_option maxHeartbeats 1000000 in
theorem set_twin {B g m : Nat} {w0 W : World} {T : List Wt} (hI : Inv B w0 g m T W) (hB : B ≤ W.heap.size) :
    Calls Tryd.prog 13 #[.pointer (some ⟨g, 0, none⟩)] W fun e w' => ∃ g' m', e = .returned (.pointer (some ⟨g', 0, none⟩)) ∧ Below W.heap.size W w' ∧ g' < w'.heap.size ∧ m' < w'.heap.size ∧ W.heap.size ≤ g' ∧ W.heap.size ≤ m' ∧ ∀ w'', Keep (fun k => k = m) w' w'' → Inv B w0 g' m' T w'' := by
  have hc := hI.cell
  have hlt := hI.lt
  obtain ⟨ws, e, h1, h2, h3, h4, h5, h6⟩ := hI
  obtain ⟨es, clock, hb, hs, he⟩ := h2
  have hcl := AnyW.maps_Clone cloneM m es clock W hb
  change Calls Tryd.prog 19 _ _ _ at hcl
  have HC := Lib.hid hcl; clear hcl
  go_enter Tryd.func13, Tryd.ntmps13
  go_wp2_with fail
  refine HC.out.mono ?_
  rintro e w1 ⟨rfl, rfl⟩
  go_wp2
  go_ret
  have hb1 : Below W.heap.size W ((W.alloc (.map es clock)).alloc (.cells #[.map (some W.heap.size)] 39)) := ((Below.refl _ W).alloc (Nat.le_refl _) _).alloc (by simp) _
  refine ⟨W.heap.size + 1, W.heap.size, rfl, hb1, by simp, by simp; omega, by omega, Nat.le_refl _, fun w'' hk => ?_⟩
  have hkW : Keep (fun k => k = m) W w'' := (Keep.of_below hb1 (fun k => k = m)).trans hk (fun k h => .inl h)
  refine ⟨ws, e, ?_, ⟨es, clock, ?_, hs, he⟩, by omega, by omega, h5.trans (hkW.below hB (fun k hk => by subst hk; exact h4)), fun x hx => (h6 x hx).other (by omega) (Nat.le_refl _) hkW⟩
  · refine (hk.block _ (by simp) (by omega)).trans ?_
    have := heap_alloc_new (W.alloc (.map es clock)) (.cells #[.map (some W.heap.size)] 39)
    simpa using this
  · refine (hk.block _ (by simp; omega) (by omega)).trans ?_
    exact (Below.heap_alloc _ _ _ (by simp)).trans (heap_alloc_new W _)

theorem belD {B n : Nat} {w W : World} (h : Below B w W) : Below B w (W.drewN n) := ⟨h.os, h.tape, h.output, h.size, h.block⟩
/-- What the reference's Compare tells: nought just where they are the same. -/
def CmpPost (l r : List Int) (w : World) (e : Ending) (w' : World) : Prop := ∃ n : Int, e = .returned (.int .i64 n) ∧ (n == 0) = decide (l = r) ∧ Below w.heap.size w w'
set_option maxHeartbeats 1000000 in
theorem compare_any (A1 A2 : Option Addr) (l r : List Int) (c1 c2 : Nat) (w : World) (ra : RowAt w (Value.int .i64) A1 l) (rb : RowAt w (Value.int .i64) A2 r) (hl : l.length ≤ 1000) (hr : r.length ≤ 1000) :
    Calls Tryd.prog 11 #[.slice A1 l.length c1, .slice A2 r.length c2] w (CmpPost l r w) := by
  have R1 := Lib.hid (fun W (h : Below w.heap.size w W) => ra.below h)
  have R2 := Lib.hid (fun W (h : Below w.heap.size w W) => rb.below h)
  clear ra rb
  go_enter Tryd.func11, Tryd.ntmps11
  go_wp2_with fail
  go_loopw [5] (fun i wr => ∃ k : Nat, k ≤ l.length ∧ k ≤ r.length ∧ i = .int .i64 k ∧ Hid (l.take k = r.take k) ∧ Hid (Below w.heap.size w wr)) (fun i _ => l.length - (RowKit.intOf i).toNat)
  case atStart => exact ⟨0, by omega, by omega, rfl, Lib.hid rfl, Lib.hid (Below.refl _ _)⟩
  case round =>
    obtain ⟨k, hk1, hk2, rfl, hE, hB⟩ := hrel
    by_cases hlt : k < l.length ∧ k < r.length
    · obtain ⟨h3, h4⟩ := hlt
      obtain ⟨ax, rfl, _, hx⟩ := R1.out _ hB.out k h3
      obtain ⟨ay, rfl, _, hy⟩ := R2.out _ hB.out k h4
      have h3' : (k : Int) < (l.length : Int) := by omega
      have h4' : (k : Int) < (r.length : Int) := by omega
      have HNE : Hid (l[k] ≠ r[k] → decide (l = r) = false) := Lib.hid (fun h => by simp only [decide_eq_false_iff_not]; rintro rfl; exact h rfl)
      have HEQ : Hid (l[k] = r[k] → l.take (k + 1) = r.take (k + 1)) := Lib.hid (fun h => by rw [List.take_succ_eq_append_getElem h3, List.take_succ_eq_append_getElem h4, hE.out, h])
      generalize l[k] = p at *
      generalize r[k] = q at *
      by_cases hpq : p < q
      · have HD := Lib.hid (HNE.out (by omega))
        go_wp2_with fail
        go_quiet (fail)
        go_wp2_with fail
        go_ret
        exact ⟨-1, rfl, by rw [HD.out]; rfl, belD hB.out⟩
      have hpq' : q ≤ p := by omega
      by_cases hqp : q < p
      · have HD := Lib.hid (HNE.out (by omega))
        clear hpq
        go_wp2_with fail
        go_quiet (fail)
        go_wp2_with fail
        have BZ := Lib.hid (belD (n := nq) hB.out)
        have hx2 : (wr.drewN nq).cell? (ax.add k) = some (.int .i64 p) := hx
        have hy2 : (wr.drewN nq).cell? (ay.add k) = some (.int .i64 q) := hy
        generalize wr.drewN nq = wz at *
        clear hx hy
        go_quiet (fail)
        go_wp2_with fail
        go_ret
        exact ⟨1, rfl, by rw [HD.out]; rfl, belD BZ.out⟩
      · have HE2 := Lib.hid (HEQ.out (by omega))
        have hqp' : p ≤ q := by omega
        clear hpq hqp HNE HEQ
        go_wp2_with fail
        go_quiet (fail)
        go_wp2_with fail
        have BZ := Lib.hid (belD (n := nq) hB.out)
        have hx2 : (wr.drewN nq).cell? (ax.add k) = some (.int .i64 p) := hx
        have hy2 : (wr.drewN nq).cell? (ay.add k) = some (.int .i64 q) := hy
        generalize wr.drewN nq = wz at *
        clear hx hy
        go_quiet (fail)
        go_wp2_with fail
        go_roundw
        case rel => exact ⟨k + 1, by omega, by omega, by go_num, HE2, Lib.hid (belD BZ.out)⟩
        case measure => first | (simp [RowKit.intOf]; done) | (simp [RowKit.intOf]; omega)
    · have HLT : Hid (l.length < r.length → decide (l = r) = false) := Lib.hid (fun h => by simp only [decide_eq_false_iff_not]; rintro rfl; omega)
      have HGT : Hid (r.length < l.length → decide (l = r) = false) := Lib.hid (fun h => by simp only [decide_eq_false_iff_not]; rintro rfl; omega)
      have HEE : Hid (l.length = r.length → decide (l = r) = true) := Lib.hid (fun h => by
        have e := hE.out
        rw [show k = l.length by omega, List.take_length, h, List.take_length] at e
        simpa using e)
      by_cases ha : l.length < r.length
      · have ha' : (l.length : Int) < (r.length : Int) := by omega
        have hk : k = l.length := by omega
        subst hk
        have HD := Lib.hid (HLT.out ha)
        clear hlt ha
        go_wp2_with fail
        go_ret
        exact ⟨-1, rfl, by rw [HD.out]; rfl, hB.out⟩
      · by_cases hb : r.length < l.length
        · have hb' : (r.length : Int) < (l.length : Int) := by omega
          have hb2 : (r.length : Int) ≤ (l.length : Int) := by omega
          have hk : k = r.length := by omega
          have HD := Lib.hid (HGT.out hb)
          subst hk
          clear hlt ha hb
          go_wp2_with fail
          go_ret
          exact ⟨1, rfl, by rw [HD.out]; rfl, hB.out⟩
        · have hkl : k = l.length := by omega
          have hq : r.length = l.length := by omega
          have HD := Lib.hid (HEE.out hq.symm)
          have h1 : (r.length : Int) ≤ (l.length : Int) := by omega
          have h2 : (l.length : Int) ≤ (r.length : Int) := by omega
          subst hkl
          clear hlt ha hb hq
          go_wp2_with fail
          go_ret
          exact ⟨0, rfl, by rw [HD.out]; rfl, hB.out⟩
end Go.Proofs.YtcffphojpnbcbaaDoor
