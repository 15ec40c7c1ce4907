/- FiredPlays: the walk. -/
import Derived.Test.YtcffphojpnbcbaaDoorFb
import Derived.Deep.LoopGhost
import Derived.Deep.DeepCutAuto
import Derived.Deep.CutBlock
import Derived.IntWalk
import Derived.Test.YtcffphojpnbcbaaDoorRs
import Derived.Deep.RegionHeld3
import Derived.Deep.Onto
namespace Go.Proofs.YtcffphojpnbcbaaDoor
open Go.RowKit Go.Lib KP MR

theorem atI_succ (R : List Ac) (t : Wt) (j : Nat) (h : j < R.length) : atI R t (j + 1) = if R[j].t = t then (j : Int) else atI R t j := by
  show (if (R[j]?.map Ac.t) = some t then (j : Int) else atI R t j) = _
  rw [List.getElem?_eq_getElem h]
  simp
def z34 : Value := .agg #[.int .i64 0, .int .i64 0, .int .i64 0, .slice none 0 0]
theorem info34 : (Tryd.prog.info? 34).map (fun i => (i.zero, i.size, i.bytes)) = some (some z34, 4, 48) := by kernel_rfl
theorem owns_empty34 {W : World} {B g : Nat} (hB : B ≤ g) (h : W.heap[g]? = some (.cells #[] 34 (0, 0))) : W.ownsRow B 34 4 (.slice (some ⟨g, 0, none⟩) 0 0) 0 [] :=
  ⟨by simp, .inr ⟨g, 0, #[], rfl, hB, h, Nat.le_refl _, by unfold maxLen; omega, by simp, by simp⟩⟩
theorem reads_act {W : World} {g : Nat} {x : Ac} {t : TypeId} (h : W.heap[g]? = some (.cells x.cs t (0, 0))) : Reads W W.heap.size 4 (some ⟨g, 0, none⟩) 1 x.cs.toList :=
  ⟨rfl, fun _ => ⟨_, rfl, (Array.getElem?_eq_some_iff.1 h).1, fun j u hu => by
    have e : (⟨g, 0, none⟩ : Addr).add j = ⟨g, j, none⟩ := by simp [Addr.add]; omega
    rw [e]; exact block_cell h (by simpa using hu)⟩⟩
theorem act_flat (x : Ac) : ∀ u ∈ x.cs.toList, u.oneCell' = true := by
  intro u hu
  simp at hu
  rcases hu with rfl | rfl | rfl | rfl <;> rfl
theorem cellsOf_take (R : List Ac) (p : Nat) (h : p ≤ R.length) : (cellsOf R).take (p * 4) = cellsOf (R.take p) := by
  have hl : (cellsOf (R.take p)).length = p * 4 := by rw [cellsOf_len, List.length_take]; omega
  conv => lhs; rw [← List.take_append_drop p R, cellsOf_app]
  rw [← hl, List.take_left']
  rfl
theorem cellsOf_drop (R : List Ac) (p : Nat) (h : p ≤ R.length) : (cellsOf R).drop (p * 4) = cellsOf (R.drop p) := by
  have hl : (cellsOf (R.take p)).length = p * 4 := by rw [cellsOf_len, List.length_take]; omega
  conv => lhs; rw [← List.take_append_drop p R, cellsOf_app]
  rw [← hl, List.drop_left']
  rfl
theorem row_cut {W : World} {B p : Nat} {v : Value} {R : List Ac} (h : W.ownsRow B 34 4 v (0 + p + (R.length - (p + 1))) ([] ++ (cellsOf R).take (p * 4) ++ (cellsOf R).drop ((p + 1) * 4))) (hp : p < R.length) : RowIs B W v (R.take p ++ R.drop (p + 1)) := by
  unfold RowIs
  rw [cellsOf_app, ← cellsOf_take R p (by omega), ← cellsOf_drop R (p + 1) (by omega)]
  have e : (R.take p ++ R.drop (p + 1)).length = 0 + p + (R.length - (p + 1)) := by simp; omega
  rw [e]
  simpa using h
theorem blk1 (W : World) (o : Obj) : (W.drew.alloc o).heap[W.heap.size]? = some o := heap_alloc_new W.drew o
theorem blk2 (W : World) (o o' : Obj) : ((W.drew.alloc o).alloc o').heap[W.heap.size]? = some o := by
  show ((W.heap.push o).push o')[W.heap.size]? = _
  simp only [Array.getElem?_push, Array.size_push]; grind
theorem blk3 (W : World) (o o' : Obj) : ((W.drew.alloc o').alloc o).heap[W.heap.size + 1]? = some o := by
  show ((W.heap.push o').push o)[W.heap.size + 1]? = _
  simp only [Array.getElem?_push, Array.size_push]; grind
theorem row_snoc {W : World} {B : Nat} {v : Value} {R : List Ac} {a : Ac} (h : W.ownsRow B 34 4 v (0 + R.length + 1) ([] ++ cellsOf R ++ a.cs.toList)) : RowIs B W v (R ++ [a]) := by
  unfold RowIs
  rw [cellsOf_app, cellsOf_one]
  have e : (R ++ [a]).length = 0 + R.length + 1 := by simp
  rw [e]
  simpa using h
theorem row_snoc' {W : World} {B : Nat} {v : Value} {R : List Ac} {a : Ac} (h : W.ownsRow B 34 4 v (R.length + 1) (cellsOf R ++ a.cs.toList)) : RowIs B W v (R ++ [a]) := by
  unfold RowIs
  rw [cellsOf_app, cellsOf_one]
  have e : (R ++ [a]).length = R.length + 1 := by simp
  rw [e]
  exact h
/-- The set as the law has it: what holds between two acts. -/
structure Mid (w w1 : World) (fact : Int) (g m : Nat) (R : List Ac) (v : Value) (n : Nat) (W : World) : Prop where
  inv : Inv w1.heap.size w1 g m (R.map Ac.t) W
  row : RowIs w1.heap.size W v R
  few : R.length ≤ n
  fin : ∀ x ∈ R, x.ok w ∧ x.l.length ≤ 20
set_option maxRecDepth 100000 in
set_option maxHeartbeats 4000000 in
theorem plays_any (A : Option Addr) (c : Nat) (l : List Ac) (fact : Int) (w : World) (ht : Tab w) (ra : ActsAt w A l) (hx : ∀ x ∈ l, x.ok w) (hf : okI fact) :
    Calls Tryd.prog 4 #[.slice A l.length c, .int .i64 fact] w fun e w' => e = .returned (.bool true) ∧ Below w.heap.size w w' := by
  have HK := Lib.hid (known_any w ht)
  have HT := Lib.hid ht
  have RA := Lib.hid (fun W (h : Below w.heap.size w W) => ra.below h)
  have HX := Lib.hid hx
  have HFT := Lib.hid hf
  clear ht ra hx hf
  by_cases h80 : 80 < l.length
  · have h80' : (80 : Int) < (l.length : Int) := by omega
    go_enter Tryd.func4, Tryd.ntmps4
    go_wp2_with fail
    refine HK.out.mono ?_
    rintro e w1 ⟨rfl, b1⟩
    have E1 := Lib.hid b1; clear b1
    go_wp2_with fail
    go_ret
    exact ⟨rfl, E1.out⟩
  have h80' : (l.length : Int) ≤ 80 := by omega
  go_enter Tryd.func4, Tryd.ntmps4
  go_wp2_with fail
  refine HK.out.mono ?_
  rintro e w1 ⟨rfl, b1⟩
  have E1 := Lib.hid b1
  have T1 := Lib.hid (HT.out.b b1)
  clear b1
  go_wp2_with fail
  refine (set_new w1).mono ?_
  rintro e w2 ⟨g0, m0, rfl, i2, _, _⟩
  have M2 : Hid (Mid w w1 fact g0 m0 [] (.slice none 0 0) 0 w2) := Lib.hid ⟨i2, RowIs.nil _ _, Nat.le_refl _, by simp⟩
  clear i2
  have BI : Hid (∀ g m T W, Inv w1.heap.size w1 g m T W → Below w.heap.size w W) := Lib.hid (fun g m T W h => E1.out.trans (h.below.mono E1.out.size))
  go_wp2_with fail
  go_loopg [5, 6, 7] l.length (fun gh s v i wr => ∃ k : Nat, k ≤ l.length ∧ gh = l.length - k ∧ i = .int .i64 k ∧ ∃ g m R, s = .pointer (some ⟨g, 0, none⟩) ∧ Hid (Mid w w1 fact g m R v k wr))
  case atStart => exact ⟨0, by omega, by omega, rfl, g0, m0, [], rfl, M2⟩
  case round =>
    obtain ⟨k, hk, rfl, rfl, g, m, R, rfl, hM⟩ := hrel
    by_cases hlt : k < l.length
    · obtain ⟨ad, rfl, hc⟩ := RA.out _ (BI.out _ _ _ _ hM.out.inv) k hlt
      have HA := Lib.hid (HX.out l[k] (List.getElem_mem hlt))
      generalize l[k] = a at *
      have hc0 : wr.cell? ((ad.add (k * 4)).add 0) = some (.int .i64 a.op) := hc 0 _ rfl
      have hc1 : wr.cell? ⟨(ad.add (k * 4)).block, (ad.add (k * 4)).off + 1, none⟩ = some (.int .i64 a.r) := hc 1 _ rfl
      have hc2 : wr.cell? ⟨(ad.add (k * 4)).block, (ad.add (k * 4)).off + 2, none⟩ = some (.int .i64 a.al) := hc 2 _ rfl
      have hc3 : wr.cell? ⟨(ad.add (k * 4)).block, (ad.add (k * 4)).off + 3, none⟩ = some (.slice a.A a.l.length a.c) := hc 3 _ rfl
      have hc0' : wr.cell? (ad.add (k * 4)) = some (.int .i64 a.op) := by rw [← hc0]; simp [Addr.add]
      clear hc
      have hltI : (k : Int) < (l.length : Int) := by omega
      by_cases h20 : 20 < a.l.length
      · have h20' : (20 : Int) < (a.l.length : Int) := by omega
        go_wp2_with fail
        go_ret
        exact ⟨rfl, (BI.out _ _ _ _ hM.out.inv).alloc (BI.out _ _ _ _ hM.out.inv).size _⟩
      have h20' : (a.l.length : Int) ≤ 20 := by omega
      obtain ⟨A2, c2, hv, hcap, hacts⟩ := hM.out.row.acts
      subst hv
      obtain ⟨wo, hwo⟩ : ∃ wo, wo = wr := ⟨_, rfl⟩
      subst hwo
      obtain ⟨W0, hW0⟩ : ∃ W0, W0 = wo.alloc (.cells a.cs 34) := ⟨_, rfl⟩
      have hb0 : Below wo.heap.size wo W0 := by rw [hW0]; exact (Below.refl _ wo).alloc (Nat.le_refl _) _
      have hblk : W0.heap[wo.heap.size]? = some (.cells a.cs 34) := by rw [hW0]; exact heap_alloc_new wo _
      have HM : Hid (∀ W, Below W0.heap.size W0 W → Inv w1.heap.size w1 g m (R.map Ac.t) W ∧ RowIs w1.heap.size W (.slice A2 R.length c2) R ∧ ActsAt W A2 R) := Lib.hid (fun W h => by
        have h2 := hb0.trans (h.mono hb0.size)
        exact ⟨hM.out.inv.grow h2 hM.out.inv.below.size, hM.out.row.below h2, hacts.below h2⟩)
      have HV : Hid (∀ W, Below W0.heap.size W0 W → ∀ j v, a.cs[j]? = some v → W.cell? ⟨wo.heap.size, j, none⟩ = some v) := Lib.hid (fun W h j v hv => block_cell ((h.block _ (Array.getElem?_eq_some_iff.1 hblk).1).trans hblk) hv)
      have HB0 := Lib.hid hb0
      have HFW := Lib.hid hM.out.few
      have HML := Lib.hid hM.out.inv.lt.2
      have HFN := Lib.hid hM.out.fin
      have BWr := Lib.hid (BI.out _ _ _ _ hM.out.inv)
      have hRl : R.length ≤ 80 := by have := hM.out.few; omega
      clear hacts hblk hb0
      go_wp2_with fail
      rw [← hW0]
      clear hW0 hc0 hc1 hc2 hc3 hc0'
      go_loopg [9, 10] R.length (fun gh at_ i wx => ∃ j : Nat, j ≤ R.length ∧ gh = R.length - j ∧ i = .int .i64 j ∧ at_ = .int .i64 (atI R a.t j) ∧ Hid (Below W0.heap.size W0 wx))
      case atStart => exact ⟨0, by omega, by omega, rfl, rfl, Lib.hid (Below.refl _ _)⟩
      case round =>
        obtain ⟨j, hj, rfl, rfl, rfl, hB⟩ := hrel
        by_cases hlt2 : j < R.length
        · obtain ⟨rd, rfl, hrc⟩ := (HM.out _ hB.out).2.2 j hlt2
          have hx0 := HFN.out R[j] (List.getElem_mem hlt2)
          have HAT := Lib.hid (atI_succ R a.t j hlt2)
          have HAL := Lib.hid (atI_lt R a.t j)
          generalize R[j] = x at *
          have HS : Hid (∀ w', Below wr.heap.size wr w' → Below wr.heap.size wr w' ∧ w'.cell? ⟨(rd.add (j * 4)).block, (rd.add (j * 4)).off + 1, none⟩ = some (.int .i64 x.r) ∧ w'.cell? ⟨(rd.add (j * 4)).block, (rd.add (j * 4)).off + 2, none⟩ = some (.int .i64 x.al) ∧ w'.cell? ⟨(rd.add (j * 4)).block, (rd.add (j * 4)).off + 3, none⟩ = some (.slice x.A x.l.length x.c) ∧ w'.cell? ⟨wo.heap.size, 1, none⟩ = some (.int .i64 a.r) ∧ w'.cell? ⟨wo.heap.size, 2, none⟩ = some (.int .i64 a.al) ∧ w'.cell? ⟨wo.heap.size, 3, none⟩ = some (.slice a.A a.l.length a.c)) := Lib.hid (fun w' h => by
            have h2 := hB.out.trans (h.mono hB.out.size)
            have hr : ∀ q v, x.cs[q]? = some v → w'.cell? ((rd.add (j * 4)).add q) = some v := fun q v hv => (h.cell (World.block_lt_of_cell? _ _ (hrc q v hv))).trans (hrc q v hv)
            exact ⟨h, hr 1 _ rfl, hr 2 _ rfl, hr 3 _ rfl, HV.out _ h2 1 _ rfl, HV.out _ h2 2 _ rfl, HV.out _ h2 3 _ rfl⟩)
          have D0 : Below wr.heap.size wr wr.drew := ⟨rfl, rfl, rfl, Nat.le_refl _, fun _ _ => rfl⟩
          have hjI : (j : Int) < (R.length : Int) := by omega
          have HXR := Lib.hid (fun w' (h : Below wr.heap.size wr w') => (hx0.1.below (BWr.out.trans ((HB0.out.trans ((hB.out.trans (h.mono hB.out.size)).mono HB0.out.size)).mono BWr.out.size))).row)
          have HAR := Lib.hid (fun w' (h : Below wr.heap.size wr w') => (HA.out.below (BWr.out.trans ((HB0.out.trans ((hB.out.trans (h.mono hB.out.size)).mono HB0.out.size)).mono BWr.out.size))).row)
          have hxl := hx0.2
          have HTT : Hid (x.t = a.t ↔ x.r = a.r ∧ x.al = a.al ∧ x.l = a.l) := Lib.hid (by simp [Ac.t])
          clear hx0 hrc
          by_cases e1 : x.r = a.r
          · by_cases e2 : x.al = a.al
            · by_cases e3 : x.l = a.l
              · have f1 : (x.r == a.r) = true := beq_iff_eq.2 e1
                have f2 : (x.al == a.al) = true := beq_iff_eq.2 e2
                have HDL : Hid (decide (x.l = a.l) = true) := Lib.hid (decide_eq_true e3)
                have HT9 : Hid (atI R a.t (j + 1) = (j : Int)) := Lib.hid (by rw [HAT.out, if_pos (HTT.out.2 ⟨e1, e2, e3⟩)])
                clear e1 e2 e3
                go_wp2_with fail
                refine wp_region_held_drew (S := (fun w' => Below wr.heap.size wr w' ∧ w'.cell? ⟨(rd.add (j * 4)).block, (rd.add (j * 4)).off + 1, none⟩ = some (.int .i64 x.r) ∧ w'.cell? ⟨(rd.add (j * 4)).block, (rd.add (j * 4)).off + 2, none⟩ = some (.int .i64 x.al) ∧ w'.cell? ⟨(rd.add (j * 4)).block, (rd.add (j * 4)).off + 3, none⟩ = some (.slice x.A x.l.length x.c) ∧ w'.cell? ⟨wo.heap.size, 1, none⟩ = some (.int .i64 a.r) ∧ w'.cell? ⟨wo.heap.size, 2, none⟩ = some (.int .i64 a.al) ∧ w'.cell? ⟨wo.heap.size, 3, none⟩ = some (.slice a.A a.l.length a.c))) (by kernel_rfl) (HS.out _ D0) (fun hHeld => ?_)
                refine wpAnyH_take (i := 0) (oi := ⟨_, _, _, _, _, _⟩) (v := ?_) rfl (by kernel_rfl) (by kernel_rfl) (by kernel_rfl) (fun _ _ _ h => h) (Or.inl ⟨by rfl, ?_⟩) (by assumption) ?_
                rotate_left
                · intro w' hSw; (try dsimp only at hSw); go_simp; (try with_reducible rfl)
                try simp only [Act.put, List.setIfInBounds_toArray, List.set_cons_zero, List.set_cons_succ]
                refine wpAnyH_take (i := 1) (oi := ⟨_, _, _, _, _, _⟩) (v := ?_) rfl (by kernel_rfl) (by kernel_rfl) (by kernel_rfl) (fun _ _ _ h => h) (Or.inl ⟨by rfl, ?_⟩) (by assumption) ?_
                rotate_left
                · intro w' hSw; (try dsimp only at hSw); go_simp; (try with_reducible rfl)
                try simp only [Act.put, List.setIfInBounds_toArray, List.set_cons_zero, List.set_cons_succ]
                refine wpAnyH_take (i := 2) (oi := ⟨_, _, _, _, _, _⟩) (v := ?_) rfl (by kernel_rfl) (by kernel_rfl) (by kernel_rfl) (fun _ _ _ h => h) (Or.inl ⟨by rfl, ?_⟩) (by assumption) ?_
                rotate_left
                · intro w' hSw; (try dsimp only at hSw); go_simp; (try with_reducible rfl)
                try simp only [Act.put, List.setIfInBounds_toArray, List.set_cons_zero, List.set_cons_succ]
                refine wpAnyH_take (i := 3) (oi := ⟨_, _, _, _, _, _⟩) (v := ?_) rfl (by kernel_rfl) (by kernel_rfl) (by kernel_rfl) (fun _ _ _ h => h) (Or.inl ⟨by rfl, ?_⟩) (by assumption) ?_
                rotate_left
                · intro w' hSw; (try dsimp only at hSw); go_simp; (try with_reducible rfl)
                try simp only [Act.put, List.setIfInBounds_toArray, List.set_cons_zero, List.set_cons_succ]
                refine wpAnyH_take (i := 4) (oi := ⟨_, _, _, _, _, _⟩) (v := ?_) rfl (by kernel_rfl) (by kernel_rfl) (by kernel_rfl) (fun _ _ _ h => h) (Or.inl ⟨by rfl, ?_⟩) (by assumption) ?_
                rotate_left
                · intro w' hSw; (try dsimp only at hSw); go_simp; (try with_reducible rfl)
                try simp only [Act.put, List.setIfInBounds_toArray, List.set_cons_zero, List.set_cons_succ]
                refine wpAnyH_take (i := 5) (oi := ⟨_, _, _, _, _, _⟩) (v := ?_) rfl (by kernel_rfl) (by kernel_rfl) (by kernel_rfl) (fun _ _ _ h => h) (Or.inl ⟨by rfl, ?_⟩) (by assumption) ?_
                rotate_left
                · intro w' hSw; (try dsimp only at hSw); go_simp; (try with_reducible rfl)
                try simp only [Act.put, List.setIfInBounds_toArray, List.set_cons_zero, List.set_cons_succ]
                refine wpAnyH_take (i := 6) (oi := ⟨_, _, _, _, _, _⟩) (v := ?_) rfl (by kernel_rfl) (by kernel_rfl) (by kernel_rfl) (fun _ _ _ h => h) (Or.inl ⟨by rfl, ?_⟩) (by assumption) ?_
                rotate_left
                · intro w' hSw; (try dsimp only at hSw); go_simp; (try with_reducible rfl)
                try simp only [Act.put, List.setIfInBounds_toArray, List.set_cons_zero, List.set_cons_succ]
                refine wpAnyH_take (i := 7) (oi := ⟨_, _, _, _, _, _⟩) (v := ?_) rfl (by kernel_rfl) (by kernel_rfl) (by kernel_rfl) (fun _ _ _ h => h) (Or.inl ⟨by rfl, ?_⟩) (by assumption) ?_
                rotate_left
                · intro w' hSw; (try dsimp only at hSw); go_simp; (try with_reducible rfl)
                try simp only [Act.put, List.setIfInBounds_toArray, List.set_cons_zero, List.set_cons_succ]
                refine wpAnyH_take (i := 8) (oi := ⟨_, _, _, _, _, _⟩) (v := ?_) rfl (by kernel_rfl) (by kernel_rfl) (by kernel_rfl) (fun _ _ _ h => h) (Or.inl ⟨by rfl, ?_⟩) (by assumption) ?_
                rotate_left
                · intro w' hSw; (try dsimp only at hSw); go_simp; (try with_reducible rfl)
                try simp only [Act.put, List.setIfInBounds_toArray, List.set_cons_zero, List.set_cons_succ]
                refine wpAnyH_take (i := 9) (oi := ⟨_, _, _, _, _, _⟩) (v := ?_) rfl (by kernel_rfl) (by kernel_rfl) (by kernel_rfl) (fun _ _ _ h => h) (Or.inl ⟨by rfl, ?_⟩) (by assumption) ?_
                rotate_left
                · intro w' hSw; (try dsimp only at hSw); go_simp; (try with_reducible rfl)
                try simp only [Act.put, List.setIfInBounds_toArray, List.set_cons_zero, List.set_cons_succ]
                refine wpAnyH_take (i := 10) (oi := ⟨_, _, _, _, _, _⟩) (v := ?_) rfl (by kernel_rfl) (by kernel_rfl) (by kernel_rfl) (fun _ _ _ h => h) (Or.inl ⟨by rfl, ?_⟩) (by assumption) ?_
                rotate_left
                · intro w' hSw; (try dsimp only at hSw); go_simp; (try with_reducible rfl)
                try simp only [Act.put, List.setIfInBounds_toArray, List.set_cons_zero, List.set_cons_succ]
                refine wpAnyH_take (i := 11) (oi := ⟨_, _, _, _, _, _⟩) (v := ?_) rfl (by kernel_rfl) (by kernel_rfl) (by kernel_rfl) (fun _ _ _ h => h) (Or.inl ⟨by rfl, ?_⟩) (by assumption) ?_
                rotate_left
                · intro w' hSw; (try dsimp only at hSw); go_simp; (try with_reducible rfl)
                try simp only [Act.put, List.setIfInBounds_toArray, List.set_cons_zero, List.set_cons_succ]
                refine wpAnyH_take (i := 12) (oi := ⟨_, _, _, _, _, _⟩) (v := ?_) rfl (by kernel_rfl) (by kernel_rfl) (by kernel_rfl) (fun _ _ _ h => h) (Or.inl ⟨by rfl, ?_⟩) (by assumption) ?_
                rotate_left
                · intro w' hSw; (try dsimp only at hSw); go_simp; (try with_reducible rfl)
                try simp only [Act.put, List.setIfInBounds_toArray, List.set_cons_zero, List.set_cons_succ]
                refine wpAnyH_take (i := 13) (oi := ⟨_, _, _, _, _, _⟩) (v := ?_) rfl (by kernel_rfl) (by kernel_rfl) (by kernel_rfl) (fun _ _ _ h => h) (Or.inl ⟨by rfl, ?_⟩) (by assumption) ?_
                rotate_left
                · intro w' hSw; (try dsimp only at hSw); go_simp; (try with_reducible rfl)
                try simp only [Act.put, List.setIfInBounds_toArray, List.set_cons_zero, List.set_cons_succ]
                refine wpAnyH_take (i := 14) (oi := ⟨_, _, _, _, _, _⟩) (v := ?_) rfl (by kernel_rfl) (by kernel_rfl) (by kernel_rfl) (fun _ _ _ h => h) (Or.inl ⟨by rfl, ?_⟩) (by assumption) ?_
                rotate_left
                · intro w' hSw; (try dsimp only at hSw); go_simp; (try with_reducible rfl)
                try simp only [Act.put, List.setIfInBounds_toArray, List.set_cons_zero, List.set_cons_succ]
                refine wpAnyH_take (i := 15) (oi := ⟨_, _, _, _, _, _⟩) (v := ?_) rfl (by kernel_rfl) (by kernel_rfl) (by kernel_rfl) (fun _ _ _ h => h) (Or.inl ⟨by rfl, ?_⟩) (by assumption) ?_
                rotate_left
                · intro w' hSw; (try dsimp only at hSw); go_simp; (try with_reducible rfl)
                try simp only [Act.put, List.setIfInBounds_toArray, List.set_cons_zero, List.set_cons_succ]
                refine wpAnyH_take (i := 16) (oi := ⟨_, _, _, _, _, _⟩) (v := ?_) rfl (by kernel_rfl) (by kernel_rfl) (by kernel_rfl) (fun _ _ _ h => h) (Or.inl ⟨by rfl, ?_⟩) (by assumption) ?_
                rotate_left
                · intro w' hSw; (try dsimp only at hSw); go_simp; (try with_reducible rfl)
                try simp only [Act.put, List.setIfInBounds_toArray, List.set_cons_zero, List.set_cons_succ]
                refine wpAnyH_take (i := 17) (oi := ⟨_, _, _, _, _, _⟩) (v := ?_) rfl (by kernel_rfl) (by kernel_rfl) (by kernel_rfl) (fun _ _ _ h => h) (Or.inl ⟨by rfl, ?_⟩) (by assumption) ?_
                rotate_left
                · intro w' hSw; (try dsimp only at hSw); go_simp; (try with_reducible rfl)
                try simp only [Act.put, List.setIfInBounds_toArray, List.set_cons_zero, List.set_cons_succ]
                refine wpAnyH_take (i := 18) (oi := ⟨_, _, _, _, _, _⟩) (v := ?_) rfl (by kernel_rfl) (by kernel_rfl) (by kernel_rfl) (fun _ _ _ h => h) (Or.inl ⟨by rfl, ?_⟩) (by assumption) ?_
                rotate_left
                · intro w' hSw; (try dsimp only at hSw); go_simp; (try with_reducible rfl)
                try simp only [Act.put, List.setIfInBounds_toArray, List.set_cons_zero, List.set_cons_succ]
                refine wpAnyH_take (i := 19) (oi := ⟨_, _, _, _, _, _⟩) (v := ?_) rfl (by kernel_rfl) (by kernel_rfl) (by kernel_rfl) (fun _ _ _ h => h) (Or.inl ⟨by rfl, ?_⟩) (by assumption) ?_
                rotate_left
                · intro w' hSw; (try dsimp only at hSw); go_simp; (try with_reducible rfl)
                try simp only [Act.put, List.setIfInBounds_toArray, List.set_cons_zero, List.set_cons_succ]
                refine wpAnyH_take (i := 20) (oi := ⟨_, _, _, _, _, _⟩) (v := ?_) rfl (by kernel_rfl) (by kernel_rfl) (by kernel_rfl) (fun _ _ _ h => h) (Or.inl ⟨by rfl, ?_⟩) (by assumption) ?_
                rotate_left
                · intro w' hSw; (try dsimp only at hSw); go_simp; (try with_reducible rfl)
                try simp only [Act.put, List.setIfInBounds_toArray, List.set_cons_zero, List.set_cons_succ]
                refine wpAnyH_take (i := 21) (oi := ⟨_, _, _, _, _, _⟩) (v := ?_) rfl (by kernel_rfl) (by kernel_rfl) (by kernel_rfl) (fun _ _ _ h => h) (Or.inl ⟨by rfl, ?_⟩) (by assumption) ?_
                rotate_left
                · intro w' hSw; (try dsimp only at hSw); go_simp; (try with_reducible rfl)
                try simp only [Act.put, List.setIfInBounds_toArray, List.set_cons_zero, List.set_cons_succ]
                refine wpAnyH_take (i := 22) (oi := ⟨_, _, _, _, _, _⟩) (v := ?_) rfl (by kernel_rfl) (by kernel_rfl) (by kernel_rfl) (fun _ _ _ h => h) (Or.inl ⟨by rfl, ?_⟩) (by assumption) ?_
                rotate_left
                · intro w' hSw; (try dsimp only at hSw); go_simp; (try with_reducible rfl)
                try simp only [Act.put, List.setIfInBounds_toArray, List.set_cons_zero, List.set_cons_succ]
                refine wpAnyH_take (i := 23) (oi := ⟨_, _, _, _, _, _⟩) (v := ?_) rfl (by kernel_rfl) (by kernel_rfl) (by kernel_rfl) (fun _ _ _ h => h) (Or.inl ⟨by rfl, ?_⟩) (by assumption) ?_
                rotate_left
                · intro w' hSw; (try dsimp only at hSw); go_simp; (try with_reducible rfl)
                try simp only [Act.put, List.setIfInBounds_toArray, List.set_cons_zero, List.set_cons_succ]
                refine wpAnyH_take (i := 24) (oi := ⟨_, _, _, _, _, _⟩) (v := ?_) rfl (by kernel_rfl) (by kernel_rfl) (by kernel_rfl) (fun _ _ _ h => h) (Or.inl ⟨by rfl, ?_⟩) (by assumption) ?_
                rotate_left
                · intro w' hSw; (try dsimp only at hSw); go_simp; (try with_reducible rfl)
                try simp only [Act.put, List.setIfInBounds_toArray, List.set_cons_zero, List.set_cons_succ]
                refine wpAnyH_take (i := 25) (oi := ⟨_, _, _, _, _, _⟩) (v := ?_) rfl (by kernel_rfl) (by kernel_rfl) (by kernel_rfl) (fun _ _ _ h => h) (Or.inl ⟨by rfl, ?_⟩) (by assumption) ?_
                rotate_left
                · intro w' hSw; (try dsimp only at hSw); go_simp; (try with_reducible rfl)
                try simp only [Act.put, List.setIfInBounds_toArray, List.set_cons_zero, List.set_cons_succ]
                refine wpAnyH_ready (rs := [26]) (by kernel_rfl) (by simp) ?_
                refine AllReadyH.cons (o := ⟨_, _, _, _, _, _⟩) rfl (fun K9 hK9 => ?_) AllReadyH.nil
                go_simp
                (with_reducible refine (compare_any _ _ _ _ _ _ _ (HXR.out _ hHeld.1) (HAR.out _ hHeld.1) (by omega) (by omega)).mono ?_)
                rintro e w5 ⟨n5, rfl, hn5, b5⟩
                have hq5 := hn5.trans HDL.out
                clear hn5
                go_wp2_with fail
                refine hK9.out _ _ (HS.out _ (hHeld.1.trans (b5.mono hHeld.1.size))) (fun hHeld => ?_)
                clear hK9 K9
                try simp only [Act.put, List.setIfInBounds_toArray, List.set_cons_zero, List.set_cons_succ]
                refine wpAnyH_take (i := 27) (oi := ⟨_, _, _, _, _, _⟩) (v := ?_) rfl (by kernel_rfl) (by kernel_rfl) (by kernel_rfl) (fun _ _ _ h => h) (Or.inl ⟨by rfl, ?_⟩) (by assumption) ?_
                rotate_left
                · intro w' hSw; (try dsimp only at hSw); go_simp; (try with_reducible rfl)
                try simp only [Act.put, List.setIfInBounds_toArray, List.set_cons_zero, List.set_cons_succ]
                refine wpAnyH_take (i := 28) (oi := ⟨_, _, _, _, _, _⟩) (v := ?_) rfl (by kernel_rfl) (by kernel_rfl) (by kernel_rfl) (fun _ _ _ h => h) (Or.inl ⟨by rfl, ?_⟩) (by assumption) ?_
                rotate_left
                · intro w' hSw; (try dsimp only at hSw); go_simp; (try with_reducible rfl)
                try simp only [Act.put, List.setIfInBounds_toArray, List.set_cons_zero, List.set_cons_succ]
                refine wpAnyH_done (by kernel_rfl) ?_ _
                have HB9 := Lib.hid (hB.out.trans (hHeld.1.mono hB.out.size))
                clear hHeld
                go_wp2
                go_roundg (R.length - (j + 1))
                case measure => omega
                case rel => exact ⟨j + 1, by omega, by omega, by go_num, by rw [HT9.out], HB9⟩
              · have f1 : (x.r == a.r) = true := beq_iff_eq.2 e1
                have f2 : (x.al == a.al) = true := beq_iff_eq.2 e2
                have HDL : Hid (decide (x.l = a.l) = false) := Lib.hid (decide_eq_false e3)
                have HT9 : Hid (atI R a.t (j + 1) = atI R a.t j) := Lib.hid (by rw [HAT.out, if_neg (fun h => e3 (HTT.out.1 h).2.2)])
                clear e1 e2 e3
                go_wp2_with fail
                refine wp_region_held_drew (S := (fun w' => Below wr.heap.size wr w' ∧ w'.cell? ⟨(rd.add (j * 4)).block, (rd.add (j * 4)).off + 1, none⟩ = some (.int .i64 x.r) ∧ w'.cell? ⟨(rd.add (j * 4)).block, (rd.add (j * 4)).off + 2, none⟩ = some (.int .i64 x.al) ∧ w'.cell? ⟨(rd.add (j * 4)).block, (rd.add (j * 4)).off + 3, none⟩ = some (.slice x.A x.l.length x.c) ∧ w'.cell? ⟨wo.heap.size, 1, none⟩ = some (.int .i64 a.r) ∧ w'.cell? ⟨wo.heap.size, 2, none⟩ = some (.int .i64 a.al) ∧ w'.cell? ⟨wo.heap.size, 3, none⟩ = some (.slice a.A a.l.length a.c))) (by kernel_rfl) (HS.out _ D0) (fun hHeld => ?_)
                refine wpAnyH_take (i := 0) (oi := ⟨_, _, _, _, _, _⟩) (v := ?_) rfl (by kernel_rfl) (by kernel_rfl) (by kernel_rfl) (fun _ _ _ h => h) (Or.inl ⟨by rfl, ?_⟩) (by assumption) ?_
                rotate_left
                · intro w' hSw; (try dsimp only at hSw); go_simp; (try with_reducible rfl)
                try simp only [Act.put, List.setIfInBounds_toArray, List.set_cons_zero, List.set_cons_succ]
                refine wpAnyH_take (i := 1) (oi := ⟨_, _, _, _, _, _⟩) (v := ?_) rfl (by kernel_rfl) (by kernel_rfl) (by kernel_rfl) (fun _ _ _ h => h) (Or.inl ⟨by rfl, ?_⟩) (by assumption) ?_
                rotate_left
                · intro w' hSw; (try dsimp only at hSw); go_simp; (try with_reducible rfl)
                try simp only [Act.put, List.setIfInBounds_toArray, List.set_cons_zero, List.set_cons_succ]
                refine wpAnyH_take (i := 2) (oi := ⟨_, _, _, _, _, _⟩) (v := ?_) rfl (by kernel_rfl) (by kernel_rfl) (by kernel_rfl) (fun _ _ _ h => h) (Or.inl ⟨by rfl, ?_⟩) (by assumption) ?_
                rotate_left
                · intro w' hSw; (try dsimp only at hSw); go_simp; (try with_reducible rfl)
                try simp only [Act.put, List.setIfInBounds_toArray, List.set_cons_zero, List.set_cons_succ]
                refine wpAnyH_take (i := 3) (oi := ⟨_, _, _, _, _, _⟩) (v := ?_) rfl (by kernel_rfl) (by kernel_rfl) (by kernel_rfl) (fun _ _ _ h => h) (Or.inl ⟨by rfl, ?_⟩) (by assumption) ?_
                rotate_left
                · intro w' hSw; (try dsimp only at hSw); go_simp; (try with_reducible rfl)
                try simp only [Act.put, List.setIfInBounds_toArray, List.set_cons_zero, List.set_cons_succ]
                refine wpAnyH_take (i := 4) (oi := ⟨_, _, _, _, _, _⟩) (v := ?_) rfl (by kernel_rfl) (by kernel_rfl) (by kernel_rfl) (fun _ _ _ h => h) (Or.inl ⟨by rfl, ?_⟩) (by assumption) ?_
                rotate_left
                · intro w' hSw; (try dsimp only at hSw); go_simp; (try with_reducible rfl)
                try simp only [Act.put, List.setIfInBounds_toArray, List.set_cons_zero, List.set_cons_succ]
                refine wpAnyH_take (i := 5) (oi := ⟨_, _, _, _, _, _⟩) (v := ?_) rfl (by kernel_rfl) (by kernel_rfl) (by kernel_rfl) (fun _ _ _ h => h) (Or.inl ⟨by rfl, ?_⟩) (by assumption) ?_
                rotate_left
                · intro w' hSw; (try dsimp only at hSw); go_simp; (try with_reducible rfl)
                try simp only [Act.put, List.setIfInBounds_toArray, List.set_cons_zero, List.set_cons_succ]
                refine wpAnyH_take (i := 6) (oi := ⟨_, _, _, _, _, _⟩) (v := ?_) rfl (by kernel_rfl) (by kernel_rfl) (by kernel_rfl) (fun _ _ _ h => h) (Or.inl ⟨by rfl, ?_⟩) (by assumption) ?_
                rotate_left
                · intro w' hSw; (try dsimp only at hSw); go_simp; (try with_reducible rfl)
                try simp only [Act.put, List.setIfInBounds_toArray, List.set_cons_zero, List.set_cons_succ]
                refine wpAnyH_take (i := 7) (oi := ⟨_, _, _, _, _, _⟩) (v := ?_) rfl (by kernel_rfl) (by kernel_rfl) (by kernel_rfl) (fun _ _ _ h => h) (Or.inl ⟨by rfl, ?_⟩) (by assumption) ?_
                rotate_left
                · intro w' hSw; (try dsimp only at hSw); go_simp; (try with_reducible rfl)
                try simp only [Act.put, List.setIfInBounds_toArray, List.set_cons_zero, List.set_cons_succ]
                refine wpAnyH_take (i := 8) (oi := ⟨_, _, _, _, _, _⟩) (v := ?_) rfl (by kernel_rfl) (by kernel_rfl) (by kernel_rfl) (fun _ _ _ h => h) (Or.inl ⟨by rfl, ?_⟩) (by assumption) ?_
                rotate_left
                · intro w' hSw; (try dsimp only at hSw); go_simp; (try with_reducible rfl)
                try simp only [Act.put, List.setIfInBounds_toArray, List.set_cons_zero, List.set_cons_succ]
                refine wpAnyH_take (i := 9) (oi := ⟨_, _, _, _, _, _⟩) (v := ?_) rfl (by kernel_rfl) (by kernel_rfl) (by kernel_rfl) (fun _ _ _ h => h) (Or.inl ⟨by rfl, ?_⟩) (by assumption) ?_
                rotate_left
                · intro w' hSw; (try dsimp only at hSw); go_simp; (try with_reducible rfl)
                try simp only [Act.put, List.setIfInBounds_toArray, List.set_cons_zero, List.set_cons_succ]
                refine wpAnyH_take (i := 10) (oi := ⟨_, _, _, _, _, _⟩) (v := ?_) rfl (by kernel_rfl) (by kernel_rfl) (by kernel_rfl) (fun _ _ _ h => h) (Or.inl ⟨by rfl, ?_⟩) (by assumption) ?_
                rotate_left
                · intro w' hSw; (try dsimp only at hSw); go_simp; (try with_reducible rfl)
                try simp only [Act.put, List.setIfInBounds_toArray, List.set_cons_zero, List.set_cons_succ]
                refine wpAnyH_take (i := 11) (oi := ⟨_, _, _, _, _, _⟩) (v := ?_) rfl (by kernel_rfl) (by kernel_rfl) (by kernel_rfl) (fun _ _ _ h => h) (Or.inl ⟨by rfl, ?_⟩) (by assumption) ?_
                rotate_left
                · intro w' hSw; (try dsimp only at hSw); go_simp; (try with_reducible rfl)
                try simp only [Act.put, List.setIfInBounds_toArray, List.set_cons_zero, List.set_cons_succ]
                refine wpAnyH_take (i := 12) (oi := ⟨_, _, _, _, _, _⟩) (v := ?_) rfl (by kernel_rfl) (by kernel_rfl) (by kernel_rfl) (fun _ _ _ h => h) (Or.inl ⟨by rfl, ?_⟩) (by assumption) ?_
                rotate_left
                · intro w' hSw; (try dsimp only at hSw); go_simp; (try with_reducible rfl)
                try simp only [Act.put, List.setIfInBounds_toArray, List.set_cons_zero, List.set_cons_succ]
                refine wpAnyH_take (i := 13) (oi := ⟨_, _, _, _, _, _⟩) (v := ?_) rfl (by kernel_rfl) (by kernel_rfl) (by kernel_rfl) (fun _ _ _ h => h) (Or.inl ⟨by rfl, ?_⟩) (by assumption) ?_
                rotate_left
                · intro w' hSw; (try dsimp only at hSw); go_simp; (try with_reducible rfl)
                try simp only [Act.put, List.setIfInBounds_toArray, List.set_cons_zero, List.set_cons_succ]
                refine wpAnyH_take (i := 14) (oi := ⟨_, _, _, _, _, _⟩) (v := ?_) rfl (by kernel_rfl) (by kernel_rfl) (by kernel_rfl) (fun _ _ _ h => h) (Or.inl ⟨by rfl, ?_⟩) (by assumption) ?_
                rotate_left
                · intro w' hSw; (try dsimp only at hSw); go_simp; (try with_reducible rfl)
                try simp only [Act.put, List.setIfInBounds_toArray, List.set_cons_zero, List.set_cons_succ]
                refine wpAnyH_take (i := 15) (oi := ⟨_, _, _, _, _, _⟩) (v := ?_) rfl (by kernel_rfl) (by kernel_rfl) (by kernel_rfl) (fun _ _ _ h => h) (Or.inl ⟨by rfl, ?_⟩) (by assumption) ?_
                rotate_left
                · intro w' hSw; (try dsimp only at hSw); go_simp; (try with_reducible rfl)
                try simp only [Act.put, List.setIfInBounds_toArray, List.set_cons_zero, List.set_cons_succ]
                refine wpAnyH_take (i := 16) (oi := ⟨_, _, _, _, _, _⟩) (v := ?_) rfl (by kernel_rfl) (by kernel_rfl) (by kernel_rfl) (fun _ _ _ h => h) (Or.inl ⟨by rfl, ?_⟩) (by assumption) ?_
                rotate_left
                · intro w' hSw; (try dsimp only at hSw); go_simp; (try with_reducible rfl)
                try simp only [Act.put, List.setIfInBounds_toArray, List.set_cons_zero, List.set_cons_succ]
                refine wpAnyH_take (i := 17) (oi := ⟨_, _, _, _, _, _⟩) (v := ?_) rfl (by kernel_rfl) (by kernel_rfl) (by kernel_rfl) (fun _ _ _ h => h) (Or.inl ⟨by rfl, ?_⟩) (by assumption) ?_
                rotate_left
                · intro w' hSw; (try dsimp only at hSw); go_simp; (try with_reducible rfl)
                try simp only [Act.put, List.setIfInBounds_toArray, List.set_cons_zero, List.set_cons_succ]
                refine wpAnyH_take (i := 18) (oi := ⟨_, _, _, _, _, _⟩) (v := ?_) rfl (by kernel_rfl) (by kernel_rfl) (by kernel_rfl) (fun _ _ _ h => h) (Or.inl ⟨by rfl, ?_⟩) (by assumption) ?_
                rotate_left
                · intro w' hSw; (try dsimp only at hSw); go_simp; (try with_reducible rfl)
                try simp only [Act.put, List.setIfInBounds_toArray, List.set_cons_zero, List.set_cons_succ]
                refine wpAnyH_take (i := 19) (oi := ⟨_, _, _, _, _, _⟩) (v := ?_) rfl (by kernel_rfl) (by kernel_rfl) (by kernel_rfl) (fun _ _ _ h => h) (Or.inl ⟨by rfl, ?_⟩) (by assumption) ?_
                rotate_left
                · intro w' hSw; (try dsimp only at hSw); go_simp; (try with_reducible rfl)
                try simp only [Act.put, List.setIfInBounds_toArray, List.set_cons_zero, List.set_cons_succ]
                refine wpAnyH_take (i := 20) (oi := ⟨_, _, _, _, _, _⟩) (v := ?_) rfl (by kernel_rfl) (by kernel_rfl) (by kernel_rfl) (fun _ _ _ h => h) (Or.inl ⟨by rfl, ?_⟩) (by assumption) ?_
                rotate_left
                · intro w' hSw; (try dsimp only at hSw); go_simp; (try with_reducible rfl)
                try simp only [Act.put, List.setIfInBounds_toArray, List.set_cons_zero, List.set_cons_succ]
                refine wpAnyH_take (i := 21) (oi := ⟨_, _, _, _, _, _⟩) (v := ?_) rfl (by kernel_rfl) (by kernel_rfl) (by kernel_rfl) (fun _ _ _ h => h) (Or.inl ⟨by rfl, ?_⟩) (by assumption) ?_
                rotate_left
                · intro w' hSw; (try dsimp only at hSw); go_simp; (try with_reducible rfl)
                try simp only [Act.put, List.setIfInBounds_toArray, List.set_cons_zero, List.set_cons_succ]
                refine wpAnyH_take (i := 22) (oi := ⟨_, _, _, _, _, _⟩) (v := ?_) rfl (by kernel_rfl) (by kernel_rfl) (by kernel_rfl) (fun _ _ _ h => h) (Or.inl ⟨by rfl, ?_⟩) (by assumption) ?_
                rotate_left
                · intro w' hSw; (try dsimp only at hSw); go_simp; (try with_reducible rfl)
                try simp only [Act.put, List.setIfInBounds_toArray, List.set_cons_zero, List.set_cons_succ]
                refine wpAnyH_take (i := 23) (oi := ⟨_, _, _, _, _, _⟩) (v := ?_) rfl (by kernel_rfl) (by kernel_rfl) (by kernel_rfl) (fun _ _ _ h => h) (Or.inl ⟨by rfl, ?_⟩) (by assumption) ?_
                rotate_left
                · intro w' hSw; (try dsimp only at hSw); go_simp; (try with_reducible rfl)
                try simp only [Act.put, List.setIfInBounds_toArray, List.set_cons_zero, List.set_cons_succ]
                refine wpAnyH_take (i := 24) (oi := ⟨_, _, _, _, _, _⟩) (v := ?_) rfl (by kernel_rfl) (by kernel_rfl) (by kernel_rfl) (fun _ _ _ h => h) (Or.inl ⟨by rfl, ?_⟩) (by assumption) ?_
                rotate_left
                · intro w' hSw; (try dsimp only at hSw); go_simp; (try with_reducible rfl)
                try simp only [Act.put, List.setIfInBounds_toArray, List.set_cons_zero, List.set_cons_succ]
                refine wpAnyH_take (i := 25) (oi := ⟨_, _, _, _, _, _⟩) (v := ?_) rfl (by kernel_rfl) (by kernel_rfl) (by kernel_rfl) (fun _ _ _ h => h) (Or.inl ⟨by rfl, ?_⟩) (by assumption) ?_
                rotate_left
                · intro w' hSw; (try dsimp only at hSw); go_simp; (try with_reducible rfl)
                try simp only [Act.put, List.setIfInBounds_toArray, List.set_cons_zero, List.set_cons_succ]
                refine wpAnyH_ready (rs := [26]) (by kernel_rfl) (by simp) ?_
                refine AllReadyH.cons (o := ⟨_, _, _, _, _, _⟩) rfl (fun K9 hK9 => ?_) AllReadyH.nil
                go_simp
                (with_reducible refine (compare_any _ _ _ _ _ _ _ (HXR.out _ hHeld.1) (HAR.out _ hHeld.1) (by omega) (by omega)).mono ?_)
                rintro e w5 ⟨n5, rfl, hn5, b5⟩
                have hq5 := hn5.trans HDL.out
                clear hn5
                go_wp2_with fail
                refine hK9.out _ _ (HS.out _ (hHeld.1.trans (b5.mono hHeld.1.size))) (fun hHeld => ?_)
                clear hK9 K9
                try simp only [Act.put, List.setIfInBounds_toArray, List.set_cons_zero, List.set_cons_succ]
                refine wpAnyH_take (i := 27) (oi := ⟨_, _, _, _, _, _⟩) (v := ?_) rfl (by kernel_rfl) (by kernel_rfl) (by kernel_rfl) (fun _ _ _ h => h) (Or.inl ⟨by rfl, ?_⟩) (by assumption) ?_
                rotate_left
                · intro w' hSw; (try dsimp only at hSw); go_simp; (try with_reducible rfl)
                try simp only [Act.put, List.setIfInBounds_toArray, List.set_cons_zero, List.set_cons_succ]
                refine wpAnyH_take (i := 28) (oi := ⟨_, _, _, _, _, _⟩) (v := ?_) rfl (by kernel_rfl) (by kernel_rfl) (by kernel_rfl) (fun _ _ _ h => h) (Or.inl ⟨by rfl, ?_⟩) (by assumption) ?_
                rotate_left
                · intro w' hSw; (try dsimp only at hSw); go_simp; (try with_reducible rfl)
                try simp only [Act.put, List.setIfInBounds_toArray, List.set_cons_zero, List.set_cons_succ]
                refine wpAnyH_done (by kernel_rfl) ?_ _
                have HB9 := Lib.hid (hB.out.trans (hHeld.1.mono hB.out.size))
                clear hHeld
                go_wp2
                go_roundg (R.length - (j + 1))
                case measure => omega
                case rel => exact ⟨j + 1, by omega, by omega, by go_num, by rw [HT9.out], HB9⟩
            · have f1 : (x.r == a.r) = true := beq_iff_eq.2 e1
              have f2 : (x.al == a.al) = false := beq_eq_false_iff_ne.2 e2
              have HT9 : Hid (atI R a.t (j + 1) = atI R a.t j) := Lib.hid (by rw [HAT.out, if_neg (fun h => e2 (HTT.out.1 h).2.1)])
              clear e1 e2
              go_wp2_with fail
              refine wp_region_held_drew (S := (fun w' => Below wr.heap.size wr w' ∧ w'.cell? ⟨(rd.add (j * 4)).block, (rd.add (j * 4)).off + 1, none⟩ = some (.int .i64 x.r) ∧ w'.cell? ⟨(rd.add (j * 4)).block, (rd.add (j * 4)).off + 2, none⟩ = some (.int .i64 x.al) ∧ w'.cell? ⟨(rd.add (j * 4)).block, (rd.add (j * 4)).off + 3, none⟩ = some (.slice x.A x.l.length x.c) ∧ w'.cell? ⟨wo.heap.size, 1, none⟩ = some (.int .i64 a.r) ∧ w'.cell? ⟨wo.heap.size, 2, none⟩ = some (.int .i64 a.al) ∧ w'.cell? ⟨wo.heap.size, 3, none⟩ = some (.slice a.A a.l.length a.c))) (by kernel_rfl) (HS.out _ D0) (fun hHeld => ?_)
              refine wpAnyH_take (i := 0) (oi := ⟨_, _, _, _, _, _⟩) (v := ?_) rfl (by kernel_rfl) (by kernel_rfl) (by kernel_rfl) (fun _ _ _ h => h) (Or.inl ⟨by rfl, ?_⟩) (by assumption) ?_
              rotate_left
              · intro w' hSw; (try dsimp only at hSw); go_simp; (try with_reducible rfl)
              try simp only [Act.put, List.setIfInBounds_toArray, List.set_cons_zero, List.set_cons_succ]
              refine wpAnyH_take (i := 1) (oi := ⟨_, _, _, _, _, _⟩) (v := ?_) rfl (by kernel_rfl) (by kernel_rfl) (by kernel_rfl) (fun _ _ _ h => h) (Or.inl ⟨by rfl, ?_⟩) (by assumption) ?_
              rotate_left
              · intro w' hSw; (try dsimp only at hSw); go_simp; (try with_reducible rfl)
              try simp only [Act.put, List.setIfInBounds_toArray, List.set_cons_zero, List.set_cons_succ]
              refine wpAnyH_take (i := 2) (oi := ⟨_, _, _, _, _, _⟩) (v := ?_) rfl (by kernel_rfl) (by kernel_rfl) (by kernel_rfl) (fun _ _ _ h => h) (Or.inl ⟨by rfl, ?_⟩) (by assumption) ?_
              rotate_left
              · intro w' hSw; (try dsimp only at hSw); go_simp; (try with_reducible rfl)
              try simp only [Act.put, List.setIfInBounds_toArray, List.set_cons_zero, List.set_cons_succ]
              refine wpAnyH_take (i := 3) (oi := ⟨_, _, _, _, _, _⟩) (v := ?_) rfl (by kernel_rfl) (by kernel_rfl) (by kernel_rfl) (fun _ _ _ h => h) (Or.inl ⟨by rfl, ?_⟩) (by assumption) ?_
              rotate_left
              · intro w' hSw; (try dsimp only at hSw); go_simp; (try with_reducible rfl)
              try simp only [Act.put, List.setIfInBounds_toArray, List.set_cons_zero, List.set_cons_succ]
              refine wpAnyH_take (i := 4) (oi := ⟨_, _, _, _, _, _⟩) (v := ?_) rfl (by kernel_rfl) (by kernel_rfl) (by kernel_rfl) (fun _ _ _ h => h) (Or.inl ⟨by rfl, ?_⟩) (by assumption) ?_
              rotate_left
              · intro w' hSw; (try dsimp only at hSw); go_simp; (try with_reducible rfl)
              try simp only [Act.put, List.setIfInBounds_toArray, List.set_cons_zero, List.set_cons_succ]
              refine wpAnyH_take (i := 5) (oi := ⟨_, _, _, _, _, _⟩) (v := ?_) rfl (by kernel_rfl) (by kernel_rfl) (by kernel_rfl) (fun _ _ _ h => h) (Or.inl ⟨by rfl, ?_⟩) (by assumption) ?_
              rotate_left
              · intro w' hSw; (try dsimp only at hSw); go_simp; (try with_reducible rfl)
              try simp only [Act.put, List.setIfInBounds_toArray, List.set_cons_zero, List.set_cons_succ]
              refine wpAnyH_take (i := 6) (oi := ⟨_, _, _, _, _, _⟩) (v := ?_) rfl (by kernel_rfl) (by kernel_rfl) (by kernel_rfl) (fun _ _ _ h => h) (Or.inl ⟨by rfl, ?_⟩) (by assumption) ?_
              rotate_left
              · intro w' hSw; (try dsimp only at hSw); go_simp; (try with_reducible rfl)
              try simp only [Act.put, List.setIfInBounds_toArray, List.set_cons_zero, List.set_cons_succ]
              refine wpAnyH_take (i := 7) (oi := ⟨_, _, _, _, _, _⟩) (v := ?_) rfl (by kernel_rfl) (by kernel_rfl) (by kernel_rfl) (fun _ _ _ h => h) (Or.inl ⟨by rfl, ?_⟩) (by assumption) ?_
              rotate_left
              · intro w' hSw; (try dsimp only at hSw); go_simp; (try with_reducible rfl)
              try simp only [Act.put, List.setIfInBounds_toArray, List.set_cons_zero, List.set_cons_succ]
              refine wpAnyH_take (i := 8) (oi := ⟨_, _, _, _, _, _⟩) (v := ?_) rfl (by kernel_rfl) (by kernel_rfl) (by kernel_rfl) (fun _ _ _ h => h) (Or.inl ⟨by rfl, ?_⟩) (by assumption) ?_
              rotate_left
              · intro w' hSw; (try dsimp only at hSw); go_simp; (try with_reducible rfl)
              try simp only [Act.put, List.setIfInBounds_toArray, List.set_cons_zero, List.set_cons_succ]
              refine wpAnyH_take (i := 9) (oi := ⟨_, _, _, _, _, _⟩) (v := ?_) rfl (by kernel_rfl) (by kernel_rfl) (by kernel_rfl) (fun _ _ _ h => h) (Or.inl ⟨by rfl, ?_⟩) (by assumption) ?_
              rotate_left
              · intro w' hSw; (try dsimp only at hSw); go_simp; (try with_reducible rfl)
              try simp only [Act.put, List.setIfInBounds_toArray, List.set_cons_zero, List.set_cons_succ]
              refine wpAnyH_take (i := 10) (oi := ⟨_, _, _, _, _, _⟩) (v := ?_) rfl (by kernel_rfl) (by kernel_rfl) (by kernel_rfl) (fun _ _ _ h => h) (Or.inl ⟨by rfl, ?_⟩) (by assumption) ?_
              rotate_left
              · intro w' hSw; (try dsimp only at hSw); go_simp; (try with_reducible rfl)
              try simp only [Act.put, List.setIfInBounds_toArray, List.set_cons_zero, List.set_cons_succ]
              refine wpAnyH_take (i := 11) (oi := ⟨_, _, _, _, _, _⟩) (v := ?_) rfl (by kernel_rfl) (by kernel_rfl) (by kernel_rfl) (fun _ _ _ h => h) (Or.inl ⟨by rfl, ?_⟩) (by assumption) ?_
              rotate_left
              · intro w' hSw; (try dsimp only at hSw); go_simp; (try with_reducible rfl)
              try simp only [Act.put, List.setIfInBounds_toArray, List.set_cons_zero, List.set_cons_succ]
              refine wpAnyH_take (i := 12) (oi := ⟨_, _, _, _, _, _⟩) (v := ?_) rfl (by kernel_rfl) (by kernel_rfl) (by kernel_rfl) (fun _ _ _ h => h) (Or.inl ⟨by rfl, ?_⟩) (by assumption) ?_
              rotate_left
              · intro w' hSw; (try dsimp only at hSw); go_simp; (try with_reducible rfl)
              try simp only [Act.put, List.setIfInBounds_toArray, List.set_cons_zero, List.set_cons_succ]
              refine wpAnyH_take (i := 13) (oi := ⟨_, _, _, _, _, _⟩) (v := ?_) rfl (by kernel_rfl) (by kernel_rfl) (by kernel_rfl) (fun _ _ _ h => h) (Or.inl ⟨by rfl, ?_⟩) (by assumption) ?_
              rotate_left
              · intro w' hSw; (try dsimp only at hSw); go_simp; (try with_reducible rfl)
              try simp only [Act.put, List.setIfInBounds_toArray, List.set_cons_zero, List.set_cons_succ]
              refine wpAnyH_take (i := 14) (oi := ⟨_, _, _, _, _, _⟩) (v := ?_) rfl (by kernel_rfl) (by kernel_rfl) (by kernel_rfl) (fun _ _ _ h => h) (Or.inl ⟨by rfl, ?_⟩) (by assumption) ?_
              rotate_left
              · intro w' hSw; (try dsimp only at hSw); go_simp; (try with_reducible rfl)
              try simp only [Act.put, List.setIfInBounds_toArray, List.set_cons_zero, List.set_cons_succ]
              refine wpAnyH_take (i := 15) (oi := ⟨_, _, _, _, _, _⟩) (v := ?_) rfl (by kernel_rfl) (by kernel_rfl) (by kernel_rfl) (fun _ _ _ h => h) (Or.inl ⟨by rfl, ?_⟩) (by assumption) ?_
              rotate_left
              · intro w' hSw; (try dsimp only at hSw); go_simp; (try with_reducible rfl)
              try simp only [Act.put, List.setIfInBounds_toArray, List.set_cons_zero, List.set_cons_succ]
              refine wpAnyH_take (i := 16) (oi := ⟨_, _, _, _, _, _⟩) (v := ?_) rfl (by kernel_rfl) (by kernel_rfl) (by kernel_rfl) (fun _ _ _ h => h) (Or.inl ⟨by rfl, ?_⟩) (by assumption) ?_
              rotate_left
              · intro w' hSw; (try dsimp only at hSw); go_simp; (try with_reducible rfl)
              try simp only [Act.put, List.setIfInBounds_toArray, List.set_cons_zero, List.set_cons_succ]
              refine wpAnyH_take (i := 17) (oi := ⟨_, _, _, _, _, _⟩) (v := ?_) rfl (by kernel_rfl) (by kernel_rfl) (by kernel_rfl) (fun _ _ _ h => h) (Or.inl ⟨by rfl, ?_⟩) (by assumption) ?_
              rotate_left
              · intro w' hSw; (try dsimp only at hSw); go_simp; (try with_reducible rfl)
              try simp only [Act.put, List.setIfInBounds_toArray, List.set_cons_zero, List.set_cons_succ]
              refine wpAnyH_take (i := 18) (oi := ⟨_, _, _, _, _, _⟩) (v := ?_) rfl (by kernel_rfl) (by kernel_rfl) (by kernel_rfl) (fun _ _ _ h => h) (Or.inl ⟨by rfl, ?_⟩) (by assumption) ?_
              rotate_left
              · intro w' hSw; (try dsimp only at hSw); go_simp; (try with_reducible rfl)
              try simp only [Act.put, List.setIfInBounds_toArray, List.set_cons_zero, List.set_cons_succ]
              refine wpAnyH_take (i := 19) (oi := ⟨_, _, _, _, _, _⟩) (v := undef) rfl (by kernel_rfl) (by kernel_rfl) (by kernel_rfl) (fun _ _ _ h => h) (Or.inr ⟨by rfl, rfl⟩) (by assumption) ?_
              try simp only [Act.put, List.setIfInBounds_toArray, List.set_cons_zero, List.set_cons_succ]
              refine wpAnyH_take (i := 20) (oi := ⟨_, _, _, _, _, _⟩) (v := undef) rfl (by kernel_rfl) (by kernel_rfl) (by kernel_rfl) (fun _ _ _ h => h) (Or.inr ⟨by rfl, rfl⟩) (by assumption) ?_
              try simp only [Act.put, List.setIfInBounds_toArray, List.set_cons_zero, List.set_cons_succ]
              refine wpAnyH_take (i := 21) (oi := ⟨_, _, _, _, _, _⟩) (v := undef) rfl (by kernel_rfl) (by kernel_rfl) (by kernel_rfl) (fun _ _ _ h => h) (Or.inr ⟨by rfl, rfl⟩) (by assumption) ?_
              try simp only [Act.put, List.setIfInBounds_toArray, List.set_cons_zero, List.set_cons_succ]
              refine wpAnyH_take (i := 22) (oi := ⟨_, _, _, _, _, _⟩) (v := undef) rfl (by kernel_rfl) (by kernel_rfl) (by kernel_rfl) (fun _ _ _ h => h) (Or.inr ⟨by rfl, rfl⟩) (by assumption) ?_
              try simp only [Act.put, List.setIfInBounds_toArray, List.set_cons_zero, List.set_cons_succ]
              refine wpAnyH_take (i := 23) (oi := ⟨_, _, _, _, _, _⟩) (v := undef) rfl (by kernel_rfl) (by kernel_rfl) (by kernel_rfl) (fun _ _ _ h => h) (Or.inr ⟨by rfl, rfl⟩) (by assumption) ?_
              try simp only [Act.put, List.setIfInBounds_toArray, List.set_cons_zero, List.set_cons_succ]
              refine wpAnyH_take (i := 24) (oi := ⟨_, _, _, _, _, _⟩) (v := undef) rfl (by kernel_rfl) (by kernel_rfl) (by kernel_rfl) (fun _ _ _ h => h) (Or.inr ⟨by rfl, rfl⟩) (by assumption) ?_
              try simp only [Act.put, List.setIfInBounds_toArray, List.set_cons_zero, List.set_cons_succ]
              refine wpAnyH_take (i := 25) (oi := ⟨_, _, _, _, _, _⟩) (v := undef) rfl (by kernel_rfl) (by kernel_rfl) (by kernel_rfl) (fun _ _ _ h => h) (Or.inr ⟨by rfl, rfl⟩) (by assumption) ?_
              try simp only [Act.put, List.setIfInBounds_toArray, List.set_cons_zero, List.set_cons_succ]
              refine wpAnyH_take (i := 26) (oi := ⟨_, _, _, _, _, _⟩) (v := undef) rfl (by kernel_rfl) (by kernel_rfl) (by kernel_rfl) (fun _ _ _ h => h) (Or.inr ⟨by rfl, rfl⟩) (by assumption) ?_
              try simp only [Act.put, List.setIfInBounds_toArray, List.set_cons_zero, List.set_cons_succ]
              refine wpAnyH_take (i := 27) (oi := ⟨_, _, _, _, _, _⟩) (v := undef) rfl (by kernel_rfl) (by kernel_rfl) (by kernel_rfl) (fun _ _ _ h => h) (Or.inr ⟨by rfl, rfl⟩) (by assumption) ?_
              try simp only [Act.put, List.setIfInBounds_toArray, List.set_cons_zero, List.set_cons_succ]
              refine wpAnyH_take (i := 28) (oi := ⟨_, _, _, _, _, _⟩) (v := ?_) rfl (by kernel_rfl) (by kernel_rfl) (by kernel_rfl) (fun _ _ _ h => h) (Or.inl ⟨by rfl, ?_⟩) (by assumption) ?_
              rotate_left
              · intro w' hSw; (try dsimp only at hSw); go_simp; (try with_reducible rfl)
              try simp only [Act.put, List.setIfInBounds_toArray, List.set_cons_zero, List.set_cons_succ]
              refine wpAnyH_done (by kernel_rfl) ?_ _
              have HB9 := Lib.hid (hB.out.trans (hHeld.1.mono hB.out.size))
              clear hHeld
              go_wp2
              go_roundg (R.length - (j + 1))
              case measure => omega
              case rel => exact ⟨j + 1, by omega, by omega, by go_num, by rw [HT9.out], HB9⟩
          · have f1 : (x.r == a.r) = false := beq_eq_false_iff_ne.2 e1
            have HT9 : Hid (atI R a.t (j + 1) = atI R a.t j) := Lib.hid (by rw [HAT.out, if_neg (fun h => e1 (HTT.out.1 h).1)])
            clear e1
            go_wp2_with fail
            refine wp_region_held_drew (S := (fun w' => Below wr.heap.size wr w' ∧ w'.cell? ⟨(rd.add (j * 4)).block, (rd.add (j * 4)).off + 1, none⟩ = some (.int .i64 x.r) ∧ w'.cell? ⟨(rd.add (j * 4)).block, (rd.add (j * 4)).off + 2, none⟩ = some (.int .i64 x.al) ∧ w'.cell? ⟨(rd.add (j * 4)).block, (rd.add (j * 4)).off + 3, none⟩ = some (.slice x.A x.l.length x.c) ∧ w'.cell? ⟨wo.heap.size, 1, none⟩ = some (.int .i64 a.r) ∧ w'.cell? ⟨wo.heap.size, 2, none⟩ = some (.int .i64 a.al) ∧ w'.cell? ⟨wo.heap.size, 3, none⟩ = some (.slice a.A a.l.length a.c))) (by kernel_rfl) (HS.out _ D0) (fun hHeld => ?_)
            refine wpAnyH_take (i := 0) (oi := ⟨_, _, _, _, _, _⟩) (v := ?_) rfl (by kernel_rfl) (by kernel_rfl) (by kernel_rfl) (fun _ _ _ h => h) (Or.inl ⟨by rfl, ?_⟩) (by assumption) ?_
            rotate_left
            · intro w' hSw; (try dsimp only at hSw); go_simp; (try with_reducible rfl)
            try simp only [Act.put, List.setIfInBounds_toArray, List.set_cons_zero, List.set_cons_succ]
            refine wpAnyH_take (i := 1) (oi := ⟨_, _, _, _, _, _⟩) (v := ?_) rfl (by kernel_rfl) (by kernel_rfl) (by kernel_rfl) (fun _ _ _ h => h) (Or.inl ⟨by rfl, ?_⟩) (by assumption) ?_
            rotate_left
            · intro w' hSw; (try dsimp only at hSw); go_simp; (try with_reducible rfl)
            try simp only [Act.put, List.setIfInBounds_toArray, List.set_cons_zero, List.set_cons_succ]
            refine wpAnyH_take (i := 2) (oi := ⟨_, _, _, _, _, _⟩) (v := ?_) rfl (by kernel_rfl) (by kernel_rfl) (by kernel_rfl) (fun _ _ _ h => h) (Or.inl ⟨by rfl, ?_⟩) (by assumption) ?_
            rotate_left
            · intro w' hSw; (try dsimp only at hSw); go_simp; (try with_reducible rfl)
            try simp only [Act.put, List.setIfInBounds_toArray, List.set_cons_zero, List.set_cons_succ]
            refine wpAnyH_take (i := 3) (oi := ⟨_, _, _, _, _, _⟩) (v := ?_) rfl (by kernel_rfl) (by kernel_rfl) (by kernel_rfl) (fun _ _ _ h => h) (Or.inl ⟨by rfl, ?_⟩) (by assumption) ?_
            rotate_left
            · intro w' hSw; (try dsimp only at hSw); go_simp; (try with_reducible rfl)
            try simp only [Act.put, List.setIfInBounds_toArray, List.set_cons_zero, List.set_cons_succ]
            refine wpAnyH_take (i := 4) (oi := ⟨_, _, _, _, _, _⟩) (v := ?_) rfl (by kernel_rfl) (by kernel_rfl) (by kernel_rfl) (fun _ _ _ h => h) (Or.inl ⟨by rfl, ?_⟩) (by assumption) ?_
            rotate_left
            · intro w' hSw; (try dsimp only at hSw); go_simp; (try with_reducible rfl)
            try simp only [Act.put, List.setIfInBounds_toArray, List.set_cons_zero, List.set_cons_succ]
            refine wpAnyH_take (i := 5) (oi := ⟨_, _, _, _, _, _⟩) (v := ?_) rfl (by kernel_rfl) (by kernel_rfl) (by kernel_rfl) (fun _ _ _ h => h) (Or.inl ⟨by rfl, ?_⟩) (by assumption) ?_
            rotate_left
            · intro w' hSw; (try dsimp only at hSw); go_simp; (try with_reducible rfl)
            try simp only [Act.put, List.setIfInBounds_toArray, List.set_cons_zero, List.set_cons_succ]
            refine wpAnyH_take (i := 6) (oi := ⟨_, _, _, _, _, _⟩) (v := ?_) rfl (by kernel_rfl) (by kernel_rfl) (by kernel_rfl) (fun _ _ _ h => h) (Or.inl ⟨by rfl, ?_⟩) (by assumption) ?_
            rotate_left
            · intro w' hSw; (try dsimp only at hSw); go_simp; (try with_reducible rfl)
            try simp only [Act.put, List.setIfInBounds_toArray, List.set_cons_zero, List.set_cons_succ]
            refine wpAnyH_take (i := 7) (oi := ⟨_, _, _, _, _, _⟩) (v := ?_) rfl (by kernel_rfl) (by kernel_rfl) (by kernel_rfl) (fun _ _ _ h => h) (Or.inl ⟨by rfl, ?_⟩) (by assumption) ?_
            rotate_left
            · intro w' hSw; (try dsimp only at hSw); go_simp; (try with_reducible rfl)
            try simp only [Act.put, List.setIfInBounds_toArray, List.set_cons_zero, List.set_cons_succ]
            refine wpAnyH_take (i := 8) (oi := ⟨_, _, _, _, _, _⟩) (v := ?_) rfl (by kernel_rfl) (by kernel_rfl) (by kernel_rfl) (fun _ _ _ h => h) (Or.inl ⟨by rfl, ?_⟩) (by assumption) ?_
            rotate_left
            · intro w' hSw; (try dsimp only at hSw); go_simp; (try with_reducible rfl)
            try simp only [Act.put, List.setIfInBounds_toArray, List.set_cons_zero, List.set_cons_succ]
            refine wpAnyH_take (i := 9) (oi := ⟨_, _, _, _, _, _⟩) (v := undef) rfl (by kernel_rfl) (by kernel_rfl) (by kernel_rfl) (fun _ _ _ h => h) (Or.inr ⟨by rfl, rfl⟩) (by assumption) ?_
            try simp only [Act.put, List.setIfInBounds_toArray, List.set_cons_zero, List.set_cons_succ]
            refine wpAnyH_take (i := 10) (oi := ⟨_, _, _, _, _, _⟩) (v := undef) rfl (by kernel_rfl) (by kernel_rfl) (by kernel_rfl) (fun _ _ _ h => h) (Or.inr ⟨by rfl, rfl⟩) (by assumption) ?_
            try simp only [Act.put, List.setIfInBounds_toArray, List.set_cons_zero, List.set_cons_succ]
            refine wpAnyH_take (i := 11) (oi := ⟨_, _, _, _, _, _⟩) (v := undef) rfl (by kernel_rfl) (by kernel_rfl) (by kernel_rfl) (fun _ _ _ h => h) (Or.inr ⟨by rfl, rfl⟩) (by assumption) ?_
            try simp only [Act.put, List.setIfInBounds_toArray, List.set_cons_zero, List.set_cons_succ]
            refine wpAnyH_take (i := 12) (oi := ⟨_, _, _, _, _, _⟩) (v := undef) rfl (by kernel_rfl) (by kernel_rfl) (by kernel_rfl) (fun _ _ _ h => h) (Or.inr ⟨by rfl, rfl⟩) (by assumption) ?_
            try simp only [Act.put, List.setIfInBounds_toArray, List.set_cons_zero, List.set_cons_succ]
            refine wpAnyH_take (i := 13) (oi := ⟨_, _, _, _, _, _⟩) (v := undef) rfl (by kernel_rfl) (by kernel_rfl) (by kernel_rfl) (fun _ _ _ h => h) (Or.inr ⟨by rfl, rfl⟩) (by assumption) ?_
            try simp only [Act.put, List.setIfInBounds_toArray, List.set_cons_zero, List.set_cons_succ]
            refine wpAnyH_take (i := 14) (oi := ⟨_, _, _, _, _, _⟩) (v := undef) rfl (by kernel_rfl) (by kernel_rfl) (by kernel_rfl) (fun _ _ _ h => h) (Or.inr ⟨by rfl, rfl⟩) (by assumption) ?_
            try simp only [Act.put, List.setIfInBounds_toArray, List.set_cons_zero, List.set_cons_succ]
            refine wpAnyH_take (i := 15) (oi := ⟨_, _, _, _, _, _⟩) (v := undef) rfl (by kernel_rfl) (by kernel_rfl) (by kernel_rfl) (fun _ _ _ h => h) (Or.inr ⟨by rfl, rfl⟩) (by assumption) ?_
            try simp only [Act.put, List.setIfInBounds_toArray, List.set_cons_zero, List.set_cons_succ]
            refine wpAnyH_take (i := 16) (oi := ⟨_, _, _, _, _, _⟩) (v := undef) rfl (by kernel_rfl) (by kernel_rfl) (by kernel_rfl) (fun _ _ _ h => h) (Or.inr ⟨by rfl, rfl⟩) (by assumption) ?_
            try simp only [Act.put, List.setIfInBounds_toArray, List.set_cons_zero, List.set_cons_succ]
            refine wpAnyH_take (i := 17) (oi := ⟨_, _, _, _, _, _⟩) (v := ?_) rfl (by kernel_rfl) (by kernel_rfl) (by kernel_rfl) (fun _ _ _ h => h) (Or.inl ⟨by rfl, ?_⟩) (by assumption) ?_
            rotate_left
            · intro w' hSw; (try dsimp only at hSw); go_simp; (try with_reducible rfl)
            try simp only [Act.put, List.setIfInBounds_toArray, List.set_cons_zero, List.set_cons_succ]
            refine wpAnyH_take (i := 18) (oi := ⟨_, _, _, _, _, _⟩) (v := ?_) rfl (by kernel_rfl) (by kernel_rfl) (by kernel_rfl) (fun _ _ _ h => h) (Or.inl ⟨by rfl, ?_⟩) (by assumption) ?_
            rotate_left
            · intro w' hSw; (try dsimp only at hSw); go_simp; (try with_reducible rfl)
            try simp only [Act.put, List.setIfInBounds_toArray, List.set_cons_zero, List.set_cons_succ]
            refine wpAnyH_take (i := 19) (oi := ⟨_, _, _, _, _, _⟩) (v := undef) rfl (by kernel_rfl) (by kernel_rfl) (by kernel_rfl) (fun _ _ _ h => h) (Or.inr ⟨by rfl, rfl⟩) (by assumption) ?_
            try simp only [Act.put, List.setIfInBounds_toArray, List.set_cons_zero, List.set_cons_succ]
            refine wpAnyH_take (i := 20) (oi := ⟨_, _, _, _, _, _⟩) (v := undef) rfl (by kernel_rfl) (by kernel_rfl) (by kernel_rfl) (fun _ _ _ h => h) (Or.inr ⟨by rfl, rfl⟩) (by assumption) ?_
            try simp only [Act.put, List.setIfInBounds_toArray, List.set_cons_zero, List.set_cons_succ]
            refine wpAnyH_take (i := 21) (oi := ⟨_, _, _, _, _, _⟩) (v := undef) rfl (by kernel_rfl) (by kernel_rfl) (by kernel_rfl) (fun _ _ _ h => h) (Or.inr ⟨by rfl, rfl⟩) (by assumption) ?_
            try simp only [Act.put, List.setIfInBounds_toArray, List.set_cons_zero, List.set_cons_succ]
            refine wpAnyH_take (i := 22) (oi := ⟨_, _, _, _, _, _⟩) (v := undef) rfl (by kernel_rfl) (by kernel_rfl) (by kernel_rfl) (fun _ _ _ h => h) (Or.inr ⟨by rfl, rfl⟩) (by assumption) ?_
            try simp only [Act.put, List.setIfInBounds_toArray, List.set_cons_zero, List.set_cons_succ]
            refine wpAnyH_take (i := 23) (oi := ⟨_, _, _, _, _, _⟩) (v := undef) rfl (by kernel_rfl) (by kernel_rfl) (by kernel_rfl) (fun _ _ _ h => h) (Or.inr ⟨by rfl, rfl⟩) (by assumption) ?_
            try simp only [Act.put, List.setIfInBounds_toArray, List.set_cons_zero, List.set_cons_succ]
            refine wpAnyH_take (i := 24) (oi := ⟨_, _, _, _, _, _⟩) (v := undef) rfl (by kernel_rfl) (by kernel_rfl) (by kernel_rfl) (fun _ _ _ h => h) (Or.inr ⟨by rfl, rfl⟩) (by assumption) ?_
            try simp only [Act.put, List.setIfInBounds_toArray, List.set_cons_zero, List.set_cons_succ]
            refine wpAnyH_take (i := 25) (oi := ⟨_, _, _, _, _, _⟩) (v := undef) rfl (by kernel_rfl) (by kernel_rfl) (by kernel_rfl) (fun _ _ _ h => h) (Or.inr ⟨by rfl, rfl⟩) (by assumption) ?_
            try simp only [Act.put, List.setIfInBounds_toArray, List.set_cons_zero, List.set_cons_succ]
            refine wpAnyH_take (i := 26) (oi := ⟨_, _, _, _, _, _⟩) (v := undef) rfl (by kernel_rfl) (by kernel_rfl) (by kernel_rfl) (fun _ _ _ h => h) (Or.inr ⟨by rfl, rfl⟩) (by assumption) ?_
            try simp only [Act.put, List.setIfInBounds_toArray, List.set_cons_zero, List.set_cons_succ]
            refine wpAnyH_take (i := 27) (oi := ⟨_, _, _, _, _, _⟩) (v := undef) rfl (by kernel_rfl) (by kernel_rfl) (by kernel_rfl) (fun _ _ _ h => h) (Or.inr ⟨by rfl, rfl⟩) (by assumption) ?_
            try simp only [Act.put, List.setIfInBounds_toArray, List.set_cons_zero, List.set_cons_succ]
            refine wpAnyH_take (i := 28) (oi := ⟨_, _, _, _, _, _⟩) (v := ?_) rfl (by kernel_rfl) (by kernel_rfl) (by kernel_rfl) (fun _ _ _ h => h) (Or.inl ⟨by rfl, ?_⟩) (by assumption) ?_
            rotate_left
            · intro w' hSw; (try dsimp only at hSw); go_simp; (try with_reducible rfl)
            try simp only [Act.put, List.setIfInBounds_toArray, List.set_cons_zero, List.set_cons_succ]
            refine wpAnyH_done (by kernel_rfl) ?_ _
            have HB9 := Lib.hid (hB.out.trans (hHeld.1.mono hB.out.size))
            clear hHeld
            go_wp2
            go_roundg (R.length - (j + 1))
            case measure => omega
            case rel => exact ⟨j + 1, by omega, by omega, by go_num, by rw [HT9.out], HB9⟩
        · obtain rfl : j = R.length := by omega
          obtain ⟨iv, rw_, av⟩ := HM.out _ hB.out
          have hv1 := HV.out _ hB.out 1 _ rfl
          have hv2 := HV.out _ hB.out 2 _ rfl
          have hv3 := HV.out _ hB.out 3 _ rfl
          have HI5 := Lib.hid iv
          have AO : ∀ W, Below W0.heap.size W0 W → ArgOk W a.t a.A a.c := fun W h => by
            have h2 := HA.out.below (BWr.out.trans ((HB0.out.trans (h.mono HB0.out.size)).mono BWr.out.size))
            exact ⟨h2.row, h2.nil, by show a.l.length ≤ 1000; omega, h2.r, h2.al, h2.fs⟩
          have HHas : Hid (Calls Tryd.prog 10 #[.pointer (some ⟨g, 0, none⟩), .int .i64 a.r, .int .i64 a.al, .slice a.A a.l.length a.c] wr fun e w' => e = .returned (.bool (decide (a.t ∈ R.map Ac.t))) ∧ Below wr.heap.size wr w') :=
            Lib.hid (set_has (t := a.t) iv (iv.tab T1.out) iv.below.size (AO _ hB.out))
          have HMEM := Lib.hid (atI_mem R a.t)
          have HAT := Lib.hid (atI_at R a.t R.length)
          have HAL := Lib.hid (atI_lt R a.t R.length)
          have AO := Lib.hid AO
          generalize atI R a.t R.length = at_ at *
          clear iv rw_ av
          go_wp2_with fail
          refine HHas.out.mono ?_
          clear HHas
          rw [← HMEM.out]
          rintro e w6 ⟨rfl, b6⟩
          have BB := Lib.hid (hB.out.trans (b6.mono hB.out.size))
          clear b6 hB hv1 hv2 hv3
          obtain ⟨i6, r6, _⟩ := HM.out _ BB.out
          have HI6 := Lib.hid i6
          have HR6 := Lib.hid r6
          have hv0 := HV.out _ BB.out 0 _ rfl
          have hv1 := HV.out _ BB.out 1 _ rfl
          have hv2 := HV.out _ BB.out 2 _ rfl
          have hv3 := HV.out _ BB.out 3 _ rfl
          clear i6 r6
          go_upto_block 4 with fail
          go_cut [5, 6] (fun s v wx => ∃ g' m' R', s = .pointer (some ⟨g', 0, none⟩) ∧ Hid (Mid w w1 fact g' m' R' v (k + 1) wx))
          case first => as_aux_lemma =>
            have hgm6 := Lib.hid HI6.out.gm
            have HMm : Hid (∃ es clock, w6.heap[m]? = some (.map es clock)) := Lib.hid (by
              obtain ⟨ws, _, _, ⟨es, clock, h, _⟩, _⟩ := HI6.out
              exact ⟨es, clock, h⟩)
            have HT6 := Lib.hid (HI6.out.tab T1.out)
            have HA6 := Lib.hid (AO.out _ BB.out)
            have HS6 := Lib.hid HI6.out.below.size
            have HVK : Hid (∀ W, Keep (fun k => k = m) w6 W → ∀ j v, a.cs[j]? = some v → W.cell? ⟨wo.heap.size, j, none⟩ = some v) := Lib.hid (fun W h j v hv => h.cell (HV.out _ BB.out j v hv) (by
              intro e
              have h1 := HML.out
              have h2 : wo.heap.size = m := e
              omega))
            have HRK : Hid (∀ W, Keep (fun k => k = m) w6 W → RowIs w1.heap.size W (.slice A2 R.length c2) R) := Lib.hid (fun W h => HR6.out.keep h HMm.out)
            have HFA : Hid (∀ x ∈ R ++ [a], x.ok w ∧ x.l.length ≤ 20) := Lib.hid (fun x hx => by
              rcases List.mem_append.1 hx with hx | hx
              · exact HFN.out x hx
              · rw [List.mem_singleton.1 hx]; exact ⟨HA.out, by omega⟩)
            by_cases o1 : a.op = 1
            · as_aux_lemma =>
              have o1' : (a.op == 1) = true := beq_iff_eq.2 o1
              clear o1
              go_wp2_with fail
              refine (set_mark (t := a.t) HI6.out HT6.out HS6.out HA6.out).mono ?_
              rintro e w7 ⟨rfl, i7, k7⟩
              have HI7 := Lib.hid i7
              have HK7 := Lib.hid k7
              have hv0 := HVK.out _ k7 0 _ rfl
              have hv1 := HVK.out _ k7 1 _ rfl
              have hv2 := HVK.out _ k7 2 _ rfl
              have hv3 := HVK.out _ k7 3 _ rfl
              clear i7 k7
              by_cases ha : at_ < 0
              · have HTT : Hid (mark (R.map Ac.t) a.t = (R ++ [a]).map Ac.t) := Lib.hid (by
                  have := HMEM.out
                  rw [decide_eq_false (by omega)] at this
                  unfold mark; rw [if_neg (of_decide_eq_false this.symm)]; simp)
                obtain ⟨i34, h34a, h34b, h34c, h34d⟩ := info_parts info34
                have I34 := Lib.hid (And.intro h34a (And.intro h34b (And.intro h34c h34d)))
                clear h34a h34b h34c h34d
                have HRD : Hid (∀ W, Below w7.heap.size w7 W → Reads W w7.heap.size 4 A2 R.length (cellsOf R)) := Lib.hid (fun W h => (Reads.of_own (HRK.out _ HK7.out)).below h)
                have HS : Hid (∀ w', Below w7.heap.size w7 w' → (Below w7.heap.size w7 w' ∧ w'.cell? ⟨wo.heap.size, 0, none⟩ = some (.int .i64 a.op) ∧ w'.cell? ⟨wo.heap.size, 1, none⟩ = some (.int .i64 a.r) ∧ w'.cell? ⟨wo.heap.size, 2, none⟩ = some (.int .i64 a.al) ∧ w'.cell? ⟨wo.heap.size, 3, none⟩ = some (.slice a.A a.l.length a.c))) := Lib.hid (fun w' h => by
                  have hc := fun q v (hv : a.cs[q]? = some v) => (h.cell (World.block_lt_of_cell? _ _ (HVK.out _ HK7.out q v hv))).trans (HVK.out _ HK7.out q v hv)
                  exact ⟨h, hc 0 _ rfl, hc 1 _ rfl, hc 2 _ rfl, hc 3 _ rfl⟩)
                go_wp2_with fail
                have D7 : Below w7.heap.size w7 w7.drew := ⟨rfl, rfl, rfl, Nat.le_refl _, fun _ _ => rfl⟩
                refine wp_region_held_drew (S := (fun w' => Below w7.heap.size w7 w' ∧ w'.cell? ⟨wo.heap.size, 0, none⟩ = some (.int .i64 a.op) ∧ w'.cell? ⟨wo.heap.size, 1, none⟩ = some (.int .i64 a.r) ∧ w'.cell? ⟨wo.heap.size, 2, none⟩ = some (.int .i64 a.al) ∧ w'.cell? ⟨wo.heap.size, 3, none⟩ = some (.slice a.A a.l.length a.c))) (by kernel_rfl) (HS.out _ D7) (fun hHeld => ?_)
                refine wpAnyH_take (i := 1) (oi := ⟨_, _, _, _, _, _⟩) (v := ?_) rfl (by kernel_rfl) (by kernel_rfl) (by kernel_rfl) (fun _ _ _ h => h) (Or.inl ⟨by rfl, ?_⟩) (by assumption) ?_
                rotate_left
                · intro w' hSw; (try dsimp only at hSw); go_simp; (try with_reducible rfl)
                try simp only [Act.put, List.setIfInBounds_toArray, List.set_cons_zero, List.set_cons_succ]
                refine wpAnyH_take (i := 3) (oi := ⟨_, _, _, _, _, _⟩) (v := ?_) rfl (by kernel_rfl) (by kernel_rfl) (by kernel_rfl) (fun _ _ _ h => h) (Or.inl ⟨by rfl, ?_⟩) (by assumption) ?_
                rotate_left
                · intro w' hSw; (try dsimp only at hSw); go_simp; (try with_reducible rfl)
                try simp only [Act.put, List.setIfInBounds_toArray, List.set_cons_zero, List.set_cons_succ]
                refine wpAnyH_ready (rs := [0, 4]) (by kernel_rfl) (by simp) ?_
                refine AllReadyH.cons (o := ⟨_, _, _, _, _, _⟩) rfl (fun K9 hK9 => ?_) (AllReadyH.cons (o := ⟨_, _, _, _, _, _⟩) rfl (fun K9 hK9 => ?_) AllReadyH.nil)
                · go_simp
                  refine hK9.out _ _ (HS.out _ (hHeld.1.alloc hHeld.1.size _)) (fun hHeld => ?_)
                  clear hK9 K9
                  try simp only [Act.put, List.setIfInBounds_toArray, List.set_cons_zero, List.set_cons_succ]
                  refine wpAnyH_ready (rs := [2, 4]) (by kernel_rfl) (by simp) ?_
                  refine AllReadyH.cons (o := ⟨_, _, _, _, _, _⟩) rfl (fun K9 hK9 => ?_) (AllReadyH.cons (o := ⟨_, _, _, _, _, _⟩) rfl (fun K9 hK9 => ?_) AllReadyH.nil)
                  · refine step_append_any _ rfl (.tmp 99) (.tmp 100) 32 rfl w7.heap.size 34 i34 z34 4 48 Tryd.underlying32 I34.out.1 I34.out.2.1 I34.out.2.2.1 I34.out.2.2.2 rfl (by decide) (.slice (some ⟨_, 0, none⟩) 0 0) 0 [] rfl (owns_empty34 (by omega) (blk1 _ _)) w7.heap.size A2 R.length c2 (cellsOf R) rfl (HRD.out _ hHeld.1) (cellsOf_flat R) (by unfold maxLen; omega) (by omega) hHeld.1.size ?_
                    intro v8 w8 hown8 hgr8 hat8
                    have b8 := Below.grown (B := w7.heap.size) hHeld.1 hgr8 hHeld.1.size (fun q hq => by simp [Value.ownBlock] at hq; omega)
                    refine hK9.out _ _ (HS.out _ b8) (fun hHeld => ?_)
                    clear hK9 K9
                    try simp only [Act.put, List.setIfInBounds_toArray, List.set_cons_zero, List.set_cons_succ]
                    refine wpAnyH_ready (rs := [4]) (by kernel_rfl) (by simp) ?_
                    refine AllReadyH.cons (o := ⟨_, _, _, _, _, _⟩) rfl (fun K9 hK9 => ?_) AllReadyH.nil
                    go_simp
                    refine hK9.out _ _ (HS.out _ (hHeld.1.alloc hHeld.1.size _)) (fun hHeld => ?_)
                    clear hK9 K9
                    try simp only [Act.put, List.setIfInBounds_toArray, List.set_cons_zero, List.set_cons_succ]
                    refine wpAnyH_ready (rs := [5]) (by kernel_rfl) (by simp) ?_
                    refine AllReadyH.cons (o := ⟨_, _, _, _, _, _⟩) rfl (fun K9 hK9 => ?_) AllReadyH.nil
                    refine step_append_any _ rfl (.tmp 101) (.tmp 103) 32 rfl w7.heap.size 34 i34 z34 4 48 Tryd.underlying32 I34.out.1 I34.out.2.1 I34.out.2.2.1 I34.out.2.2.2 rfl (by decide) v8 (0 + R.length) ([] ++ cellsOf R) rfl (World.ownsRow.alloc hown8 _) _ (some ⟨_, 0, none⟩) 1 1 a.cs.toList rfl (reads_act (heap_alloc_new w8 _)) (act_flat a) (by unfold maxLen; omega) (by omega) hHeld.1.size ?_
                    intro v9 w9 hown9 hgr9 hat9
                    have b9 := Below.grown (B := w7.heap.size) hHeld.1 hgr9 hHeld.1.size (fun q hq => (hown8.lt q hq).1)
                    refine hK9.out _ _ (HS.out _ b9) (fun hHeld => ?_)
                    clear hK9 K9
                    try simp only [Act.put, List.setIfInBounds_toArray, List.set_cons_zero, List.set_cons_succ]
                    refine wpAnyH_take (i := 6) (oi := ⟨_, _, _, _, _, _⟩) (v := ?_) rfl (by kernel_rfl) (by kernel_rfl) (by kernel_rfl) (fun _ _ _ h => h) (Or.inl ⟨by rfl, ?_⟩) (by assumption) ?_
                    rotate_left
                    · intro w' hSw; (try dsimp only at hSw); go_simp; (try with_reducible rfl)
                    try simp only [Act.put, List.setIfInBounds_toArray, List.set_cons_zero, List.set_cons_succ]
                    refine wpAnyH_done (by kernel_rfl) ?_ _
                    have HI9 := Lib.hid (HI7.out.grow b9 HI7.out.below.size)
                    have HO9 := Lib.hid (World.ownsRow.mono hown9 HI7.out.below.size)
                    clear hown8 hgr8 hat8 b8 hown9 hgr9 hat9 b9 D7 hHeld
                    go_wp2
                    go_meet
                    exact ⟨g, m, R ++ [a], rfl, Lib.hid ⟨by rw [← HTT.out]; exact HI9.out, row_snoc HO9.out, by have := HFW.out; simp; omega, HFA.out⟩⟩
                  · go_simp
                    refine hK9.out _ _ (HS.out _ (hHeld.1.alloc hHeld.1.size _)) (fun hHeld => ?_)
                    clear hK9 K9
                    try simp only [Act.put, List.setIfInBounds_toArray, List.set_cons_zero, List.set_cons_succ]
                    refine wpAnyH_ready (rs := [2]) (by kernel_rfl) (by simp) ?_
                    refine AllReadyH.cons (o := ⟨_, _, _, _, _, _⟩) rfl (fun K9 hK9 => ?_) AllReadyH.nil
                    refine step_append_any _ rfl (.tmp 99) (.tmp 100) 32 rfl w7.heap.size 34 i34 z34 4 48 Tryd.underlying32 I34.out.1 I34.out.2.1 I34.out.2.2.1 I34.out.2.2.2 rfl (by decide) (.slice (some ⟨_, 0, none⟩) 0 0) 0 [] rfl (owns_empty34 (by omega) (blk2 _ _ _)) w7.heap.size A2 R.length c2 (cellsOf R) rfl (HRD.out _ hHeld.1) (cellsOf_flat R) (by unfold maxLen; omega) (by omega) hHeld.1.size ?_
                    intro v8 w8 hown8 hgr8 hat8
                    have b8 := Below.grown (B := w7.heap.size) hHeld.1 hgr8 hHeld.1.size (fun q hq => by simp [Value.ownBlock] at hq; omega)
                    have hx2 := (hgr8.block (w7.heap.size + 1) (by simp) (by simp [Value.ownBlock])).trans (blk3 w7 (.cells a.cs 34) (.cells #[] 34))
                    refine hK9.out _ _ (HS.out _ b8) (fun hHeld => ?_)
                    clear hK9 K9
                    try simp only [Act.put, List.setIfInBounds_toArray, List.set_cons_zero, List.set_cons_succ]
                    refine wpAnyH_ready (rs := [5]) (by kernel_rfl) (by simp) ?_
                    refine AllReadyH.cons (o := ⟨_, _, _, _, _, _⟩) rfl (fun K9 hK9 => ?_) AllReadyH.nil
                    refine step_append_any _ rfl (.tmp 101) (.tmp 103) 32 rfl w7.heap.size 34 i34 z34 4 48 Tryd.underlying32 I34.out.1 I34.out.2.1 I34.out.2.2.1 I34.out.2.2.2 rfl (by decide) v8 (0 + R.length) ([] ++ cellsOf R) rfl hown8 _ (some ⟨_, 0, none⟩) 1 1 a.cs.toList rfl (reads_act hx2) (act_flat a) (by unfold maxLen; omega) (by omega) hHeld.1.size ?_
                    intro v9 w9 hown9 hgr9 hat9
                    have b9 := Below.grown (B := w7.heap.size) hHeld.1 hgr9 hHeld.1.size (fun q hq => (hown8.lt q hq).1)
                    refine hK9.out _ _ (HS.out _ b9) (fun hHeld => ?_)
                    clear hK9 K9
                    try simp only [Act.put, List.setIfInBounds_toArray, List.set_cons_zero, List.set_cons_succ]
                    refine wpAnyH_take (i := 6) (oi := ⟨_, _, _, _, _, _⟩) (v := ?_) rfl (by kernel_rfl) (by kernel_rfl) (by kernel_rfl) (fun _ _ _ h => h) (Or.inl ⟨by rfl, ?_⟩) (by assumption) ?_
                    rotate_left
                    · intro w' hSw; (try dsimp only at hSw); go_simp; (try with_reducible rfl)
                    try simp only [Act.put, List.setIfInBounds_toArray, List.set_cons_zero, List.set_cons_succ]
                    refine wpAnyH_done (by kernel_rfl) ?_ _
                    have HI9 := Lib.hid (HI7.out.grow b9 HI7.out.below.size)
                    have HO9 := Lib.hid (World.ownsRow.mono hown9 HI7.out.below.size)
                    clear hown8 hgr8 hat8 b8 hown9 hgr9 hat9 b9 D7 hHeld
                    go_wp2
                    go_meet
                    exact ⟨g, m, R ++ [a], rfl, Lib.hid ⟨by rw [← HTT.out]; exact HI9.out, row_snoc HO9.out, by have := HFW.out; simp; omega, HFA.out⟩⟩
                · go_simp
                  refine hK9.out _ _ (HS.out _ (hHeld.1.alloc hHeld.1.size _)) (fun hHeld => ?_)
                  clear hK9 K9
                  try simp only [Act.put, List.setIfInBounds_toArray, List.set_cons_zero, List.set_cons_succ]
                  refine wpAnyH_ready (rs := [0]) (by kernel_rfl) (by simp) ?_
                  refine AllReadyH.cons (o := ⟨_, _, _, _, _, _⟩) rfl (fun K9 hK9 => ?_) AllReadyH.nil
                  go_simp
                  refine hK9.out _ _ (HS.out _ (hHeld.1.alloc hHeld.1.size _)) (fun hHeld => ?_)
                  clear hK9 K9
                  try simp only [Act.put, List.setIfInBounds_toArray, List.set_cons_zero, List.set_cons_succ]
                  refine wpAnyH_ready (rs := [2]) (by kernel_rfl) (by simp) ?_
                  refine AllReadyH.cons (o := ⟨_, _, _, _, _, _⟩) rfl (fun K9 hK9 => ?_) AllReadyH.nil
                  refine step_append_any _ rfl (.tmp 99) (.tmp 100) 32 rfl w7.heap.size 34 i34 z34 4 48 Tryd.underlying32 I34.out.1 I34.out.2.1 I34.out.2.2.1 I34.out.2.2.2 rfl (by decide) (.slice (some ⟨_, 0, none⟩) 0 0) 0 [] rfl (owns_empty34 (by omega) (blk3 _ _ _)) w7.heap.size A2 R.length c2 (cellsOf R) rfl (HRD.out _ hHeld.1) (cellsOf_flat R) (by unfold maxLen; omega) (by omega) hHeld.1.size ?_
                  intro v8 w8 hown8 hgr8 hat8
                  have b8 := Below.grown (B := w7.heap.size) hHeld.1 hgr8 hHeld.1.size (fun q hq => by simp [Value.ownBlock] at hq; omega)
                  have hx1 := (hgr8.block w7.heap.size (by simp; omega) (by simp [Value.ownBlock])).trans (blk2 w7 (.cells a.cs 34) (.cells #[] 34))
                  refine hK9.out _ _ (HS.out _ b8) (fun hHeld => ?_)
                  clear hK9 K9
                  try simp only [Act.put, List.setIfInBounds_toArray, List.set_cons_zero, List.set_cons_succ]
                  refine wpAnyH_ready (rs := [5]) (by kernel_rfl) (by simp) ?_
                  refine AllReadyH.cons (o := ⟨_, _, _, _, _, _⟩) rfl (fun K9 hK9 => ?_) AllReadyH.nil
                  refine step_append_any _ rfl (.tmp 101) (.tmp 103) 32 rfl w7.heap.size 34 i34 z34 4 48 Tryd.underlying32 I34.out.1 I34.out.2.1 I34.out.2.2.1 I34.out.2.2.2 rfl (by decide) v8 (0 + R.length) ([] ++ cellsOf R) rfl hown8 _ (some ⟨_, 0, none⟩) 1 1 a.cs.toList rfl (reads_act hx1) (act_flat a) (by unfold maxLen; omega) (by omega) hHeld.1.size ?_
                  intro v9 w9 hown9 hgr9 hat9
                  have b9 := Below.grown (B := w7.heap.size) hHeld.1 hgr9 hHeld.1.size (fun q hq => (hown8.lt q hq).1)
                  refine hK9.out _ _ (HS.out _ b9) (fun hHeld => ?_)
                  clear hK9 K9
                  try simp only [Act.put, List.setIfInBounds_toArray, List.set_cons_zero, List.set_cons_succ]
                  refine wpAnyH_take (i := 6) (oi := ⟨_, _, _, _, _, _⟩) (v := ?_) rfl (by kernel_rfl) (by kernel_rfl) (by kernel_rfl) (fun _ _ _ h => h) (Or.inl ⟨by rfl, ?_⟩) (by assumption) ?_
                  rotate_left
                  · intro w' hSw; (try dsimp only at hSw); go_simp; (try with_reducible rfl)
                  try simp only [Act.put, List.setIfInBounds_toArray, List.set_cons_zero, List.set_cons_succ]
                  refine wpAnyH_done (by kernel_rfl) ?_ _
                  have HI9 := Lib.hid (HI7.out.grow b9 HI7.out.below.size)
                  have HO9 := Lib.hid (World.ownsRow.mono hown9 HI7.out.below.size)
                  clear hown8 hgr8 hat8 b8 hown9 hgr9 hat9 b9 D7 hHeld
                  go_wp2
                  go_meet
                  exact ⟨g, m, R ++ [a], rfl, Lib.hid ⟨by rw [← HTT.out]; exact HI9.out, row_snoc HO9.out, by have := HFW.out; simp; omega, HFA.out⟩⟩
              · have ha' : 0 ≤ at_ := by omega
                have HTT : Hid (mark (R.map Ac.t) a.t = R.map Ac.t) := Lib.hid (by
                  have := HMEM.out
                  rw [decide_eq_true ha'] at this
                  unfold mark; rw [if_pos (of_decide_eq_true this.symm)])
                clear ha
                go_wp2_with fail
                go_meet
                exact ⟨g, m, R, rfl, Lib.hid ⟨HTT.out ▸ HI7.out, HRK.out _ HK7.out, by have := HFW.out; omega, HFN.out⟩⟩
            have o1' : (a.op == 1) = false := beq_eq_false_iff_ne.2 o1
            clear o1
            by_cases o2 : a.op = 2
            · as_aux_lemma =>
              have o2' : (a.op == 2) = true := beq_iff_eq.2 o2
              clear o2
              have HG := Lib.hid (set_gone (t := a.t) HI6.out HT6.out HS6.out HA6.out)
              rw [← HMEM.out] at HG
              go_wp2_with fail
              refine HG.out.mono ?_
              rintro e w7 ⟨rfl, i7, k7⟩
              have HI7 := Lib.hid i7
              have HK7 := Lib.hid k7
              clear i7 k7 HG
              by_cases ha : at_ < 0
              · have HTT : Hid (((R.map Ac.t).filter fun x => decide (x ≠ a.t)) = R.map Ac.t) := Lib.hid (by
                  have := HMEM.out
                  rw [decide_eq_false (by omega)] at this
                  have h2 := of_decide_eq_false this.symm
                  rw [List.filter_eq_self]
                  intro x hx
                  have : x ≠ a.t := fun e => h2 (e ▸ hx)
                  simpa using this)
                go_wp2_with fail
                go_meet
                exact ⟨g, m, R, rfl, Lib.hid ⟨HTT.out ▸ HI7.out, HRK.out _ HK7.out, by have := HFW.out; omega, HFN.out⟩⟩
              · have ha' : 0 ≤ at_ := by omega
                clear ha
                go_wp2_with fail
                obtain ⟨p, rfl⟩ := Int.eq_ofNat_of_zero_le ha'
                have hpR : p < R.length := by have := HAL.out; omega
                have hpI : (p : Int) ≤ (R.length : Int) := by omega
                have hpI2 : (p : Int) + 1 ≤ (R.length : Int) := by omega
                have hpc : (p : Int) ≤ (c2 : Int) := by omega
                have hRc : (R.length : Int) ≤ (c2 : Int) := by omega
                have hp1 : IntKind.i64.wrap ((p : Int) + 1) = (p : Int) + 1 := IntWalk.i64_in _ (by omega)
                have hp2 : (0 : Int) ≤ (p : Int) + 1 := by omega
                have hp3 : ((p : Int) + 1).toNat = p + 1 := by omega
                have HPT : Hid (R[p].t = a.t) := Lib.hid (by
                  have := HAT.out ha'
                  rw [Int.toNat_natCast, List.getElem?_eq_getElem hpR] at this
                  simpa using this)
                obtain ⟨i34, h34a, h34b, h34c, h34d⟩ := info_parts info34
                have I34 := Lib.hid (And.intro h34a (And.intro h34b (And.intro h34c h34d)))
                clear h34a h34b h34c h34d
                have HRD : Hid (∀ W, Below w7.heap.size w7 W → Reads W w7.heap.size 4 A2 R.length (cellsOf R)) := Lib.hid (fun W h => (Reads.of_own (HRK.out _ HK7.out)).below h)
                have D7 : Below w7.heap.size w7 w7.drew := ⟨rfl, rfl, rfl, Nat.le_refl _, fun _ _ => rfl⟩
                refine wp_region_held_drew (S := (fun w' => Below w7.heap.size w7 w')) (by kernel_rfl) D7 (fun hHeld => ?_)
                refine wpAnyH_take (i := 1) (oi := ⟨_, _, _, _, _, _⟩) (v := ?_) rfl (by kernel_rfl) (by kernel_rfl) (by kernel_rfl) (fun _ _ _ h => h) (Or.inl ⟨by rfl, ?_⟩) (by assumption) ?_
                rotate_left
                · intro w' hSw; (try dsimp only at hSw); go_simp; (try with_reducible rfl)
                try simp only [Act.put, List.setIfInBounds_toArray, List.set_cons_zero, List.set_cons_succ]
                refine wpAnyH_take (i := 2) (oi := ⟨_, _, _, _, _, _⟩) (v := ?_) rfl (by kernel_rfl) (by kernel_rfl) (by kernel_rfl) (fun _ _ _ h => h) (Or.inl ⟨by rfl, ?_⟩) (by assumption) ?_
                rotate_left
                · intro w' hSw; (try dsimp only at hSw); go_simp; (try with_reducible rfl)
                try simp only [Act.put, List.setIfInBounds_toArray, List.set_cons_zero, List.set_cons_succ]
                refine wpAnyH_take (i := 3) (oi := ⟨_, _, _, _, _, _⟩) (v := ?_) rfl (by kernel_rfl) (by kernel_rfl) (by kernel_rfl) (fun _ _ _ h => h) (Or.inl ⟨by rfl, ?_⟩) (by assumption) ?_
                rotate_left
                · intro w' hSw; (try dsimp only at hSw); go_simp; (try with_reducible rfl)
                try simp only [Act.put, List.setIfInBounds_toArray, List.set_cons_zero, List.set_cons_succ]
                refine wpAnyH_take (i := 5) (oi := ⟨_, _, _, _, _, _⟩) (v := ?_) rfl (by kernel_rfl) (by kernel_rfl) (by kernel_rfl) (fun _ _ _ h => h) (Or.inl ⟨by rfl, ?_⟩) (by assumption) ?_
                rotate_left
                · intro w' hSw; (try dsimp only at hSw); go_simp; (try with_reducible rfl)
                try simp only [Act.put, List.setIfInBounds_toArray, List.set_cons_zero, List.set_cons_succ]
                refine wpAnyH_take (i := 6) (oi := ⟨_, _, _, _, _, _⟩) (v := ?_) rfl (by kernel_rfl) (by kernel_rfl) (by kernel_rfl) (fun _ _ _ h => h) (Or.inl ⟨by rfl, ?_⟩) (by assumption) ?_
                rotate_left
                · intro w' hSw; (try dsimp only at hSw); go_simp; (try with_reducible rfl)
                try simp only [Act.put, List.setIfInBounds_toArray, List.set_cons_zero, List.set_cons_succ]
                refine wpAnyH_take (i := 7) (oi := ⟨_, _, _, _, _, _⟩) (v := ?_) rfl (by kernel_rfl) (by kernel_rfl) (by kernel_rfl) (fun _ _ _ h => h) (Or.inl ⟨by rfl, ?_⟩) (by assumption) ?_
                rotate_left
                · intro w' hSw; (try dsimp only at hSw); go_simp; (try with_reducible rfl)
                try simp only [Act.put, List.setIfInBounds_toArray, List.set_cons_zero, List.set_cons_succ]
                refine wpAnyH_take (i := 8) (oi := ⟨_, _, _, _, _, _⟩) (v := ?_) rfl (by kernel_rfl) (by kernel_rfl) (by kernel_rfl) (fun _ _ _ h => h) (Or.inl ⟨by rfl, ?_⟩) (by assumption) ?_
                rotate_left
                · intro w' hSw; (try dsimp only at hSw); go_simp; (try with_reducible rfl)
                try simp only [Act.put, List.setIfInBounds_toArray, List.set_cons_zero, List.set_cons_succ]
                refine wpAnyH_ready (rs := [0]) (by kernel_rfl) (by simp) ?_
                refine AllReadyH.cons (o := ⟨_, _, _, _, _, _⟩) rfl (fun K9 hK9 => ?_) AllReadyH.nil
                go_simp
                refine hK9.out _ _ (D7.alloc D7.size _) (fun hHeld => ?_)
                clear hK9 K9
                try simp only [Act.put, List.setIfInBounds_toArray, List.set_cons_zero, List.set_cons_succ]
                refine wpAnyH_ready (rs := [4]) (by kernel_rfl) (by simp) ?_
                refine AllReadyH.cons (o := ⟨_, _, _, _, _, _⟩) rfl (fun K9 hK9 => ?_) AllReadyH.nil
                refine step_append_any _ rfl (.tmp 120) (.tmp 123) 32 rfl w7.heap.size 34 i34 z34 4 48 Tryd.underlying32 I34.out.1 I34.out.2.1 I34.out.2.2.1 I34.out.2.2.2 rfl (by decide) (.slice (some ⟨_, 0, none⟩) 0 0) 0 [] rfl (owns_empty34 (Nat.le_refl _) (heap_alloc_new w7.drew _)) w7.heap.size A2 p c2 ((cellsOf R).take (p * 4)) rfl (Reads.take (HRD.out _ hHeld) (by omega)) (fun u hu => cellsOf_flat R u (List.mem_of_mem_take hu)) (by unfold maxLen; omega) (by omega) hHeld.size ?_
                intro v8 w8 hown8 hgr8 hat8
                have b8 := Below.grown (B := w7.heap.size) hHeld hgr8 hHeld.size (fun q hq => by simp [Value.ownBlock] at hq; omega)
                refine hK9.out _ _ b8 (fun hHeld => ?_)
                clear hK9 K9
                try simp only [Act.put, List.setIfInBounds_toArray, List.set_cons_zero, List.set_cons_succ]
                refine wpAnyH_ready (rs := [9]) (by kernel_rfl) (by simp) ?_
                refine AllReadyH.cons (o := ⟨_, _, _, _, _, _⟩) rfl (fun K9 hK9 => ?_) AllReadyH.nil
                refine step_append_any _ rfl (.tmp 124) (.tmp 128) 32 rfl w7.heap.size 34 i34 z34 4 48 Tryd.underlying32 I34.out.1 I34.out.2.1 I34.out.2.2.1 I34.out.2.2.2 rfl (by decide) v8 (0 + p) ([] ++ (cellsOf R).take (p * 4)) rfl hown8 w7.heap.size _ (R.length - (p + 1)) _ ((cellsOf R).drop ((p + 1) * 4)) rfl (Reads.cut (HRD.out _ hHeld) (k := p + 1) (cap := c2) (by omega) (by omega)) (fun u hu => cellsOf_flat R u (List.mem_of_mem_drop hu)) (by unfold maxLen; omega) (by omega) hHeld.size ?_
                intro v9 w9 hown9 hgr9 hat9
                have b9 := Below.grown (B := w7.heap.size) hHeld hgr9 hHeld.size (fun q hq => (hown8.lt q hq).1)
                refine hK9.out _ _ b9 (fun hHeld => ?_)
                clear hK9 K9
                try simp only [Act.put, List.setIfInBounds_toArray, List.set_cons_zero, List.set_cons_succ]
                refine wpAnyH_take (i := 10) (oi := ⟨_, _, _, _, _, _⟩) (v := ?_) rfl (by kernel_rfl) (by kernel_rfl) (by kernel_rfl) (fun _ _ _ h => h) (Or.inl ⟨by rfl, ?_⟩) (by assumption) ?_
                rotate_left
                · intro w' hSw; (try dsimp only at hSw); go_simp; (try with_reducible rfl)
                try simp only [Act.put, List.setIfInBounds_toArray, List.set_cons_zero, List.set_cons_succ]
                refine wpAnyH_done (by kernel_rfl) ?_ _
                have HI9 := Lib.hid (HI7.out.grow hHeld HI7.out.below.size)
                have HO9 := Lib.hid (World.ownsRow.mono hown9 HI7.out.below.size)
                clear hown8 hgr8 hat8 b8 hown9 hgr9 hat9 b9 hHeld hp1 hp3 D7
                go_wp2
                all_goals
                  go_meet
                  exact ⟨g, m, R.take p ++ R.drop (p + 1), rfl, Lib.hid ⟨by rw [atI_drop R a.t HI6.out.nodup hpR HPT.out]; exact HI9.out, row_cut HO9.out hpR, by have := HFW.out; simp; omega, fun x hx => HFN.out x (by rcases List.mem_append.1 hx with h | h; exact List.mem_of_mem_take h; exact List.mem_of_mem_drop h)⟩⟩
            have o2' : (a.op == 2) = false := beq_eq_false_iff_ne.2 o2
            clear o2
            by_cases o3 : a.op = 3
            · as_aux_lemma =>
              have o3' : (a.op == 3) = true := beq_iff_eq.2 o3
              clear o3
              obtain ⟨i34, h34a, h34b, h34c, h34d⟩ := info_parts info34
              have I34 := Lib.hid (And.intro h34a (And.intro h34b (And.intro h34c h34d)))
              clear h34a h34b h34c h34d
              have HAC := Lib.hid (fun W (h : Below w6.heap.size w6 W) => (HM.out _ (BB.out.trans (h.mono BB.out.size))).2.2)
              have HVC := Lib.hid (fun W (h : Below w6.heap.size w6 W) => HV.out _ (BB.out.trans (h.mono BB.out.size)))
              go_wp2_with fail
              go_loopg [11, 12] R.length (fun gh sv i wx => ∃ j : Nat, j ≤ R.length ∧ gh = R.length - j ∧ i = .int .i64 j ∧ Hid (RowIs w6.heap.size wx sv (stayR a.r (R.take j))) ∧ Hid (Below w6.heap.size w6 wx))
              case atStart => exact ⟨0, by omega, by omega, rfl, Lib.hid (RowIs.nil _ _), Lib.hid (Below.refl _ _)⟩
              case round =>
                obtain ⟨j, hj, rfl, rfl, hO, hB⟩ := hrel
                by_cases hlt2 : j < R.length
                · obtain ⟨rd, rfl, hrc⟩ := HAC.out _ hB.out j hlt2
                  have HSN := Lib.hid (stayR_snoc a.r R j hlt2)
                  have hsl : (stayR a.r (R.take j)).length ≤ 80 := by
                    have h1 := List.length_filter_le (fun x : Ac => stayT a.r x.t) (R.take j)
                    have h2 := List.length_take_le j R
                    unfold stayR; omega
                  generalize R[j] = x at *
                  have hr0 : wr.cell? (rd.add (j * 4)) = some (.int .i64 x.op) := by have := hrc 0 _ rfl; simpa [Addr.add] using this
                  have hr1 : wr.cell? ⟨(rd.add (j * 4)).block, (rd.add (j * 4)).off + 1, none⟩ = some (.int .i64 x.r) := hrc 1 _ rfl
                  have hr2 : wr.cell? ⟨(rd.add (j * 4)).block, (rd.add (j * 4)).off + 2, none⟩ = some (.int .i64 x.al) := hrc 2 _ rfl
                  have hr3 : wr.cell? ⟨(rd.add (j * 4)).block, (rd.add (j * 4)).off + 3, none⟩ = some (.slice x.A x.l.length x.c) := hrc 3 _ rfl
                  have hv1 := HVC.out _ hB.out 1 _ rfl
                  have hjI : (j : Int) < (R.length : Int) := by omega
                  have HST : Hid (stayT a.r x.t = !(decide (a.r < 0) || decide (x.r = a.r))) := Lib.hid rfl
                  generalize stayR a.r (R.take j) = Z at *
                  clear hrc
                  by_cases c0 : 0 ≤ a.r
                  · by_cases c1 : x.r = a.r
                    · have c1' : (x.r == a.r) = true := beq_iff_eq.2 c1
                      have HS9 : Hid (stayR a.r (R.take (j + 1)) = Z) := Lib.hid (by rw [HSN.out, HST.out, decide_eq_true c1]; simp)
                      clear c1
                      go_wp2_with fail
                      go_quiet (fail)
                      go_wp2_with fail
                      go_roundg (R.length - (j + 1))
                      case measure => omega
                      case rel => exact ⟨j + 1, by omega, by omega, by go_num, Lib.hid (by rw [HS9.out]; exact hO.out), Lib.hid (belD hB.out)⟩
                    · have c1' : (x.r == a.r) = false := beq_eq_false_iff_ne.2 c1
                      have HS9 : Hid (stayR a.r (R.take (j + 1)) = Z ++ [x]) := Lib.hid (by rw [HSN.out, HST.out, decide_eq_false c1, decide_eq_false (by omega)]; simp)
                      clear c1
                      obtain ⟨A4, c4, hv4, _, _⟩ := hO.out.acts
                      subst hv4
                      go_wp2_with fail
                      go_quiet (fail)
                      have hb9 := belD (n := nq) hB.out
                      have ho9 : RowIs w6.heap.size (wr.drewN nq) (.slice A4 Z.length c4) Z := hO.out
                      have hr0' : (wr.drewN nq).cell? (rd.add (j * 4)) = some (.int .i64 x.op) := hr0
                      have hr1' : (wr.drewN nq).cell? ⟨(rd.add (j * 4)).block, (rd.add (j * 4)).off + 1, none⟩ = some (.int .i64 x.r) := hr1
                      have hr2' : (wr.drewN nq).cell? ⟨(rd.add (j * 4)).block, (rd.add (j * 4)).off + 2, none⟩ = some (.int .i64 x.al) := hr2
                      have hr3' : (wr.drewN nq).cell? ⟨(rd.add (j * 4)).block, (rd.add (j * 4)).off + 3, none⟩ = some (.slice x.A x.l.length x.c) := hr3
                      generalize wr.drewN nq = wz at *
                      clear hr0 hr1 hr2 hr3 hv1
                      have HO9 := Lib.hid ho9
                      have HB9 := Lib.hid hb9
                      clear ho9 hb9
                      go_wp2_with (at_builtin; refine wpList_append_any _ rfl (.tmp 151) (.tmp 156) 32 rfl w6.heap.size 34 i34 z34 4 48 Tryd.underlying32 I34.out.1 I34.out.2.1 I34.out.2.2.1 I34.out.2.2.2 rfl (by decide) (.slice A4 Z.length c4) Z.length (cellsOf Z) rfl (World.ownsRow.alloc HO9.out _) _ (some ⟨wz.heap.size, 0, none⟩) 1 1 x.cs.toList rfl (reads_act (heap_alloc_new wz _)) (act_flat x) (by unfold maxLen; omega) (by omega) (Nat.le_trans HB9.out.size (by simp)) ?_; intro v9 w9 hown9 hgr9 hat9; have HB10 := Lib.hid (Below.grown (B := w6.heap.size) (HB9.out.alloc HB9.out.size _) hgr9 (Nat.le_trans HB9.out.size (by simp)) (fun q hq => (HO9.out.lt q hq).1)); have HO10 := Lib.hid (row_snoc' hown9); clear hown9 hgr9 hat9)
                      go_roundg (R.length - (j + 1))
                      case measure => omega
                      case rel => exact ⟨j + 1, by omega, by omega, by go_num, Lib.hid (by rw [HS9.out]; exact HO10.out), HB10⟩
                  · have c0' : decide (0 ≤ a.r) = false := by simpa using c0
                    have c0'' : a.r < 0 := by omega
                    have HS9 : Hid (stayR a.r (R.take (j + 1)) = Z) := Lib.hid (by rw [HSN.out, HST.out, decide_eq_true c0'']; simp)
                    clear c0
                    go_wp2_with fail
                    go_quiet (fail)
                    go_wp2_with fail
                    go_roundg (R.length - (j + 1))
                    case measure => omega
                    case rel => exact ⟨j + 1, by omega, by omega, by go_num, Lib.hid (by rw [HS9.out]; exact hO.out), Lib.hid (belD hB.out)⟩
                · obtain rfl : j = R.length := by omega
                  rw [List.take_length] at hO
                  obtain ⟨A4, c4, hv4, _, _⟩ := hO.out.acts
                  subst hv4
                  have hsl : (stayR a.r R).length ≤ R.length := List.length_filter_le _ _
                  have HQ : Hid ((((R.map Ac.t).length : Nat) : Int) - ((((R.map Ac.t).filter (stayT a.r)).length : Nat) : Int) = (R.length : Int) - ((stayR a.r R).length : Int)) := Lib.hid (by rw [← stayR_t]; simp)
                  have HST := Lib.hid (stayR_t a.r R)
                  have HSF : Hid (∀ x ∈ stayR a.r R, x.ok w ∧ x.l.length ≤ 20) := Lib.hid (fun x hx => HFN.out x (List.mem_filter.1 hx).1)
                  generalize stayR a.r R = Z at *
                  have HCL := Lib.hid (set_clear a.r (HI6.out.grow hB.out HS6.out) (HI6.out.grow hB.out HS6.out).below.size (by simp; omega))
                  rw [HQ.out] at HCL
                  have hv1 := HVC.out _ hB.out 1 _ rfl
                  go_wp2_with fail
                  refine HCL.out.mono ?_
                  rintro e w8 ⟨rfl, i8, k8⟩
                  have HI8 := Lib.hid i8
                  have HR8 : Hid (RowIs w1.heap.size w8 (.slice A4 Z.length c4) Z) := Lib.hid (World.ownsRow.mono (hO.out.keep k8 (by
                    obtain ⟨es, clock, h⟩ := HMm.out
                    exact ⟨es, clock, (hB.out.block m (Array.getElem?_eq_some_iff.1 h).1).trans h⟩)) HS6.out)
                  clear i8 k8
                  go_wp2_with fail
                  go_meet
                  exact ⟨g, m, Z, rfl, Lib.hid ⟨HST.out ▸ HI8.out, HR8.out, by have := HFW.out; omega, HSF.out⟩⟩
            have o3' : (a.op == 3) = false := beq_eq_false_iff_ne.2 o3
            clear o3
            by_cases o4 : a.op = 4
            · as_aux_lemma =>
              have o4' : (a.op == 4) = true := beq_iff_eq.2 o4
              clear o4
              go_wp2_with fail
              refine (set_twin HI6.out HS6.out).mono ?_
              rintro e w7 ⟨g', m', rfl, b7, _, _, _, _, hI'⟩
              have H7 := Lib.hid hI'
              have HI7 := Lib.hid (HI6.out.grow b7 HS6.out)
              have HB7 := Lib.hid b7
              clear hI' b7
              go_wp2_with fail
              refine (set_clear (-1) HI7.out HI7.out.below.size (by simp; omega)).mono ?_
              rintro e w8 ⟨rfl, _, k8⟩
              have HK8 := Lib.hid k8
              clear k8
              go_wp2_with fail
              go_meet
              exact ⟨g', m', R, rfl, Lib.hid ⟨H7.out _ HK8.out, HRK.out _ ((Keep.of_below HB7.out _).trans HK8.out (fun k h => .inl h)), by have := HFW.out; omega, HFN.out⟩⟩
            · have o4' : (a.op == 4) = false := beq_eq_false_iff_ne.2 o4
              clear o4
              go_wp2_with fail
              go_meet
              exact ⟨g, m, R, rfl, Lib.hid ⟨HI6.out, HR6.out, by have := HFW.out; omega, HFN.out⟩⟩
          case rest => as_aux_lemma =>
            obtain ⟨g', m', R', rfl, hM'⟩ := hcut
            have hRl' : R'.length ≤ 80 := by have := hM'.out.few; omega
            obtain ⟨A3, c3, hv3, hcap3, hacts3⟩ := hM'.out.row.acts
            subst hv3
            obtain ⟨wq, hwq⟩ : ∃ wq, wq = wc := ⟨_, rfl⟩
            subst hwq
            have HAC := Lib.hid (fun W (h : Below wq.heap.size wq W) => hacts3.below h)
            have BWq := Lib.hid (BI.out _ _ _ _ hM'.out.inv)
            have HFN' := Lib.hid hM'.out.fin
            clear hacts3 hv0 hv1 hv2
            go_wp2_with fail
            go_loopg [14, 15] R'.length (fun gh nn i wx => ∃ j : Nat, j ≤ R'.length ∧ gh = R'.length - j ∧ i = .int .i64 j ∧ nn = .int .i64 (nF R' fact j) ∧ Hid (Below wq.heap.size wq wx))
            case atStart => exact ⟨0, by omega, by omega, rfl, rfl, Lib.hid (Below.refl _ _)⟩
            case round =>
              obtain ⟨j, hj, rfl, rfl, rfl, hB⟩ := hrel
              by_cases hlt2 : j < R'.length
              · obtain ⟨rd, rfl, hrc⟩ := HAC.out _ hB.out j hlt2
                have hx0 := HFN'.out R'[j] (List.getElem_mem hlt2)
                have HNF := Lib.hid (nF_snoc R' fact j hlt2)
                have HNL := Lib.hid (nF_le R' fact j)
                generalize R'[j] = x at *
                generalize nF R' fact j = q at *
                have hq80 : q ≤ j := HNL.out
                have hjI : (j : Int) < (R'.length : Int) := by omega
                have hxl := hx0.2
                obtain ⟨wp, hwp⟩ : ∃ wp, wp = wr := ⟨_, rfl⟩
                subst hwp
                have HR3 : Hid (∀ W, Below wp.heap.size wp W → W.cell? ⟨(rd.add (j * 4)).block, (rd.add (j * 4)).off + 3, none⟩ = some (.slice x.A x.l.length x.c)) := Lib.hid (fun W h => (h.cell (World.block_lt_of_cell? _ _ (hrc 3 _ rfl))).trans (hrc 3 _ rfl))
                have HXR := Lib.hid (fun W (h : Below wp.heap.size wp W) => (hx0.1.below (BWq.out.trans ((hB.out.trans (h.mono hB.out.size)).mono BWq.out.size))).row)
                clear hrc hx0
                go_wp2_with fail
                go_loopg [16, 17] x.l.length (fun gh b i wx => ∃ z : Nat, z ≤ x.l.length ∧ gh = x.l.length - z ∧ i = .int .i64 z ∧ b = .bool (decide (fact ∈ x.l.take z)) ∧ wx = wp)
                case atStart => exact ⟨0, by omega, by omega, rfl, by simp, rfl⟩
                case round =>
                  obtain ⟨z, hz, rfl, rfl, rfl, rfl⟩ := hrel
                  have hr3 := HR3.out _ (Below.refl _ _)
                  by_cases hlt3 : z < x.l.length
                  · obtain ⟨fa, hfa, _, hfx⟩ := HXR.out _ (Below.refl _ _) z hlt3
                    rw [hfa] at hr3
                    have HTS : Hid (fact ∈ x.l.take (z + 1) ↔ fact ∈ x.l.take z ∨ x.l[z] = fact) := Lib.hid (by
                      rw [List.take_succ_eq_append_getElem hlt3, List.mem_append, List.mem_singleton]
                      exact or_congr_right eq_comm)
                    generalize x.l[z] = y at *
                    have hzI : (z : Int) < (x.l.length : Int) := by omega
                    by_cases hin : fact ∈ x.l.take z
                    · rw [decide_eq_true hin]
                      have HD9 : Hid (decide (fact ∈ x.l.take (z + 1)) = true) := Lib.hid (decide_eq_true (HTS.out.2 (.inl hin)))
                      clear hin hfa
                      go_wp2
                      go_roundg (x.l.length - (z + 1))
                      case measure => omega
                      case rel => exact ⟨z + 1, by omega, by omega, by go_num, by rw [HD9.out], rfl⟩
                    · rw [decide_eq_false hin]
                      by_cases hy : y = fact
                      · have hy' : (y == fact) = true := beq_iff_eq.2 hy
                        have HD9 : Hid (decide (fact ∈ x.l.take (z + 1)) = true) := Lib.hid (decide_eq_true (HTS.out.2 (.inr hy)))
                        clear hin hfa hy
                        go_wp2
                        go_roundg (x.l.length - (z + 1))
                        case measure => omega
                        case rel => exact ⟨z + 1, by omega, by omega, by go_num, by rw [HD9.out], rfl⟩
                      · have hy' : (y == fact) = false := beq_eq_false_iff_ne.2 hy
                        have HD9 : Hid (decide (fact ∈ x.l.take (z + 1)) = false) := Lib.hid (decide_eq_false (fun h => (HTS.out.1 h).elim hin hy))
                        clear hin hfa hy
                        go_wp2
                        go_roundg (x.l.length - (z + 1))
                        case measure => omega
                        case rel => exact ⟨z + 1, by omega, by omega, by go_num, by rw [HD9.out], rfl⟩
                  · obtain rfl : z = x.l.length := by omega
                    rw [List.take_length]
                    by_cases hin : fact ∈ x.l
                    · rw [decide_eq_true hin]
                      have HN9 : Hid (nF R' fact (j + 1) = q + 1) := Lib.hid (by rw [HNF.out, if_pos hin])
                      clear hin
                      go_wp2
                      go_roundg (R'.length - (j + 1))
                      case measure => omega
                      case rel => exact ⟨j + 1, by omega, by omega, by go_num, by rw [HN9.out]; go_num, hB⟩
                    · rw [decide_eq_false hin]
                      have HN9 : Hid (nF R' fact (j + 1) = q) := Lib.hid (by rw [HNF.out, if_neg hin]; rfl)
                      clear hin
                      go_wp2
                      go_roundg (R'.length - (j + 1))
                      case measure => omega
                      case rel => exact ⟨j + 1, by omega, by omega, by go_num, by rw [HN9.out], hB⟩
              · obtain rfl : j = R'.length := by omega
                have HI' := Lib.hid (hM'.out.inv.grow hB.out hM'.out.inv.below.size)
                have HR' := Lib.hid (hM'.out.row.below hB.out)
                have HNA := Lib.hid (nF_all R' fact)
                have HL' : Hid ((R'.map Ac.t).length = R'.length) := Lib.hid (by simp)
                have HLen := len_c HI'.out HL'.out
                generalize nF R' fact R'.length = q at *
                have HOf := Lib.hid (set_of fact HI'.out HI'.out.below.size (by rw [HL'.out]; omega) (fun t ht => by
                  obtain ⟨x, hx, rfl⟩ := List.mem_map.1 ht
                  have := (HFN'.out x hx).2
                  show x.l.length ≤ 1000
                  omega))
                rw [← HNA.out] at HOf
                go_wp2_with fail
                refine HLen.mono ?_
                clear HLen
                rintro e w10 ⟨rfl, rfl⟩
                go_wp2_with fail
                refine HOf.out.mono ?_
                rintro e w11 ⟨rfl, b11⟩
                have HM11 : Hid (Mid w w1 fact g' m' R' (.slice A3 R'.length c3) (k + 1) w11) := Lib.hid ⟨HI'.out.grow b11 HI'.out.below.size, HR'.out.below b11, hM'.out.few, hM'.out.fin⟩
                clear b11
                go_wp2
                go_roundg (l.length - (k + 1))
                case measure => omega
                case rel => exact ⟨k + 1, by omega, by omega, by go_num, g', m', R', rfl, HM11⟩
    · obtain rfl : k = l.length := by omega
      go_wp2_with fail
      go_ret
      exact ⟨rfl, BI.out _ _ _ _ hM.out.inv⟩
theorem firedPlays_any (A : Option Addr) (c : Nat) (l : List Ac) (fact : Int) (w : World) (ht : Tab w) (ra : ActsAt w A l) (hx : ∀ x ∈ l, x.ok w) (hf : (Lit.int .i64 fact).wf = true) :
    Calls Tryd.prog 4 #[.slice A l.length c, .int .i64 fact] w fun e w' => e = .returned (.bool true) ∧ Below w.heap.size w w' := plays_any A c l fact w ht ra hx (i64b hf)
end Go.Proofs.YtcffphojpnbcbaaDoor
