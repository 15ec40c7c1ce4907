/- FiredRules. -/
import Derived.Test.YtcffphojpnbcbaaDoorRd
import Derived.OpenShut
import Derived.IntWalk
namespace Go.Proofs.YtcffphojpnbcbaaDoor
open Go.RowKit Go.Lib KP MR

def way (i : Nat) (x : Int) : Wt := (x % 4, 0, [(i : Int) + 1])
def waysL (l : List Int) : List Wt := l.zipIdx.map fun p => way p.2 p.1
theorem waysL_snoc (l : List Int) (x : Int) : waysL (l ++ [x]) = waysL l ++ [way l.length x] := by
  simp [waysL, List.zipIdx_append]
theorem waysL_len (l : List Int) : (waysL l).length = l.length := by simp [waysL]
theorem waysL_mem {l : List Int} {t : Wt} (h : t ∈ waysL l) : ∃ i, ∃ hi : i < l.length, t = way i l[i] := by
  obtain ⟨p, hp, rfl⟩ := List.mem_map.1 h
  obtain ⟨x, i⟩ := p
  obtain ⟨_, h2, h3⟩ := List.mem_zipIdx hp
  exact ⟨i, by simpa using h2, by simp [h3]⟩
theorem way_mem {l : List Int} {i : Nat} (hi : i < l.length) : way i l[i] ∈ waysL l := by
  refine List.mem_map.2 ⟨(l[i], i), ?_, rfl⟩
  rw [List.mem_zipIdx_iff_getElem?]
  simp [hi]
theorem way_new (l : List Int) (k : Nat) (h : k < l.length) : mark (waysL (l.take k)) (way k l[k]) = waysL (l.take (k + 1)) := by
  have hlen : (l.take k).length = k := by rw [List.length_take]; omega
  rw [List.take_succ_eq_append_getElem h, waysL_snoc, hlen]
  unfold mark
  rw [if_neg]
  intro hm
  obtain ⟨i, hi, e⟩ := waysL_mem hm
  unfold way at e
  injection e with _ e
  injection e with _ e
  injection e with e _
  rw [hlen] at hi
  omega
def cnt (l : List Int) (r : Int) : Nat := (l.filter fun x => decide (x % 4 = r)).length
theorem cnt_snoc (l : List Int) (r : Int) (k : Nat) (h : k < l.length) : cnt (l.take (k + 1)) r = cnt (l.take k) r + if l[k] % 4 = r then 1 else 0 := by
  unfold cnt
  rw [List.take_succ_eq_append_getElem h, List.filter_append, List.filter_cons]
  by_cases e : l[k] % 4 = r <;> simp [e]
theorem stay_len' (l : List Int) (r : Int) (hr : 0 ≤ r) : ∀ k, k ≤ l.length → ((waysL (l.take k)).filter (stayT r)).length + cnt (l.take k) r = k
  | 0, _ => rfl
  | k + 1, hk => by
    have ih := stay_len' l r hr k (by omega)
    have hlen : (l.take k).length = k := by rw [List.length_take]; omega
    rw [cnt_snoc l r k (by omega), List.take_succ_eq_append_getElem (by omega), waysL_snoc, List.filter_append, List.length_append, List.filter_cons, hlen]
    have h3 : stayT r (way k l[k]) = !decide (l[k] % 4 = r) := by
      unfold stayT way
      have : decide (r < 0) = false := by simp; omega
      rw [this]; rfl
    rw [h3]
    by_cases e : l[k] % 4 = r <;> simp [e] <;> omega
theorem stay_len (l : List Int) (r : Int) (hr : 0 ≤ r) : ((waysL l).filter (stayT r)).length + cnt l r = l.length := by
  have := stay_len' l r hr l.length (Nat.le_refl _)
  rwa [List.take_length] at this
theorem stay_has (l : List Int) (r : Int) (hr : 0 ≤ r) {i : Nat} (hi : i < l.length) : decide (way i l[i] ∈ (waysL l).filter (stayT r)) = !decide (l[i] % 4 = r) := by
  have h3 : stayT r (way i l[i]) = !decide (l[i] % 4 = r) := by
    unfold stayT way
    have : decide (r < 0) = false := by simp; omega
    rw [this]; rfl
  rw [← h3, Bool.eq_iff_iff, decide_eq_true_iff, List.mem_filter]
  exact ⟨fun h => h.2, fun h => ⟨way_mem hi, h⟩⟩

theorem has_b {g m : Nat} {w W : World} {T : List Wt} {r al : Int} {l : List Int} {b : Bool} (h : Inv w.heap.size w g m T W) (ht : Tab w) (hr : okI r) (ha : okI al) (hl : ∀ x ∈ l, okI x) (hn : l.length ≤ 1000) (hb : decide ((r, al, l) ∈ T) = b) :
    Calls Tryd.prog 10 #[.pointer (some ⟨g, 0, none⟩), .int .i64 r, .int .i64 al, .slice (some ⟨W.heap.size, 0, none⟩) l.length l.length] (W.alloc (.cells (l.map (Value.int .i64)).toArray 3)).drew fun e w' => e = .returned (.bool b) ∧ Below W.heap.size W w' := by
  have d : Below (W.alloc (.cells (l.map (Value.int .i64)).toArray 3)).heap.size (W.alloc (.cells (l.map (Value.int .i64)).toArray 3)) (W.alloc (.cells (l.map (Value.int .i64)).toArray 3)).drew := ⟨rfl, rfl, rfl, Nat.le_refl _, fun _ _ => rfl⟩
  have h2 := (h.new (.cells (l.map (Value.int .i64)).toArray 3)).grow d (h.new _).below.size
  exact (set_has (t := (r, al, l)) h2 (h2.tab ht) h2.below.size ((argOk_new W hr ha hl hn).below d)).mono fun _ _ x => ⟨hb ▸ x.1, (((Below.refl _ W).alloc (Nat.le_refl _) _).trans (d.mono (by simp))).trans (x.2.mono (by simp))⟩
theorem has_1 {g m : Nat} {w W : World} {T : List Wt} {r y : Int} {b : Bool} (h : Inv w.heap.size w g m T W) (ht : Tab w) (hr : okI r) (ha : okI 0) (hl : ∀ x ∈ [y], okI x) (hb : decide ((r, 0, [y]) ∈ T) = b) :
    Calls Tryd.prog 10 #[.pointer (some ⟨g, 0, none⟩), .int .i64 r, .int .i64 0, .slice (some ⟨W.heap.size, 0, none⟩) 1 1] (W.alloc (.cells #[.int .i64 y] 3)).drew fun e w' => e = .returned (.bool b) ∧ Below W.heap.size W w' :=
  has_b (l := [y]) h ht hr ha hl (by simp) hb
theorem u8b {n : Int} (h : (Lit.int .u8 n).wf = true) : 0 ≤ n ∧ n ≤ 255 := bounds_u8 h
set_option maxHeartbeats 2000000 in
theorem firedRules_any (A : Option Addr) (c : Nat) (l : List Int) (rule : Int) (w : World) (ht : Tab w) (ra : RowAt w (Value.int .u8) A l) (hl : ∀ n ∈ l, (Lit.int .u8 n).wf = true) (hr : (Lit.int .u8 rule).wf = true) :
    Calls Tryd.prog 3 #[.slice A l.length c, .int .u8 rule] w fun e w' => e = .returned (.bool true) ∧ Below w.heap.size w w' := by
  have HK := Lib.hid (known_any w ht)
  have HT := Lib.hid ht
  have R := Lib.hid (fun W (h : Below w.heap.size w W) => ra.below h)
  obtain ⟨hr1, hr2⟩ := u8b hr
  have HL := Lib.hid hl
  clear ht ra hl hr
  have o0 := Lib.hid (okS 0 (by omega))
  by_cases h60 : 60 < l.length
  · have h60' : (60 : Int) < (l.length : Int) := by omega
    go_enter Tryd.func3, Tryd.ntmps3
    go_wp2_with fail
    refine HK.out.mono ?_
    rintro e w1 ⟨rfl, b1⟩
    have E1 := Lib.hid b1; clear b1
    go_wp2_with fail
    go_ret
    exact ⟨rfl, E1.out⟩
  have h60' : (l.length : Int) ≤ 60 := by omega
  go_enter Tryd.func3, Tryd.ntmps3
  go_wp2_with fail
  refine HK.out.mono ?_
  rintro e w1 ⟨rfl, b1⟩
  have E1 := Lib.hid b1
  have T1 := Lib.hid (HT.out.b b1)
  clear b1
  go_wp2_with fail
  refine (set_new w1).mono ?_
  rintro e w2 ⟨g, m, rfl, i2, _, _⟩
  have I2 := Lib.hid i2; clear i2
  have BI : Hid (∀ T W, Inv w1.heap.size w1 g m T W → Below w.heap.size w W) := Lib.hid (fun T W h => E1.out.trans (h.below.mono E1.out.size))
  go_wp2_with fail
  go_loopw [6] (fun i wr => ∃ k : Nat, k ≤ l.length ∧ i = .int .i64 k ∧ Hid (Inv w1.heap.size w1 g m (waysL (l.take k)) wr)) (fun i _ => l.length - (RowKit.intOf i).toNat)
  case atStart => exact ⟨0, by omega, rfl, I2⟩
  case round =>
    obtain ⟨k, hk, rfl, hI⟩ := hrel
    by_cases hlt : k < l.length
    · obtain ⟨ad, rfl, _, hx⟩ := R.out _ (BI.out _ _ hI.out) k hlt
      obtain ⟨hx1, hx2⟩ := u8b (HL.out l[k] (List.getElem_mem hlt))
      have HN := Lib.hid (way_new l k hlt)
      generalize l[k] = x at *
      have okx := Lib.hid (okS (x % 4) (by omega))
      have oki : Hid (∀ y ∈ [(k : Int) + 1], okI y) := Lib.hid (by intro y hy; rw [List.mem_singleton.1 hy]; exact okS _ (by omega))
      have hltI : (k : Int) < (l.length : Int) := by omega
      go_wp2_with fail
      refine (mark_c (l := [(k : Int) + 1]) hI.out T1.out okx.out o0.out oki.out (by simp) HN.out).mono ?_
      rintro e w3 ⟨rfl, i3⟩
      have I3 := Lib.hid i3; clear i3
      go_wp2_with fail
      go_roundw
      case rel => exact ⟨k + 1, by omega, by go_num, I3⟩
      case measure => first | (simp [RowKit.intOf]; done) | (simp [RowKit.intOf]; omega)
    · obtain rfl : k = l.length := by omega
      have HI : Hid (Inv w1.heap.size w1 g m (waysL l) wr) := Lib.hid (by have := hI.out; rwa [List.take_length] at this)
      clear hI
      generalize hn : l.length = n at *
      have HNL := Lib.hid hn; clear hn
      go_wp2_with fail
      obtain ⟨W1, hW1⟩ : ∃ W, W = wr := ⟨_, rfl⟩
      rw [← hW1] at HI
      rw [← hW1]
      clear hW1
      go_loopw [7, 8] (fun v i wr => ∃ k : Nat, k ≤ n ∧ i = .int .i64 k ∧ v = .int .i64 (cnt (l.take k) (rule % 4)) ∧ Hid (cnt (l.take k) (rule % 4) ≤ k) ∧ wr = W1) (fun _ i _ => n - (RowKit.intOf i).toNat)
      case atStart => exact ⟨0, by omega, rfl, rfl, Lib.hid (Nat.le_refl _), rfl⟩
      case round =>
        obtain ⟨k, hk, rfl, rfl, hC, rfl⟩ := hrel
        by_cases hlt : k < n
        · have hlt' : k < l.length := by rw [HNL.out]; exact hlt
          obtain ⟨ad, rfl, _, hx⟩ := R.out _ (BI.out _ _ HI.out) k hlt'
          obtain ⟨hx1, hx2⟩ := u8b (HL.out l[k] (List.getElem_mem hlt'))
          have HN := Lib.hid (cnt_snoc l (rule % 4) k hlt')
          have hCle := hC.out
          generalize cnt (l.take k) (rule % 4) = q at *
          generalize l[k] = x at *
          have hltI : (k : Int) < (n : Int) := by omega
          by_cases he : x % 4 = rule % 4
          · have he' : (x % 4 == rule % 4) = true := beq_iff_eq.2 he
            have HN2 : Hid (cnt (l.take (k + 1)) (rule % 4) = q + 1) := Lib.hid (by rw [HN.out, if_pos he])
            clear he
            go_wp2
            go_roundw
            case rel => exact ⟨k + 1, by omega, by go_num, by rw [HN2.out]; go_num, Lib.hid (by rw [HN2.out]; omega), (by first | rfl | trivial)⟩
            case measure => first | (simp [RowKit.intOf]; done) | (simp [RowKit.intOf]; omega)
          · have he' : (x % 4 == rule % 4) = false := beq_eq_false_iff_ne.2 he
            have HN2 : Hid (cnt (l.take (k + 1)) (rule % 4) = q) := Lib.hid (by rw [HN.out, if_neg he]; rfl)
            clear he
            go_wp2
            go_roundw
            case rel => exact ⟨k + 1, by omega, by go_num, by rw [HN2.out], Lib.hid (by rw [HN2.out]; omega), (by first | rfl | trivial)⟩
            case measure => first | (simp [RowKit.intOf]; done) | (simp [RowKit.intOf]; omega)
        · obtain rfl : k = n := by omega
          have hS := stay_len l (rule % 4) (by omega)
          have hWL := waysL_len l
          have htk : l.take k = l := by rw [← HNL.out, List.take_length]
          rw [htk] at *
          rw [HNL.out] at hS hWL
          have HWL := Lib.hid hWL; clear hWL
          have HD : Hid (∀ i (hi : i < l.length), decide (way i l[i] ∈ (waysL l).filter (stayT (rule % 4))) = !decide (l[i] % 4 = rule % 4)) := Lib.hid (fun i hi => stay_has l (rule % 4) (by omega) hi)
          have HQ : Hid (((waysL l).length : Int) - (((waysL l).filter (stayT (rule % 4))).length : Int) = (cnt l (rule % 4) : Int)) := Lib.hid (by rw [HWL.out]; omega)
          have HQ2 : Hid ((((waysL l).filter (stayT (rule % 4))).length : Int) = (k : Int) - (cnt l (rule % 4) : Int)) := Lib.hid (by omega)
          have hqk : cnt l (rule % 4) ≤ k := by omega
          have hT9 : Hid ((waysL l).length ≤ 100000) := Lib.hid (by rw [HWL.out]; omega)
          clear hS htk hC
          generalize hTT : (waysL l).filter (stayT (rule % 4)) = T2 at *
          have HTT := Lib.hid hTT; clear hTT
          generalize cnt l (rule % 4) = q at *
          go_wp2_with fail
          refine (clear_c (rule % 4) (T' := T2) HI.out hT9.out HTT.out).mono ?_
          rw [HQ.out]
          rintro e w3 ⟨rfl, i3⟩
          have I3 := Lib.hid i3; clear i3
          go_wp2_with fail
          have hlc := len_c I3.out rfl
          rw [HQ2.out] at hlc
          refine hlc.mono ?_
          clear hlc
          rintro e w4 ⟨rfl, rfl⟩
          go_wp2_with fail
          go_loopw [9] (fun i wr => ∃ j : Nat, j ≤ k ∧ i = .int .i64 j ∧ Hid (Inv w1.heap.size w1 g m T2 wr)) (fun i _ => k - (RowKit.intOf i).toNat)
          case atStart => exact ⟨0, by omega, rfl, I3⟩
          case round =>
            obtain ⟨j, hj, rfl, hI⟩ := hrel
            by_cases hlt2 : j < k
            · have hlt' : j < l.length := by rw [HNL.out]; exact hlt2
              have hsz := Lib.hid hI.out.below
              obtain ⟨ad, rfl, hxb, hx⟩ := R.out _ (BI.out _ _ hI.out) j hlt'
              obtain ⟨hx1, hx2⟩ := u8b (HL.out l[j] (List.getElem_mem hlt'))
              have HB : Hid (decide ((l[j] % 4, (0 : Int), [(j : Int) + 1]) ∈ T2) = !decide (l[j] % 4 = rule % 4)) := Lib.hid (HD.out j hlt')
              have HXW : Hid (∀ W, Below wr.heap.size wr W → W.cell? (ad.add j) = some (.int .u8 l[j])) := Lib.hid (fun W h => (h.cell hxb).trans hx)
              generalize l[j] = x at *
              have okx := Lib.hid (okS (x % 4) (by omega))
              have oki : Hid (∀ y ∈ [(j : Int) + 1], okI y) := Lib.hid (by intro y hy; rw [List.mem_singleton.1 hy]; exact okS _ (by omega))
              have hltI : (j : Int) < (k : Int) := by omega
              have IW : Hid (∀ W, Below wr.heap.size wr W → Inv w1.heap.size w1 g m T2 W) := Lib.hid (fun W h => hI.out.grow h hsz.out.size)
              have D0 : Below wr.heap.size wr wr.drew := ⟨rfl, rfl, rfl, Nat.le_refl _, fun _ _ => rfl⟩
              clear hx hxb
              have hs1 : IntKind.i64.wrap ((j : Int) + 1) = (j : Int) + 1 := IntWalk.i64_in _ (by omega)
              have hs2 : x.tmod 4 = x % 4 := Int.tmod_eq_emod_of_nonneg hx1
              have hs3 : rule.tmod 4 = rule % 4 := Int.tmod_eq_emod_of_nonneg hr1
              have hs4 : IntKind.i64.wrap (x % 4) = x % 4 := IntWalk.i64_in _ (by omega)
              by_cases he : x % 4 = rule % 4
              · have he' : (x % 4 == rule % 4) = true := beq_iff_eq.2 he
                have HB := Lib.hid (HB.out.trans (show (!decide (x % 4 = rule % 4)) = false by simp [he]))
                clear he
                go_wp2_with fail
                refine wp_region_held_drew (S := (fun w' => Below wr.heap.size wr w' ∧ w'.cell? (ad.add j) = some (.int .u8 x))) (by kernel_rfl) ⟨D0, HXW.out _ D0⟩ (fun hHeld => ?_)
                refine wpAnyH_take (i := 0) (oi := ⟨_, _, _, _, _, _⟩) (v := ?_) rfl (by kernel_rfl) (by kernel_rfl) (by kernel_rfl) (fun _ _ _ h => h) (Or.inl ⟨by rfl, ?_⟩) (by assumption) ?_
                rotate_left
                · intro w' hSw; (try dsimp only at hSw); go_simp; (try with_reducible rfl)
                try simp only [Act.put, List.setIfInBounds_toArray, List.set_cons_zero, List.set_cons_succ]
                refine wpAnyH_take (i := 1) (oi := ⟨_, _, _, _, _, _⟩) (v := ?_) rfl (by kernel_rfl) (by kernel_rfl) (by kernel_rfl) (fun _ _ _ h => h) (Or.inl ⟨by rfl, ?_⟩) (by assumption) ?_
                rotate_left
                · intro w' hSw; (try dsimp only at hSw); go_simp; (try with_reducible rfl)
                try simp only [Act.put, List.setIfInBounds_toArray, List.set_cons_zero, List.set_cons_succ]
                refine wpAnyH_take (i := 2) (oi := ⟨_, _, _, _, _, _⟩) (v := ?_) rfl (by kernel_rfl) (by kernel_rfl) (by kernel_rfl) (fun _ _ _ h => h) (Or.inl ⟨by rfl, ?_⟩) (by assumption) ?_
                rotate_left
                · intro w' hSw; (try dsimp only at hSw); go_simp; (try with_reducible rfl)
                try simp only [Act.put, List.setIfInBounds_toArray, List.set_cons_zero, List.set_cons_succ]
                refine wpAnyH_take (i := 3) (oi := ⟨_, _, _, _, _, _⟩) (v := ?_) rfl (by kernel_rfl) (by kernel_rfl) (by kernel_rfl) (fun _ _ _ h => h) (Or.inl ⟨by rfl, ?_⟩) (by assumption) ?_
                rotate_left
                · intro w' hSw; (try dsimp only at hSw); go_simp; (try with_reducible rfl)
                try simp only [Act.put, List.setIfInBounds_toArray, List.set_cons_zero, List.set_cons_succ]
                refine wpAnyH_take (i := 4) (oi := ⟨_, _, _, _, _, _⟩) (v := ?_) rfl (by kernel_rfl) (by kernel_rfl) (by kernel_rfl) (fun _ _ _ h => h) (Or.inl ⟨by rfl, ?_⟩) (by assumption) ?_
                rotate_left
                · intro w' hSw; (try dsimp only at hSw); go_simp; (try with_reducible rfl)
                try simp only [Act.put, List.setIfInBounds_toArray, List.set_cons_zero, List.set_cons_succ]
                refine wpAnyH_take (i := 5) (oi := ⟨_, _, _, _, _, _⟩) (v := ?_) rfl (by kernel_rfl) (by kernel_rfl) (by kernel_rfl) (fun _ _ _ h => h) (Or.inl ⟨by rfl, ?_⟩) (by assumption) ?_
                rotate_left
                · intro w' hSw; (try dsimp only at hSw); go_simp; (try with_reducible rfl)
                try simp only [Act.put, List.setIfInBounds_toArray, List.set_cons_zero, List.set_cons_succ]
                refine wpAnyH_take (i := 6) (oi := ⟨_, _, _, _, _, _⟩) (v := ?_) rfl (by kernel_rfl) (by kernel_rfl) (by kernel_rfl) (fun _ _ _ h => h) (Or.inl ⟨by rfl, ?_⟩) (by assumption) ?_
                rotate_left
                · intro w' hSw; (try dsimp only at hSw); go_simp; (try with_reducible rfl)
                try simp only [Act.put, List.setIfInBounds_toArray, List.set_cons_zero, List.set_cons_succ]
                refine wpAnyH_take (i := 7) (oi := ⟨_, _, _, _, _, _⟩) (v := ?_) rfl (by kernel_rfl) (by kernel_rfl) (by kernel_rfl) (fun _ _ _ h => h) (Or.inl ⟨by rfl, ?_⟩) (by assumption) ?_
                rotate_left
                · intro w' hSw; (try dsimp only at hSw); go_simp; (try with_reducible rfl)
                try simp only [Act.put, List.setIfInBounds_toArray, List.set_cons_zero, List.set_cons_succ]
                refine wpAnyH_take (i := 8) (oi := ⟨_, _, _, _, _, _⟩) (v := ?_) rfl (by kernel_rfl) (by kernel_rfl) (by kernel_rfl) (fun _ _ _ h => h) (Or.inl ⟨by rfl, ?_⟩) (by assumption) ?_
                rotate_left
                · intro w' hSw; (try dsimp only at hSw); go_simp; (try with_reducible rfl)
                try simp only [Act.put, List.setIfInBounds_toArray, List.set_cons_zero, List.set_cons_succ]
                refine wpAnyH_take (i := 11) (oi := ⟨_, _, _, _, _, _⟩) (v := ?_) rfl (by kernel_rfl) (by kernel_rfl) (by kernel_rfl) (fun _ _ _ h => h) (Or.inl ⟨by rfl, ?_⟩) (by assumption) ?_
                rotate_left
                · intro w' hSw; (try dsimp only at hSw); go_simp; (try with_reducible rfl)
                try simp only [Act.put, List.setIfInBounds_toArray, List.set_cons_zero, List.set_cons_succ]
                refine wpAnyH_take (i := 12) (oi := ⟨_, _, _, _, _, _⟩) (v := ?_) rfl (by kernel_rfl) (by kernel_rfl) (by kernel_rfl) (fun _ _ _ h => h) (Or.inl ⟨by rfl, ?_⟩) (by assumption) ?_
                rotate_left
                · intro w' hSw; (try dsimp only at hSw); go_simp; (try with_reducible rfl)
                try simp only [Act.put, List.setIfInBounds_toArray, List.set_cons_zero, List.set_cons_succ]
                refine wpAnyH_take (i := 13) (oi := ⟨_, _, _, _, _, _⟩) (v := ?_) rfl (by kernel_rfl) (by kernel_rfl) (by kernel_rfl) (fun _ _ _ h => h) (Or.inl ⟨by rfl, ?_⟩) (by assumption) ?_
                rotate_left
                · intro w' hSw; (try dsimp only at hSw); go_simp; (try with_reducible rfl)
                try simp only [Act.put, List.setIfInBounds_toArray, List.set_cons_zero, List.set_cons_succ]
                refine wpAnyH_take (i := 14) (oi := ⟨_, _, _, _, _, _⟩) (v := ?_) rfl (by kernel_rfl) (by kernel_rfl) (by kernel_rfl) (fun _ _ _ h => h) (Or.inl ⟨by rfl, ?_⟩) (by assumption) ?_
                rotate_left
                · intro w' hSw; (try dsimp only at hSw); go_simp; (try with_reducible rfl)
                try simp only [Act.put, List.setIfInBounds_toArray, List.set_cons_zero, List.set_cons_succ]
                refine wpAnyH_take (i := 15) (oi := ⟨_, _, _, _, _, _⟩) (v := ?_) rfl (by kernel_rfl) (by kernel_rfl) (by kernel_rfl) (fun _ _ _ h => h) (Or.inl ⟨by rfl, ?_⟩) (by assumption) ?_
                rotate_left
                · intro w' hSw; (try dsimp only at hSw); go_simp; (try with_reducible rfl)
                try simp only [Act.put, List.setIfInBounds_toArray, List.set_cons_zero, List.set_cons_succ]
                refine wpAnyH_take (i := 16) (oi := ⟨_, _, _, _, _, _⟩) (v := ?_) rfl (by kernel_rfl) (by kernel_rfl) (by kernel_rfl) (fun _ _ _ h => h) (Or.inl ⟨by rfl, ?_⟩) (by assumption) ?_
                rotate_left
                · intro w' hSw; (try dsimp only at hSw); go_simp; (try with_reducible rfl)
                try simp only [Act.put, List.setIfInBounds_toArray, List.set_cons_zero, List.set_cons_succ]
                refine wpAnyH_take (i := 17) (oi := ⟨_, _, _, _, _, _⟩) (v := ?_) rfl (by kernel_rfl) (by kernel_rfl) (by kernel_rfl) (fun _ _ _ h => h) (Or.inl ⟨by rfl, ?_⟩) (by assumption) ?_
                rotate_left
                · intro w' hSw; (try dsimp only at hSw); go_simp; (try with_reducible rfl)
                try simp only [Act.put, List.setIfInBounds_toArray, List.set_cons_zero, List.set_cons_succ]
                refine wpAnyH_take (i := 18) (oi := ⟨_, _, _, _, _, _⟩) (v := ?_) rfl (by kernel_rfl) (by kernel_rfl) (by kernel_rfl) (fun _ _ _ h => h) (Or.inl ⟨by rfl, ?_⟩) (by assumption) ?_
                rotate_left
                · intro w' hSw; (try dsimp only at hSw); go_simp; (try with_reducible rfl)
                try simp only [Act.put, List.setIfInBounds_toArray, List.set_cons_zero, List.set_cons_succ]
                refine wpAnyH_ready (rs := [9]) (by kernel_rfl) (by simp) ?_
                refine AllReadyH.cons (o := ⟨_, _, _, _, _, _⟩) rfl (fun K9 hK9 => ?_) AllReadyH.nil
                go_simp
                refine hK9.out _ _ ⟨D0.alloc D0.size _, HXW.out _ (D0.alloc D0.size _)⟩ (fun hHeld => ?_)
                clear hK9 K9
                try simp only [Act.put, List.setIfInBounds_toArray, List.set_cons_zero, List.set_cons_succ]
                refine wpAnyH_ready (rs := [10]) (by kernel_rfl) (by simp) ?_
                refine AllReadyH.cons (o := ⟨_, _, _, _, _, _⟩) rfl (fun K9 hK9 => ?_) AllReadyH.nil
                go_simp
                (with_reducible refine (has_1 (y := (j : Int) + 1) (b := false) hI.out T1.out okx.out o0.out oki.out HB.out).mono ?_)
                rintro e w5 ⟨rfl, b5⟩
                go_wp2_with fail
                refine hK9.out _ _ ⟨b5, HXW.out _ b5⟩ (fun hHeld => ?_)
                clear hK9 K9
                try simp only [Act.put, List.setIfInBounds_toArray, List.set_cons_zero, List.set_cons_succ]
                refine wpAnyH_take (i := 19) (oi := ⟨_, _, _, _, _, _⟩) (v := ?_) rfl (by kernel_rfl) (by kernel_rfl) (by kernel_rfl) (fun _ _ _ h => h) (Or.inl ⟨by rfl, ?_⟩) (by assumption) ?_
                rotate_left
                · intro w' hSw; (try dsimp only at hSw); go_simp; (try with_reducible rfl)
                try simp only [Act.put, List.setIfInBounds_toArray, List.set_cons_zero, List.set_cons_succ]
                refine wpAnyH_done (by kernel_rfl) ?_ _
                have EI := Lib.hid (IW.out _ hHeld.1)
                clear hHeld
                go_wp2
                go_roundw
                case rel => exact ⟨j + 1, by omega, by go_num, EI⟩
                case measure => first | (simp [RowKit.intOf]; done) | (simp [RowKit.intOf]; omega)
              · have he' : (x % 4 == rule % 4) = false := beq_eq_false_iff_ne.2 he
                have HB := Lib.hid (HB.out.trans (show (!decide (x % 4 = rule % 4)) = true by simp [he]))
                clear he
                go_wp2_with fail
                refine wp_region_held_drew (S := (fun w' => Below wr.heap.size wr w' ∧ w'.cell? (ad.add j) = some (.int .u8 x))) (by kernel_rfl) ⟨D0, HXW.out _ D0⟩ (fun hHeld => ?_)
                refine wpAnyH_take (i := 0) (oi := ⟨_, _, _, _, _, _⟩) (v := ?_) rfl (by kernel_rfl) (by kernel_rfl) (by kernel_rfl) (fun _ _ _ h => h) (Or.inl ⟨by rfl, ?_⟩) (by assumption) ?_
                rotate_left
                · intro w' hSw; (try dsimp only at hSw); go_simp; (try with_reducible rfl)
                try simp only [Act.put, List.setIfInBounds_toArray, List.set_cons_zero, List.set_cons_succ]
                refine wpAnyH_take (i := 1) (oi := ⟨_, _, _, _, _, _⟩) (v := ?_) rfl (by kernel_rfl) (by kernel_rfl) (by kernel_rfl) (fun _ _ _ h => h) (Or.inl ⟨by rfl, ?_⟩) (by assumption) ?_
                rotate_left
                · intro w' hSw; (try dsimp only at hSw); go_simp; (try with_reducible rfl)
                try simp only [Act.put, List.setIfInBounds_toArray, List.set_cons_zero, List.set_cons_succ]
                refine wpAnyH_take (i := 2) (oi := ⟨_, _, _, _, _, _⟩) (v := ?_) rfl (by kernel_rfl) (by kernel_rfl) (by kernel_rfl) (fun _ _ _ h => h) (Or.inl ⟨by rfl, ?_⟩) (by assumption) ?_
                rotate_left
                · intro w' hSw; (try dsimp only at hSw); go_simp; (try with_reducible rfl)
                try simp only [Act.put, List.setIfInBounds_toArray, List.set_cons_zero, List.set_cons_succ]
                refine wpAnyH_take (i := 3) (oi := ⟨_, _, _, _, _, _⟩) (v := ?_) rfl (by kernel_rfl) (by kernel_rfl) (by kernel_rfl) (fun _ _ _ h => h) (Or.inl ⟨by rfl, ?_⟩) (by assumption) ?_
                rotate_left
                · intro w' hSw; (try dsimp only at hSw); go_simp; (try with_reducible rfl)
                try simp only [Act.put, List.setIfInBounds_toArray, List.set_cons_zero, List.set_cons_succ]
                refine wpAnyH_take (i := 4) (oi := ⟨_, _, _, _, _, _⟩) (v := ?_) rfl (by kernel_rfl) (by kernel_rfl) (by kernel_rfl) (fun _ _ _ h => h) (Or.inl ⟨by rfl, ?_⟩) (by assumption) ?_
                rotate_left
                · intro w' hSw; (try dsimp only at hSw); go_simp; (try with_reducible rfl)
                try simp only [Act.put, List.setIfInBounds_toArray, List.set_cons_zero, List.set_cons_succ]
                refine wpAnyH_take (i := 5) (oi := ⟨_, _, _, _, _, _⟩) (v := ?_) rfl (by kernel_rfl) (by kernel_rfl) (by kernel_rfl) (fun _ _ _ h => h) (Or.inl ⟨by rfl, ?_⟩) (by assumption) ?_
                rotate_left
                · intro w' hSw; (try dsimp only at hSw); go_simp; (try with_reducible rfl)
                try simp only [Act.put, List.setIfInBounds_toArray, List.set_cons_zero, List.set_cons_succ]
                refine wpAnyH_take (i := 6) (oi := ⟨_, _, _, _, _, _⟩) (v := ?_) rfl (by kernel_rfl) (by kernel_rfl) (by kernel_rfl) (fun _ _ _ h => h) (Or.inl ⟨by rfl, ?_⟩) (by assumption) ?_
                rotate_left
                · intro w' hSw; (try dsimp only at hSw); go_simp; (try with_reducible rfl)
                try simp only [Act.put, List.setIfInBounds_toArray, List.set_cons_zero, List.set_cons_succ]
                refine wpAnyH_take (i := 7) (oi := ⟨_, _, _, _, _, _⟩) (v := ?_) rfl (by kernel_rfl) (by kernel_rfl) (by kernel_rfl) (fun _ _ _ h => h) (Or.inl ⟨by rfl, ?_⟩) (by assumption) ?_
                rotate_left
                · intro w' hSw; (try dsimp only at hSw); go_simp; (try with_reducible rfl)
                try simp only [Act.put, List.setIfInBounds_toArray, List.set_cons_zero, List.set_cons_succ]
                refine wpAnyH_take (i := 8) (oi := ⟨_, _, _, _, _, _⟩) (v := ?_) rfl (by kernel_rfl) (by kernel_rfl) (by kernel_rfl) (fun _ _ _ h => h) (Or.inl ⟨by rfl, ?_⟩) (by assumption) ?_
                rotate_left
                · intro w' hSw; (try dsimp only at hSw); go_simp; (try with_reducible rfl)
                try simp only [Act.put, List.setIfInBounds_toArray, List.set_cons_zero, List.set_cons_succ]
                refine wpAnyH_take (i := 11) (oi := ⟨_, _, _, _, _, _⟩) (v := ?_) rfl (by kernel_rfl) (by kernel_rfl) (by kernel_rfl) (fun _ _ _ h => h) (Or.inl ⟨by rfl, ?_⟩) (by assumption) ?_
                rotate_left
                · intro w' hSw; (try dsimp only at hSw); go_simp; (try with_reducible rfl)
                try simp only [Act.put, List.setIfInBounds_toArray, List.set_cons_zero, List.set_cons_succ]
                refine wpAnyH_take (i := 12) (oi := ⟨_, _, _, _, _, _⟩) (v := ?_) rfl (by kernel_rfl) (by kernel_rfl) (by kernel_rfl) (fun _ _ _ h => h) (Or.inl ⟨by rfl, ?_⟩) (by assumption) ?_
                rotate_left
                · intro w' hSw; (try dsimp only at hSw); go_simp; (try with_reducible rfl)
                try simp only [Act.put, List.setIfInBounds_toArray, List.set_cons_zero, List.set_cons_succ]
                refine wpAnyH_take (i := 13) (oi := ⟨_, _, _, _, _, _⟩) (v := ?_) rfl (by kernel_rfl) (by kernel_rfl) (by kernel_rfl) (fun _ _ _ h => h) (Or.inl ⟨by rfl, ?_⟩) (by assumption) ?_
                rotate_left
                · intro w' hSw; (try dsimp only at hSw); go_simp; (try with_reducible rfl)
                try simp only [Act.put, List.setIfInBounds_toArray, List.set_cons_zero, List.set_cons_succ]
                refine wpAnyH_take (i := 14) (oi := ⟨_, _, _, _, _, _⟩) (v := ?_) rfl (by kernel_rfl) (by kernel_rfl) (by kernel_rfl) (fun _ _ _ h => h) (Or.inl ⟨by rfl, ?_⟩) (by assumption) ?_
                rotate_left
                · intro w' hSw; (try dsimp only at hSw); go_simp; (try with_reducible rfl)
                try simp only [Act.put, List.setIfInBounds_toArray, List.set_cons_zero, List.set_cons_succ]
                refine wpAnyH_take (i := 15) (oi := ⟨_, _, _, _, _, _⟩) (v := ?_) rfl (by kernel_rfl) (by kernel_rfl) (by kernel_rfl) (fun _ _ _ h => h) (Or.inl ⟨by rfl, ?_⟩) (by assumption) ?_
                rotate_left
                · intro w' hSw; (try dsimp only at hSw); go_simp; (try with_reducible rfl)
                try simp only [Act.put, List.setIfInBounds_toArray, List.set_cons_zero, List.set_cons_succ]
                refine wpAnyH_take (i := 16) (oi := ⟨_, _, _, _, _, _⟩) (v := ?_) rfl (by kernel_rfl) (by kernel_rfl) (by kernel_rfl) (fun _ _ _ h => h) (Or.inl ⟨by rfl, ?_⟩) (by assumption) ?_
                rotate_left
                · intro w' hSw; (try dsimp only at hSw); go_simp; (try with_reducible rfl)
                try simp only [Act.put, List.setIfInBounds_toArray, List.set_cons_zero, List.set_cons_succ]
                refine wpAnyH_take (i := 17) (oi := ⟨_, _, _, _, _, _⟩) (v := ?_) rfl (by kernel_rfl) (by kernel_rfl) (by kernel_rfl) (fun _ _ _ h => h) (Or.inl ⟨by rfl, ?_⟩) (by assumption) ?_
                rotate_left
                · intro w' hSw; (try dsimp only at hSw); go_simp; (try with_reducible rfl)
                try simp only [Act.put, List.setIfInBounds_toArray, List.set_cons_zero, List.set_cons_succ]
                refine wpAnyH_take (i := 18) (oi := ⟨_, _, _, _, _, _⟩) (v := ?_) rfl (by kernel_rfl) (by kernel_rfl) (by kernel_rfl) (fun _ _ _ h => h) (Or.inl ⟨by rfl, ?_⟩) (by assumption) ?_
                rotate_left
                · intro w' hSw; (try dsimp only at hSw); go_simp; (try with_reducible rfl)
                try simp only [Act.put, List.setIfInBounds_toArray, List.set_cons_zero, List.set_cons_succ]
                refine wpAnyH_ready (rs := [9]) (by kernel_rfl) (by simp) ?_
                refine AllReadyH.cons (o := ⟨_, _, _, _, _, _⟩) rfl (fun K9 hK9 => ?_) AllReadyH.nil
                go_simp
                refine hK9.out _ _ ⟨D0.alloc D0.size _, HXW.out _ (D0.alloc D0.size _)⟩ (fun hHeld => ?_)
                clear hK9 K9
                try simp only [Act.put, List.setIfInBounds_toArray, List.set_cons_zero, List.set_cons_succ]
                refine wpAnyH_ready (rs := [10]) (by kernel_rfl) (by simp) ?_
                refine AllReadyH.cons (o := ⟨_, _, _, _, _, _⟩) rfl (fun K9 hK9 => ?_) AllReadyH.nil
                go_simp
                (with_reducible refine (has_1 (y := (j : Int) + 1) (b := true) hI.out T1.out okx.out o0.out oki.out HB.out).mono ?_)
                rintro e w5 ⟨rfl, b5⟩
                go_wp2_with fail
                refine hK9.out _ _ ⟨b5, HXW.out _ b5⟩ (fun hHeld => ?_)
                clear hK9 K9
                try simp only [Act.put, List.setIfInBounds_toArray, List.set_cons_zero, List.set_cons_succ]
                refine wpAnyH_take (i := 19) (oi := ⟨_, _, _, _, _, _⟩) (v := ?_) rfl (by kernel_rfl) (by kernel_rfl) (by kernel_rfl) (fun _ _ _ h => h) (Or.inl ⟨by rfl, ?_⟩) (by assumption) ?_
                rotate_left
                · intro w' hSw; (try dsimp only at hSw); go_simp; (try with_reducible rfl)
                try simp only [Act.put, List.setIfInBounds_toArray, List.set_cons_zero, List.set_cons_succ]
                refine wpAnyH_done (by kernel_rfl) ?_ _
                have EI := Lib.hid (IW.out _ hHeld.1)
                clear hHeld
                go_wp2
                go_roundw
                case rel => exact ⟨j + 1, by omega, by go_num, EI⟩
                case measure => first | (simp [RowKit.intOf]; done) | (simp [RowKit.intOf]; omega)
            · obtain rfl : j = k := by omega
              go_wp2
              go_ret
              exact ⟨rfl, BI.out _ _ hI.out⟩
end Go.Proofs.YtcffphojpnbcbaaDoor
