/- The reference's Falling: the walk. -/
import Derived.Test.YtbogjhgnnmgiaaaSt
import Derived.Test.YtbogjhgnnmgiaaaRd
import Derived.Deep.Onto
namespace Go.Proofs.Ytbogjhgnnmgiaaa
open Go.Shelf Go.RowKit Go.Lib

theorem owns_cell {α : Type} {w : World} {B e n : Nat} {v : Value} {g : α → Value} {l : List α} (h : w.ownsRow B e 1 v n (l.map g)) : l.length = n ∧ ((v = .slice none 0 0 ∧ l = []) ∨ ∃ b c, v = .slice (some ⟨b, 0, none⟩) n c ∧ B ≤ b ∧ n ≤ c ∧ ∀ j (hj : j < l.length), w.cell? ⟨b, j, none⟩ = some (g l[j])) := by
  have hn : l.length = n := by have := h.1; simpa using this
  subst hn
  refine ⟨rfl, ?_⟩
  rcases h.2 with ⟨e1, e2⟩ | ⟨g1, cap, cur, e1, hB, hg1, hc1, hc2, hc3, hc4⟩
  · exact .inl ⟨e1, List.eq_nil_of_length_eq_zero e2⟩
  · refine .inr ⟨g1, cap, e1, hB, hc1, fun j hj => ?_⟩
    have : (cur.toList.take (l.length * 1))[j]? = (l.map g)[j]? := by rw [hc4]
    rw [List.getElem?_take, if_pos (by omega), List.getElem?_map, List.getElem?_eq_getElem hj] at this
    exact KP.block_cell hg1 (by simpa using this)

theorem blk1 (W : World) (o : Obj) : (W.drew.alloc o).heap[W.heap.size]? = some o := heap1 W.drew o
theorem blk2 (W : World) (o o' : Obj) : ((W.drew.alloc o).alloc o').heap[W.heap.size]? = some o := by
  show ((W.heap.push o).push o')[W.heap.size]? = _
  simp only [Array.getElem?_push, Array.size_push]; grind
theorem blk3 (W : World) (o o' : Obj) : ((W.drew.alloc o').alloc o).heap[W.heap.size + 1]? = some o := by
  show ((W.heap.push o').push o)[W.heap.size + 1]? = _
  simp only [Array.getElem?_push, Array.size_push]; grind
theorem pickS {B : Nat} {W0 W : World} {p : Addr} {v : Value} (h : Below B W0 W ∧ W.cell? p = some v) : Below B W0 W := h.1
theorem owns_empty {W : World} {B g : Nat} (hB : B ≤ g) (h : W.heap[g]? = some (.cells #[] 3 (0, 0))) : W.ownsRow B 3 1 (.slice (some ⟨g, 0, none⟩) 0 0) 0 [] :=
  ⟨by simp, .inr ⟨g, 0, #[], rfl, hB, h, Nat.le_refl _, by unfold maxLen; omega, by simp, by simp⟩⟩
theorem news_one {W : World} {g : Nat} {x : Value} {t : TypeId} (h : W.heap[g]? = some (.cells #[x] t (0, 0))) : ∀ j u, [x][j]? = some u → W.cell? ((⟨g, 0, none⟩ : Addr).add j) = some u := by
  intro j u hj
  match j, hj with
  | 0, hj => simp at hj; subst hj; rw [add0]; exact KP.block_cell h rfl
theorem reads_one {W : World} {g : Nat} {x : Value} {t : TypeId} (h : W.heap[g]? = some (.cells #[x] t (0, 0))) : Reads W W.heap.size 1 (some ⟨g, 0, none⟩) 1 [x] :=
  ⟨rfl, fun _ => ⟨_, rfl, (Array.getElem?_eq_some_iff.1 h).1, news_one h⟩⟩
theorem hj_step {m : List Int} {x : Int} {k : Nat} (h : ∀ j (h : j < m.length), k + 1 ≤ j → m[j] < x) (hk : k < m.length) (hc : m[k] < x) : ∀ j (h : j < m.length), k ≤ j → m[j] < x := by
  intro j hj hkj
  rcases Nat.eq_or_lt_of_le hkj with e | e
  · subst e; exact hc
  · exact h j hj e
theorem slice_cap {α : Type} {w : World} {B e n : Nat} {v : Value} {g : α → Value} {l : List α} (h : w.ownsRow B e 1 v n (l.map g)) : ∀ A c, v = .slice A n c → n ≤ c := by
  intro A c hv
  rcases h.2 with ⟨e1, e2⟩ | ⟨g1, cap, cur, e1, _, _, hc1, _⟩
  · subst e2; omega
  · rw [e1] at hv; injection hv with _ _ hv; omega
theorem own_join {w : World} {B n i k : Nat} {v : Value} {m r : List Int} {x : Int} (h : w.ownsRow B 3 1 v n ([] ++ (m.map (Value.int .i64)).take k ++ [.int .i64 x] ++ (m.map (Value.int .i64)).drop k)) (hn : n = i + 1) (hr : r = m.take k ++ [x] ++ m.drop k) (_ : k ≤ i) : w.ownsRow B 3 1 v (i + 1) (r.map (Value.int .i64)) := by
  subst hn
  subst hr
  simpa [List.map_take, List.map_drop] using h

set_option maxHeartbeats 2000000 in
theorem rfalling_any (A : Option Addr) (l : List Int) (c : Nat) (w : World) (ra : RowAt w (Value.int .i64) A l) (hs : l.length ≤ 100) :
    Calls Try.prog 19 #[.slice A l.length c] w fun e w' => ∃ A' c', e = .returned (.slice A' l.length c') ∧ RowAt w' (Value.int .i64) A' (falls l) ∧ Below w.heap.size w w' := by
  have R := Lib.hid (fun W (h : Below w.heap.size w W) => ra.below h)
  clear ra
  obtain ⟨i0, hi0, hz0, hz1, hz2⟩ := info_parts info3
  have I := Lib.hid (And.intro hi0 (And.intro hz0 (And.intro hz1 hz2))); clear hi0 hz0 hz1 hz2
  go_enter Try.func19, Try.ntmps19
  go_wp2_with fail
  go_loopw [3, 4, 5, 6] (fun v i _ _ wr => ∃ k : Nat, k ≤ l.length ∧ i = .int .i64 k ∧ Hid (wr.ownsRow w.heap.size 3 1 v k ((falls (l.take k)).map (Value.int .i64))) ∧ Hid (Below w.heap.size w wr)) (fun _ i _ _ _ => l.length - (intOf i).toNat)
  case atStart => exact ⟨0, by omega, rfl, Lib.hid (by simpa [falls] using World.ownsRow_nil _ _ _ _), Lib.hid (Below.refl _ _)⟩
  case round =>
    obtain ⟨i, hi, rfl, hO, hB⟩ := hrel
    by_cases hlt : i < l.length
    · obtain ⟨hml, _⟩ := owns_cell hO.out
      have hcap := slice_cap hO.out
      obtain ⟨A1, c1, rfl, _, _⟩ := rowAt_owns hO.out
      have hic1 : i ≤ c1 := by have := slice_cap hO.out; exact this _ _ rfl
      clear hcap
      obtain ⟨ad, rfl, _⟩ := R.out _ hB.out i hlt
      have hX : Hid (∀ W, Below w.heap.size w W → W.cell? (ad.add i) = some (.int .i64 l[i])) := Lib.hid (fun W hW => by
        obtain ⟨_, e, _, h⟩ := R.out _ hW i hlt
        injection e with e; subst e; exact h)
      generalize hm : falls (l.take i) = m at *
      generalize hx : l[i] = x at *
      have hne : falls (l.take (i + 1)) = falls (l.take i ++ [x]) := by rw [List.take_succ_eq_append_getElem hlt, hx]
      have HN := Lib.hid hne; clear hne
      have HM := Lib.hid hm; clear hm
      clear hx
      go_wp2_with fail
      go_loopw [5] (fun kv wr' => ∃ k : Nat, k ≤ i ∧ kv = .int .i64 k ∧ Hid (∀ j (h : j < m.length), k ≤ j → m[j] < x) ∧ Hid (wr'.ownsRow w.heap.size 3 1 (.slice A1 i c1) i (m.map (Value.int .i64))) ∧ Hid (Below w.heap.size w wr')) (fun kv _ => (intOf kv).toNat)
      case atStart => exact ⟨i, by omega, rfl, Lib.hid (fun j h hj => absurd h (by omega)), hO, hB⟩
      case round =>
        obtain ⟨k, hk, rfl, hJ, hO2, hB2⟩ := hrel
        have hxc := hX.out _ hB2.out
        by_cases h0 : 0 < k
        · obtain ⟨k', rfl⟩ : ∃ k', k = k' + 1 := ⟨k - 1, by omega⟩
          rcases owns_cell hO2.out with ⟨_, ⟨_, h⟩ | ⟨b, cc, e, hb, _, hcell⟩⟩
          · subst h; simp at hml; omega
          injection e with e _ e2; subst e; subst e2
          have hmc := hcell k' (by omega)
          clear hcell
          have hpos : (0 : Int) < ((k' : Int) + 1) := by omega
          have hki : (k' : Int) < (i : Int) := by omega
          have hil : (i : Int) < (l.length : Int) := by omega
          rw [show (((k' + 1 : Nat)) : Int) = (k' : Int) + 1 by omega]
          by_cases hcmp : m[k'] < x
          · go_wp2_with fail
            go_quiet (fail)
            go_wp2_with fail
            go_roundw
            case rel => exact ⟨k', by omega, by go_num, Lib.hid (hj_step hJ.out (by omega) hcmp), hO2, Lib.hid (belD hB2.out)⟩
            case measure => first | (simp [intOf]; done) | (simp [intOf]; omega)
          · have hge : x ≤ m[k'] := by omega
            have hJE : Hid (falls (l.take (i + 1)) = m.take (k' + 1) ++ [x] ++ m.drop (k' + 1)) := Lib.hid (HN.out.trans (ins_is HM.out (by omega) hJ.out (fun _ _ => hge)))
            go_wp2_with fail
            go_quiet (fail)
            go_wp2_with fail
            generalize hA1 : some (Addr.mk b 0 none) = A1 at *
            clear hmc hcmp hge hA1
            have hkcI : ((k' : Int) + 1) ≤ (c1 : Int) := by omega
            have hkiI : ((k' : Int) + 1) ≤ (i : Int) := by omega
            have hic : (i : Int) ≤ (c1 : Int) := by omega
            have hk0 : (0 : Int) ≤ ((k' : Int) + 1) := by omega
            generalize hW0 : wr.drewN nq = W0
            have hB0 : Below w.heap.size w W0 := by rw [← hW0]; exact belD hB2.out
            have hO0 : W0.ownsRow w.heap.size 3 1 (.slice A1 i c1) i (m.map (Value.int .i64)) := by rw [← hW0]; exact hO2.out
            clear hW0
            have hR0 : Hid (∀ W, Below W0.heap.size W0 W → Reads W W0.heap.size 1 A1 i (m.map (Value.int .i64))) := Lib.hid (fun W hW => (Reads.of_own hO0).below hW)
            have hX0 : Hid (∀ W, Below W0.heap.size W0 W → W.cell? (ad.add i) = some (.int .i64 x)) := Lib.hid (fun W hW => hX.out _ (hB0.trans (hW.mono hB0.size)))
            have HB0 := Lib.hid hB0
            have hsz : w.heap.size ≤ W0.heap.size := hB0.size
            clear hO0 hB0
            have D0 := belDr (Below.refl W0.heap.size W0)
            go_region_held3 (fun w' => Below W0.heap.size W0 w' ∧ w'.cell? (ad.add i) = some (.int .i64 x))
              (first
                | exact ⟨by assumption, hX0.out _ (by assumption)⟩ | exact ⟨belDr (bel1 _ _), hX0.out _ (belDr (bel1 _ _))⟩ | exact ⟨belDr (bel2 _ _ _), hX0.out _ (belDr (bel2 _ _ _))⟩
                | (refine ⟨?_, hX0.out _ ?_⟩ <;> exact Below.alloc (by assumption) (Below.size (by assumption)) _))
              (first
                | (refine step_append_any _ rfl (.tmp 31) (.tmp 34) 22 rfl W0.heap.size 3 i0 (.int .i64 0) 1 8 Try.underlying22 I.out.1 I.out.2.1 I.out.2.2.1 I.out.2.2.2 rfl (by decide) (.slice (some ⟨_, 0, none⟩) 0 0) 0 [] rfl (owns_empty (by omega) (by first | exact blk1 _ _ | exact blk2 _ _ _ | exact blk3 _ _ _)) W0.heap.size A1 (k' + 1) c1 ((m.map (Value.int .i64)).take (k' + 1)) rfl (Reads.take (hR0.out _ (by first | assumption | exact pickS (p := ad.add i) (v := .int .i64 x) (by assumption))) (by omega)) (by intro u hu; obtain ⟨_, _, rfl⟩ := List.mem_map.1 (List.mem_of_mem_take hu); rfl) (by unfold maxLen; omega) (by omega) (by first | (simp; done) | (simp; omega)) ?_; intro v1 w1 hown1 hgr1 hloc1; have hb1 := Below.grown (B := W0.heap.size) (by first | assumption | exact pickS (p := ad.add i) (v := .int .i64 x) (by assumption)) hgr1 (by first | (simp; done) | (simp; omega)) (fun k hk => by simp [Value.ownBlock] at hk; omega); (try (have hx1 := (hgr1.block W0.heap.size (by simp; omega) (by simp [Value.ownBlock])).trans (blk2 W0 (.cells #[.int .i64 x] 3) (.cells #[] 3)))); (try (have hx2 := (hgr1.block (W0.heap.size + 1) (by simp) (by simp [Value.ownBlock])).trans (blk3 W0 (.cells #[.int .i64 x] 3) (.cells #[] 3)))))
                | (refine step_append_any _ rfl (.tmp 35) (.tmp 40) 22 rfl W0.heap.size 3 i0 (.int .i64 0) 1 8 Try.underlying22 I.out.1 I.out.2.1 I.out.2.2.1 I.out.2.2.2 rfl (by decide) v1 (0 + (k' + 1)) ([] ++ (m.map (Value.int .i64)).take (k' + 1)) rfl (by first | exact hown1 | exact hown1.alloc _) _ (some ⟨_, 0, none⟩) 1 1 [.int .i64 x] rfl (by first | exact reads_one (heap1 _ _) | exact reads_one hx1 | exact reads_one hx2) (by intro u hu; simp at hu; subst hu; rfl) (by unfold maxLen; omega) (by omega) (by have := hb1.size; first | omega | (simp; omega)) ?_; intro v2 w2 hown2 hgr2 hloc2; have hb2 := Below.grown (B := W0.heap.size) (by first | assumption | exact pickS (p := ad.add i) (v := .int .i64 x) (by assumption)) hgr2 (by have := hb1.size; first | omega | (simp; omega)) (fun k hk => (hown1.lt k hk).1)))
            all_goals
              have HB2 := Lib.hid hb2
              have HO2 := Lib.hid hown2
              obtain ⟨B2, c2, hS2, hC2⟩ := sliced_cut A1 i c1 (k' + 1) ((k' : Int) + 1) (by omega)
              have HR2 := Lib.hid (hC2 _ _ _ (hR0.out _ hb2) (by omega) (by omega))
              have HS2 := Lib.hid hS2
              clear hC2 hS2
              clear hown2 hgr2 hown1 hgr1 hb2 hloc1 hloc2 hb1
              (try clear hx1)
              (try clear hx2)
              have hKi : (k' + 1) ≤ i := by omega
              have hKn : 0 + (k' + 1) + 1 + (i - (k' + 1)) = i + 1 := by omega
              have HKn := Lib.hid hKn
              clear hKn
              go_wp2_with (first | (at_builtin; refine wpList_append_any _ rfl (.tmp 42) (.tmp 45) 22 rfl W0.heap.size 3 i0 (.int .i64 0) 1 8 Try.underlying22 I.out.1 I.out.2.1 I.out.2.2.1 I.out.2.2.2 rfl (by decide) v2 (0 + (k' + 1) + 1) ([] ++ (m.map (Value.int .i64)).take (k' + 1) ++ [.int .i64 x]) rfl HO2.out W0.heap.size B2 (i - (k' + 1)) c2 ((m.map (Value.int .i64)).drop (k' + 1)) rfl HR2.out (by intro u hu; obtain ⟨_, _, rfl⟩ := List.mem_map.1 (List.mem_of_mem_drop hu); rfl) (by unfold maxLen; omega) (by omega) HB2.out.size ?_; intro v3 w3 hown3 hgr3 hloc3; have HB3 := Lib.hid (Below.grown (B := W0.heap.size) HB2.out hgr3 HB2.out.size (fun k hk => (HO2.out.lt k hk).1)); have HO3 : Hid (w3.ownsRow w.heap.size 3 1 v3 (i + 1) ((falls (l.take (i + 1))).map (Value.int .i64))) := Lib.hid (own_join (k := (k' + 1)) (World.ownsRow.mono hown3 hsz) HKn.out hJE.out hKi); clear hown3 hgr3 hloc3 hJE) | (refine wpList_slice_lo rfl (.tmp 43) (.tmp 44) 22 rfl i0 1 Try.underlying22 I.out.1 I.out.2.2.1 A1 i c1 ((k' : Int) + 1) rfl rfl hk0 hkiI (.slice B2 (i - (k' + 1)) c2) HS2.out ?_))
              go_roundw
              case rel => exact ⟨i + 1, by omega, by go_num, HO3, Lib.hid (HB0.out.trans (HB3.out.mono hsz))⟩
              case measure => first | (simp [intOf]; done) | (simp [intOf]; omega)
        · obtain rfl : k = 0 := by omega
          have hJE : Hid (falls (l.take (i + 1)) = m.take 0 ++ [x] ++ m.drop 0) := Lib.hid (HN.out.trans (ins_is HM.out (by omega) hJ.out (fun _ h => absurd h (by omega))))
          go_wp2_with fail
          go_quiet (fail)
          go_wp2_with fail
          have hic0 : i ≤ c1 := hic1
          have hkcI : 0 ≤ (c1 : Int) := by omega
          have hkiI : 0 ≤ (i : Int) := by omega
          have hic : (i : Int) ≤ (c1 : Int) := by omega
          have hk0 : (0 : Int) ≤ 0 := by omega
          generalize hW0 : wr.drewN nq = W0
          have hB0 : Below w.heap.size w W0 := by rw [← hW0]; exact belD hB2.out
          have hO0 : W0.ownsRow w.heap.size 3 1 (.slice A1 i c1) i (m.map (Value.int .i64)) := by rw [← hW0]; exact hO2.out
          clear hW0
          have hR0 : Hid (∀ W, Below W0.heap.size W0 W → Reads W W0.heap.size 1 A1 i (m.map (Value.int .i64))) := Lib.hid (fun W hW => (Reads.of_own hO0).below hW)
          have hX0 : Hid (∀ W, Below W0.heap.size W0 W → W.cell? (ad.add i) = some (.int .i64 x)) := Lib.hid (fun W hW => hX.out _ (hB0.trans (hW.mono hB0.size)))
          have HB0 := Lib.hid hB0
          have hsz : w.heap.size ≤ W0.heap.size := hB0.size
          clear hO0 hB0
          have D0 := belDr (Below.refl W0.heap.size W0)
          go_region_held3 (fun w' => Below W0.heap.size W0 w' ∧ w'.cell? (ad.add i) = some (.int .i64 x))
            (first
              | exact ⟨by assumption, hX0.out _ (by assumption)⟩ | exact ⟨belDr (bel1 _ _), hX0.out _ (belDr (bel1 _ _))⟩ | exact ⟨belDr (bel2 _ _ _), hX0.out _ (belDr (bel2 _ _ _))⟩
              | (refine ⟨?_, hX0.out _ ?_⟩ <;> exact Below.alloc (by assumption) (Below.size (by assumption)) _))
            (first
              | (refine step_append_any _ rfl (.tmp 31) (.tmp 34) 22 rfl W0.heap.size 3 i0 (.int .i64 0) 1 8 Try.underlying22 I.out.1 I.out.2.1 I.out.2.2.1 I.out.2.2.2 rfl (by decide) (.slice (some ⟨_, 0, none⟩) 0 0) 0 [] rfl (owns_empty (by omega) (by first | exact blk1 _ _ | exact blk2 _ _ _ | exact blk3 _ _ _)) W0.heap.size A1 0 c1 ((m.map (Value.int .i64)).take 0) rfl (Reads.take (hR0.out _ (by first | assumption | exact pickS (p := ad.add i) (v := .int .i64 x) (by assumption))) (by omega)) (by intro u hu; obtain ⟨_, _, rfl⟩ := List.mem_map.1 (List.mem_of_mem_take hu); rfl) (by unfold maxLen; omega) (by omega) (by first | (simp; done) | (simp; omega)) ?_; intro v1 w1 hown1 hgr1 hloc1; have hb1 := Below.grown (B := W0.heap.size) (by first | assumption | exact pickS (p := ad.add i) (v := .int .i64 x) (by assumption)) hgr1 (by first | (simp; done) | (simp; omega)) (fun k hk => by simp [Value.ownBlock] at hk; omega); (try (have hx1 := (hgr1.block W0.heap.size (by simp; omega) (by simp [Value.ownBlock])).trans (blk2 W0 (.cells #[.int .i64 x] 3) (.cells #[] 3)))); (try (have hx2 := (hgr1.block (W0.heap.size + 1) (by simp) (by simp [Value.ownBlock])).trans (blk3 W0 (.cells #[.int .i64 x] 3) (.cells #[] 3)))))
              | (refine step_append_any _ rfl (.tmp 35) (.tmp 40) 22 rfl W0.heap.size 3 i0 (.int .i64 0) 1 8 Try.underlying22 I.out.1 I.out.2.1 I.out.2.2.1 I.out.2.2.2 rfl (by decide) v1 (0 + 0) ([] ++ (m.map (Value.int .i64)).take 0) rfl (by first | exact hown1 | exact hown1.alloc _) _ (some ⟨_, 0, none⟩) 1 1 [.int .i64 x] rfl (by first | exact reads_one (heap1 _ _) | exact reads_one hx1 | exact reads_one hx2) (by intro u hu; simp at hu; subst hu; rfl) (by unfold maxLen; omega) (by omega) (by have := hb1.size; first | omega | (simp; omega)) ?_; intro v2 w2 hown2 hgr2 hloc2; have hb2 := Below.grown (B := W0.heap.size) (by first | assumption | exact pickS (p := ad.add i) (v := .int .i64 x) (by assumption)) hgr2 (by have := hb1.size; first | omega | (simp; omega)) (fun k hk => (hown1.lt k hk).1)))
          all_goals
            have HB2 := Lib.hid hb2
            have HO2 := Lib.hid hown2
            obtain ⟨B2, c2, hS2, hC2⟩ := sliced_cut A1 i c1 0 0 (by omega)
            have HR2 := Lib.hid (hC2 _ _ _ (hR0.out _ hb2) (by omega) (by omega))
            have HS2 := Lib.hid hS2
            clear hC2 hS2
            clear hown2 hgr2 hown1 hgr1 hb2 hloc1 hloc2 hb1
            (try clear hx1)
            (try clear hx2)
            have hKi : 0 ≤ i := by omega
            have hKn : 0 + 0 + 1 + (i - 0) = i + 1 := by omega
            have HKn := Lib.hid hKn
            clear hKn
            go_wp2_with (first | (at_builtin; refine wpList_append_any _ rfl (.tmp 42) (.tmp 45) 22 rfl W0.heap.size 3 i0 (.int .i64 0) 1 8 Try.underlying22 I.out.1 I.out.2.1 I.out.2.2.1 I.out.2.2.2 rfl (by decide) v2 (0 + 0 + 1) ([] ++ (m.map (Value.int .i64)).take 0 ++ [.int .i64 x]) rfl HO2.out W0.heap.size B2 (i - 0) c2 ((m.map (Value.int .i64)).drop 0) rfl HR2.out (by intro u hu; obtain ⟨_, _, rfl⟩ := List.mem_map.1 (List.mem_of_mem_drop hu); rfl) (by unfold maxLen; omega) (by omega) HB2.out.size ?_; intro v3 w3 hown3 hgr3 hloc3; have HB3 := Lib.hid (Below.grown (B := W0.heap.size) HB2.out hgr3 HB2.out.size (fun k hk => (HO2.out.lt k hk).1)); have HO3 : Hid (w3.ownsRow w.heap.size 3 1 v3 (i + 1) ((falls (l.take (i + 1))).map (Value.int .i64))) := Lib.hid (own_join (k := 0) (World.ownsRow.mono hown3 hsz) HKn.out hJE.out hKi); clear hown3 hgr3 hloc3 hJE) | (refine wpList_slice_lo rfl (.tmp 43) (.tmp 44) 22 rfl i0 1 Try.underlying22 I.out.1 I.out.2.2.1 A1 i c1 0 rfl rfl hk0 hkiI (.slice B2 (i - 0) c2) HS2.out ?_))
            go_roundw
            case rel => exact ⟨i + 1, by omega, by go_num, HO3, Lib.hid (HB0.out.trans (HB3.out.mono hsz))⟩
            case measure => first | (simp [intOf]; done) | (simp [intOf]; omega)
    · obtain rfl : i = l.length := by omega
      obtain ⟨A1, c1, rfl, hra, _⟩ := rowAt_owns hO.out
      have HR := Lib.hid hra; clear hra
      go_wp2_with fail
      go_ret
      exact ⟨A1, c1, rfl, by have := HR.out; rwa [List.take_length] at this, hB.out⟩
end Go.Proofs.Ytbogjhgnnmgiaaa
