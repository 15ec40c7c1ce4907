/- The reference's Get, PutBind; whelklaw8.Same. -/
import Derived.Test.YtmadnehipagakaaGreatDoorGc
import Derived.Test.YtmadnehipagakaaGreatDoorNe
import Derived.Laws.AppendOwnNone
namespace Go.Proofs.YtmadnehipagakaaGreatDoor
open Go.RowKit Go.Lib Go.Sort Go.Shelf KP
theorem get_at {l : List Bd} {s : ByteArray} {k : Nat} (hk : k < l.length) (h : l[k].1 = s) (hb : ∀ j (hj : j < l.length), k < j → l[j].1 ≠ s) : getO l s = (l[k].2, true) := by
  have e : l.reverse = (l.drop (k + 1)).reverse ++ l[k] :: (l.take k).reverse := by
    conv => lhs; rw [← List.take_append_drop (k + 1) l, List.take_succ_eq_append_getElem hk]
    simp
  refine get_some e (fun b hb2 => ?_) h
  rw [List.mem_reverse] at hb2
  obtain ⟨j, hj, rfl⟩ := List.getElem_of_mem hb2
  rw [List.getElem_drop]
  exact hb _ (by rw [List.length_drop] at hj; omega) (by omega)
theorem get_no {l : List Bd} {s : ByteArray} (hb : ∀ j (hj : j < l.length), l[j].1 ≠ s) : getO l s = (v0, false) := get_none (fun b h => by
  rw [List.mem_reverse] at h
  obtain ⟨j, hj, rfl⟩ := List.getElem_of_mem h
  exact hb j hj)
set_option maxHeartbeats 2000000 in
theorem rget_c (A : Option Addr) (c : Nat) (l : List Bd) (s : ByteArray) (hl : l.length ≤ 1000000) (w : World) (hI : BindsAt (fun _ => False) w A l) :
    Calls Tryz.prog 32 #[.slice A l.length c, .string s] w fun e W' => e = .returned (.tuple #[(getO l s).1.val, .bool (getO l s).2]) ∧ Below w.heap.size w W' := by
  have hB := (Below.refl w.heap.size w).alloc (Nat.le_refl _) (.cells #[.int .i64 0, .int .i64 0, .string ⟨#[]⟩] 26)
  have hn := heap_alloc_new w (.cells #[.int .i64 0, .int .i64 0, .string ⟨#[]⟩] 26)
  have HI := Lib.hid (hI.below hB)
  have hlI : (l.length : Int) ≤ 1000000 := by omega
  clear hI
  go_enter Tryz.func32, Tryz.ntmps32
  go_wp2_with fail
  generalize w.alloc (.cells #[.int .i64 0, .int .i64 0, .string ⟨#[]⟩] 26) = wb at hB hn HI ⊢
  have HN := Lib.hid hn
  have HB := Lib.hid hB
  clear hn hB
  go_loop [6] (fun i => ∃ r : Nat, r ≤ l.length ∧ i = .int .i64 ((r : Int) - 1) ∧ Hid (∀ j (hj : j < l.length), r ≤ j → l[j].1 ≠ s)) (fun i => (intOf i + 1).toNat)
  case atStart => exact ⟨l.length, Nat.le_refl _, rfl, Lib.hid (fun j hj h => by omega)⟩
  case round =>
    obtain ⟨r, hr, rfl, hJ⟩ := hrel
    have d0 := block_cell (j := 0) HN.out rfl
    have d1 := block_cell (j := 1) HN.out rfl
    have d2 := block_cell (j := 2) HN.out rfl
    have f0 := fun j => block_free (j := j) HN.out
    cases r with
    | zero =>
      have HG := Lib.hid (get_no (fun j hj => hJ.out j hj (Nat.zero_le _)))
      have h9 := block_set (block_set (block_set HN.out (j := 0) (.int .i64 0)) (j := 1) (.int .i64 0)) (j := 2) (.string ⟨#[]⟩)
      have B9 := Lib.hid (((HB.out.setCell (p := ⟨w.heap.size, 0, none⟩) (Nat.le_refl _) (.int .i64 0)).setCell (p := ⟨w.heap.size, 1, none⟩) (Nat.le_refl _) (.int .i64 0)).setCell (p := ⟨w.heap.size, 2, none⟩) (Nat.le_refl _) (.string ⟨#[]⟩))
      have q0 := block_cell (j := 0) h9 rfl
      have q1 := block_cell (j := 1) h9 rfl
      have q2 := block_cell (j := 2) h9 rfl
      have Q0 := Lib.hid q0
      have Q1 := Lib.hid q1
      have Q2 := Lib.hid q2
      clear h9 q0 q1 q2
      go_wp2_with fail
      have q0 := Q0.out
      have q1 := Q1.out
      have q2 := Q2.out
      have hb9 := B9.out
      generalize ((wb.setCell ⟨w.heap.size, 0, none⟩ (.int .i64 0)).setCell ⟨w.heap.size, 1, none⟩ (.int .i64 0)).setCell ⟨w.heap.size, 2, none⟩ (.string ⟨#[]⟩) = w9 at q0 q1 q2 hb9 ⊢
      exact bodyPost_ret (v := .tuple #[v0.val, .bool false]) (by simp [results, Tryz.results32, go_sem, q0, q1, q2]) rfl (by rw [HG.out]; exact ⟨rfl, hb9⟩)
    | succ r =>
      have hrr : r < l.length := by omega
      have hrI : (r : Int) < (l.length : Int) := by omega
      rw [show (((r + 1 : Nat) : Int) - 1) = (r : Int) by omega]
      obtain ⟨ad, rfl, _, c0, c1, c2, c3⟩ := HI.out.at hrr
      by_cases hx : l[r].1 = s
      · have HG := Lib.hid (get_at hrr hx (fun j hj h => hJ.out j hj (by omega)))
        have hq := str_eq hx
        clear hx
        generalize l[r] = b at *
        obtain ⟨b1, b2, b3, b4⟩ := b
        dsimp only at c0 c1 c2 c3 hq
        have h9 := block_set (block_set (block_set HN.out (j := 0) (.int .i64 b2)) (j := 1) (.int .i64 b3)) (j := 2) (.string b4)
        have B9 := Lib.hid (((HB.out.setCell (p := ⟨w.heap.size, 0, none⟩) (Nat.le_refl _) (.int .i64 b2)).setCell (p := ⟨w.heap.size, 1, none⟩) (Nat.le_refl _) (.int .i64 b3)).setCell (p := ⟨w.heap.size, 2, none⟩) (Nat.le_refl _) (.string b4))
        have Q0 := Lib.hid (block_cell (j := 0) h9 rfl)
        have Q1 := Lib.hid (block_cell (j := 1) h9 rfl)
        have Q2 := Lib.hid (block_cell (j := 2) h9 rfl)
        clear h9
        go_wp2_with fail
        have q0 := Q0.out
        have q1 := Q1.out
        have q2 := Q2.out
        have hb9 := B9.out
        generalize ((wb.setCell ⟨w.heap.size, 0, none⟩ (.int .i64 b2)).setCell ⟨w.heap.size, 1, none⟩ (.int .i64 b3)).setCell ⟨w.heap.size, 2, none⟩ (.string b4) = w9 at q0 q1 q2 hb9 ⊢
        exact bodyPost_ret (v := .tuple #[Vl.val (b2, b3, b4), .bool true]) (by simp [results, Tryz.results32, go_sem, q0, q1, q2]) rfl (by rw [HG.out]; exact ⟨rfl, hb9⟩)
      · have hq := str_ne hx
        have hJ2 : Hid (∀ j (hj : j < l.length), r ≤ j → l[j].1 ≠ s) := Lib.hid (fun j hj h => by
          by_cases e : j = r
          · subst e; exact hx
          · exact hJ.out j hj (by omega))
        clear hx
        generalize l[r] = b at *
        go_wp2_with fail
        go_round
        case rel => exact ⟨r, by omega, rfl, hJ2⟩
        case measure => simp [intOf]
theorem rinfoB : (Tryz.prog.info? 115).map (fun i => (i.zero, i.size, i.bytes)) = some (some zB, 4, 48) := by kernel_rfl
set_option maxRecDepth 100000 in
set_option maxHeartbeats 4000000 in
theorem rput_some (ad : Addr) (c : Nat) (l : List Bd) (s : ByteArray) (v : Vl) (w : World) (hI : BindsAt (fun _ => False) w (some ad) l) (hl : l.length ≤ 900000) :
    Calls Tryz.prog 30 #[.slice (some ad) l.length c, .string s, v.val] w fun e w' => ∃ A' c', e = .returned (.slice A' (putO l s v).length c') ∧ BindsAt (fun k => k < w.heap.size) w' A' (putO l s v) ∧ (A' = none → c' = 0) ∧ Below w.heap.size w w' := by
  obtain ⟨i0, hi, hz0, hz1, hz2⟩ := info_parts rinfoB
  obtain ⟨v1, v2, v3⟩ := v
  have hlI : (l.length : Int) ≤ 900000 := by omega
  have hV := one_box w (v1, v2, v3) 26
  dsimp only at hV
  obtain ⟨⟨c0, c1, c2⟩, hB, hz⟩ := hV
  have E0 := Lib.hid hB
  have H0 : Hid (((w.alloc (.cells #[.int .i64 v1, .int .i64 v2, .string v3] 26)).alloc (.cells #[] 115)).ownsRow (w.heap.size + 1) 115 4 (.slice (some ⟨w.heap.size + 1, 0, none⟩) 0 0) 0 []) := Lib.hid (by have := World.ownsRow_made (w.alloc (.cells #[.int .i64 v1, .int .i64 v2, .string v3] 26)) #[] (e := 115) (size := 4) (base := w.heap.size + 1) 0 (by simp) (by unfold maxLen; omega) rfl; rw [World.size_alloc] at this; exact this)
  have hCX : ∀ W, Below (w.heap.size + 1) ((w.alloc (.cells #[.int .i64 v1, .int .i64 v2, .string v3] 26)).alloc (.cells #[] 115)) W → W.cell? ⟨w.heap.size, 0, none⟩ = some (.int .i64 v1) ∧ W.cell? ⟨w.heap.size, 1, none⟩ = some (.int .i64 v2) ∧ W.cell? ⟨w.heap.size, 2, none⟩ = some (.string v3) := fun W h => by
    have b := (Below.heap_alloc (w.alloc (.cells #[.int .i64 v1, .int .i64 v2, .string v3] 26)) (.cells #[] 115) w.heap.size (by simp)).trans (heap_alloc_new w _)
    have x := (h.block w.heap.size (by omega)).trans b
    exact ⟨block_cell x rfl, block_cell x rfl, block_cell x rfl⟩
  have HCX := Lib.hid hCX
  clear hCX
  have HN := Lib.hid (binds_news ((hI.below hB).below ((Below.refl _ _).alloc (Nat.le_refl _) (.cells #[] 115))))
  clear hI
  clear c0 c1 c2 hz
  go_enter Tryz.func30, Tryz.ntmps30
  go_wp2_with (at_builtin; refine wpList_append_own _ rfl (.tmp 9) (.tmp 10) 51 rfl (w.heap.size + 1) 115 i0 zB 4 48 Tryz.underlying51 hi hz0 hz1 hz2 rfl (by decide) _ 0 [] rfl H0.out ad l.length c (l.flatMap b4) rfl (flat_len b4_len l) HN.out (b4_flat l) (by unfold maxLen; omega) (by omega) (by simp) ?_)
  intro v' w2 hown hgr hnil
  have hb1 : Below (w.heap.size + 1) ((w.alloc (.cells #[.int .i64 v1, .int .i64 v2, .string v3] 26)).alloc (.cells #[] 115)) w2 := (Below.refl _ _).grown hgr (by simp) (fun k h => by simp [Value.ownBlock] at h; omega)
  have HCC := Lib.hid (HCX.out _ hb1)
  have B2 := Lib.hid (show Below w.heap.size w w2 from (E0.out.alloc E0.out.size (.cells #[] 115)).trans (hb1.mono (by omega)))
  have L2 := Lib.hid (show w.heap.size + 1 ≤ w2.heap.size from Nat.le_trans (by simp) hb1.size)
  have O2 := Lib.hid (show w2.ownsRow (w.heap.size + 1) 115 4 v' l.length (l.flatMap b4) from by simpa using hown)
  clear hown hgr hnil hb1 H0 HCX hB HN E0
  obtain ⟨A2, c2x, hv2, hbi, _, hle, _⟩ := owns_binds (N := fun _ => False) O2.out (fun _ h => h.elim)
  subst hv2
  have BI := Lib.hid hbi
  clear hbi
  obtain ⟨d0, d1, d2⟩ := HCC.out
  go_wp2_with fail
  go_loop [8] (fun i => ∃ k : Nat, k ≤ l.length ∧ i = .int .i64 k ∧ Hid (∀ j (hj : j < l.length), j < k → l[j].1 ≠ s)) (fun i => l.length - (intOf i).toNat)
  case atStart => exact ⟨0, by omega, rfl, Lib.hid (fun _ _ h => by omega)⟩
  case round =>
    obtain ⟨k, hk, rfl, hJ⟩ := hrel
    by_cases hlt : k < l.length
    · have hltI : (k : Int) < (l.length : Int) := by omega
      by_cases hx : l[k].1 = s
      · have hX := idx_some hlt hx hJ.out
        have hP : Hid (putO l s (v1, v2, v3) = l.set k (s, (v1, v2, v3))) := Lib.hid (by unfold putO; rw [hX])
        have HX := Lib.hid hx
        rcases O2.out.2 with ⟨_, e2⟩ | ⟨g, cap, cur, e1, hBg, hg, hc1, hc2, hc3, hc4⟩
        · exfalso; omega
        injection e1 with e1 e2 e3
        subst e1 e3
        have hcur : ∀ j, j < 4 → cur[k * 4 + j]? = (b4 l[k])[j]? := fun j hj => by
          have h2 := flat_at b4_len l k hlt j hj
          rw [← hc4, List.getElem?_take] at h2
          split at h2
          · simpa using h2
          · exact absurd h2.symm (by rw [List.getElem?_eq_none_iff, b4_len]; omega)
        have G2 := Lib.hid (show w2.heap[g]? = some (.cells cur 115 (0, 0)) from hg)
        have x0 := block_cell (w := w2) (j := k * 4) G2.out (hcur 0 (by omega))
        have x1 := block_cell (w := w2) (j := k * 4 + 1) G2.out (hcur 1 (by omega))
        have x2 := block_cell (w := w2) (j := k * 4 + 1 + 1) G2.out (hcur 2 (by omega))
        have x3 := block_cell (w := w2) (j := k * 4 + 1 + 2) G2.out (hcur 3 (by omega))
        have f1 := block_free (j := k * 4 + 1) G2.out
        have f2 := block_free (j := k * 4 + 1 + 1) G2.out
        have f3 := block_free (j := k * 4 + 1 + 2) G2.out
        have R3 := Lib.hid (binds_set (N := fun k => k < w.heap.size) G2.out hc4 rfl k hlt s hx (v1, v2, v3) (by omega))
        have B3 := Lib.hid (show Below w.heap.size w (((w2.setCell ⟨g, k * 4 + 1, none⟩ (.int .i64 v1)).setCell ⟨g, k * 4 + 1 + 1, none⟩ (.int .i64 v2)).setCell ⟨g, k * 4 + 1 + 2, none⟩ (.string v3)) from ((B2.out.setCell (by show _ ≤ g; omega) _).setCell (by show _ ≤ g; omega) _).setCell (by show _ ≤ g; omega) _)
        have hq := str_eq hx
        clear hcur hg hx hX
        generalize hlk : l[k] = b at *
        clear hlk
        go_wp2_with fail
        go_ret
        rw [hP.out, List.length_set]
        exact ⟨_, _, rfl, R3.out, (fun h => by cases h), B3.out⟩
      · obtain ⟨ad2, hA2, _, x0, _, _, _⟩ := BI.out.at hlt
        subst hA2
        have hq := str_ne hx
        have hJ2 : Hid (∀ j (hj : j < l.length), j < k + 1 → l[j].1 ≠ s) := Lib.hid (fun j hj h => by
          by_cases e : j = k
          · subst e; exact hx
          · exact hJ.out j hj (by omega))
        clear hx
        generalize l[k] = b at *
        go_wp2_with fail
        go_round
        case rel => exact ⟨k + 1, by omega, by go_num, hJ2⟩
        case measure => simp [intOf]; omega
    · obtain rfl : k = l.length := by omega
      have hP : Hid (putO l s (v1, v2, v3) = l ++ [(s, (v1, v2, v3))]) := Lib.hid (by unfold putO; rw [idx_none (fun j hj => hJ.out j hj hj)])
      have N3 : Hid (∀ j u, (b4 (s, v1, v2, v3))[j]? = some u → (w2.alloc (.cells #[.string s, .int .i64 v1, .int .i64 v2, .string v3] 115)).cell? ((⟨w2.heap.size, 0, none⟩ : Addr).add j) = some u) := Lib.hid (fun j u hu => by
        rw [show (⟨w2.heap.size, 0, none⟩ : Addr).add j = ⟨w2.heap.size, j, none⟩ by simp [Addr.add]; omega]
        exact block_cell (heap_alloc_new w2 _) (by simpa using hu))
      have B4 := Lib.hid (B2.out.alloc B2.out.size (.cells #[.string s, .int .i64 v1, .int .i64 v2, .string v3] 115))
      have O4 := Lib.hid (O2.out.alloc (.cells #[.string s, .int .i64 v1, .int .i64 v2, .string v3] 115))
      have L2x := L2.out
      go_wp2_with (at_builtin; refine wpList_append_own _ rfl (.tmp 31) (.tmp 35) 51 rfl (w.heap.size + 1) 115 i0 zB 4 48 Tryz.underlying51 hi hz0 hz1 hz2 rfl (by decide) _ l.length _ rfl O4.out ⟨w2.heap.size, 0, none⟩ 1 1 (b4 (s, v1, v2, v3)) rfl rfl N3.out (by have := b4_flat [(s, v1, v2, v3)]; simpa using this) (by unfold maxLen; omega) (by omega) (by simp; omega) ?_)
      intro v' w5 hown hgr hnil
      have hown2 : w5.ownsRow (w.heap.size + 1) 115 4 v' (l ++ [(s, v1, v2, v3)]).length ((l ++ [(s, v1, v2, v3)]).flatMap b4) := by simpa using hown
      have hB5 := Lib.hid (B4.out.grown hgr B4.out.size (fun q hq => by have := (O4.out.lt q hq).1; omega))
      obtain ⟨A5, c5, hv5, hbi5, hl5, hle5, hA5⟩ := owns_binds (N := fun k => k < w.heap.size) hown2 (fun k h => by omega)
      have hl6 : (l ++ [(s, v1, v2, v3)]).length = l.length + 1 := by simp
      subst hv5
      have BI5 := Lib.hid hbi5
      have HA5 := Lib.hid hA5
      clear hown hown2 hgr hnil hbi5 hl5 hA5 hle5
      rw [hl6]
      go_wp2_with fail
      go_ret
      rw [hP.out]
      exact ⟨A5, c5, by rw [hl6]; rfl, BI5.out, HA5.out, hB5.out⟩
set_option maxRecDepth 100000 in
set_option maxHeartbeats 4000000 in
theorem rput_nil (l : List Bd) (hl0 : l = []) (s : ByteArray) (v : Vl) (w : World) (hl : l.length ≤ 900000) :
    Calls Tryz.prog 30 #[.slice none 0 0, .string s, v.val] w fun e w' => ∃ A' c', e = .returned (.slice A' (putO l s v).length c') ∧ BindsAt (fun k => k < w.heap.size) w' A' (putO l s v) ∧ (A' = none → c' = 0) ∧ Below w.heap.size w w' := by
  obtain ⟨i0, hi, hz0, hz1, hz2⟩ := info_parts rinfoB
  obtain ⟨v1, v2, v3⟩ := v
  have hlI : (l.length : Int) ≤ 900000 := by omega
  have hV := one_box w (v1, v2, v3) 26
  dsimp only at hV
  obtain ⟨⟨c0, c1, c2⟩, hB, hz⟩ := hV
  have E0 := Lib.hid hB
  have H0 : Hid (((w.alloc (.cells #[.int .i64 v1, .int .i64 v2, .string v3] 26)).alloc (.cells #[] 115)).ownsRow (w.heap.size + 1) 115 4 (.slice (some ⟨w.heap.size + 1, 0, none⟩) 0 0) 0 []) := Lib.hid (by have := World.ownsRow_made (w.alloc (.cells #[.int .i64 v1, .int .i64 v2, .string v3] 26)) #[] (e := 115) (size := 4) (base := w.heap.size + 1) 0 (by simp) (by unfold maxLen; omega) rfl; rw [World.size_alloc] at this; exact this)
  have hCX : ∀ W, Below (w.heap.size + 1) ((w.alloc (.cells #[.int .i64 v1, .int .i64 v2, .string v3] 26)).alloc (.cells #[] 115)) W → W.cell? ⟨w.heap.size, 0, none⟩ = some (.int .i64 v1) ∧ W.cell? ⟨w.heap.size, 1, none⟩ = some (.int .i64 v2) ∧ W.cell? ⟨w.heap.size, 2, none⟩ = some (.string v3) := fun W h => by
    have b := (Below.heap_alloc (w.alloc (.cells #[.int .i64 v1, .int .i64 v2, .string v3] 26)) (.cells #[] 115) w.heap.size (by simp)).trans (heap_alloc_new w _)
    have x := (h.block w.heap.size (by omega)).trans b
    exact ⟨block_cell x rfl, block_cell x rfl, block_cell x rfl⟩
  have HCX := Lib.hid hCX
  clear hCX
  clear c0 c1 c2 hz
  go_enter Tryz.func30, Tryz.ntmps30
  go_wp2_with (at_builtin; refine wpList_append_own_none rfl (.tmp 9) (.tmp 10) 51 rfl (w.heap.size + 1) 115 i0 4 Tryz.underlying51 hi _ 0 [] rfl H0.out rfl ?_)
  have HCC := Lib.hid (HCX.out _ (Below.refl _ _))
  have B2 := Lib.hid (E0.out.alloc E0.out.size (.cells #[] 115))
  have L2 := Lib.hid (show w.heap.size + 1 ≤ ((w.alloc (.cells #[.int .i64 v1, .int .i64 v2, .string v3] 26)).alloc (.cells #[] 115)).heap.size by simp)
  have O2 := Lib.hid (show ((w.alloc (.cells #[.int .i64 v1, .int .i64 v2, .string v3] 26)).alloc (.cells #[] 115)).ownsRow (w.heap.size + 1) 115 4 (.slice (some ⟨w.heap.size + 1, 0, none⟩) 0 0) l.length (l.flatMap b4) by rw [hl0]; exact H0.out)
  generalize (w.alloc (.cells #[.int .i64 v1, .int .i64 v2, .string v3] 26)).alloc (.cells #[] 115) = w2 at O2 B2 L2 HCC ⊢
  generalize Value.slice (some ⟨w.heap.size + 1, 0, none⟩) 0 0 = v' at O2 ⊢
  clear H0 HCX hB E0 hl0
  obtain ⟨A2, c2x, hv2, hbi, _, hle, _⟩ := owns_binds (N := fun _ => False) O2.out (fun _ h => h.elim)
  subst hv2
  have BI := Lib.hid hbi
  clear hbi
  obtain ⟨d0, d1, d2⟩ := HCC.out
  go_wp2_with fail
  go_loop [8] (fun i => ∃ k : Nat, k ≤ l.length ∧ i = .int .i64 k ∧ Hid (∀ j (hj : j < l.length), j < k → l[j].1 ≠ s)) (fun i => l.length - (intOf i).toNat)
  case atStart => exact ⟨0, by omega, rfl, Lib.hid (fun _ _ h => by omega)⟩
  case round =>
    obtain ⟨k, hk, rfl, hJ⟩ := hrel
    by_cases hlt : k < l.length
    · have hltI : (k : Int) < (l.length : Int) := by omega
      by_cases hx : l[k].1 = s
      · have hX := idx_some hlt hx hJ.out
        have hP : Hid (putO l s (v1, v2, v3) = l.set k (s, (v1, v2, v3))) := Lib.hid (by unfold putO; rw [hX])
        have HX := Lib.hid hx
        rcases O2.out.2 with ⟨_, e2⟩ | ⟨g, cap, cur, e1, hBg, hg, hc1, hc2, hc3, hc4⟩
        · exfalso; omega
        injection e1 with e1 e2 e3
        subst e1 e3
        have hcur : ∀ j, j < 4 → cur[k * 4 + j]? = (b4 l[k])[j]? := fun j hj => by
          have h2 := flat_at b4_len l k hlt j hj
          rw [← hc4, List.getElem?_take] at h2
          split at h2
          · simpa using h2
          · exact absurd h2.symm (by rw [List.getElem?_eq_none_iff, b4_len]; omega)
        have G2 := Lib.hid (show w2.heap[g]? = some (.cells cur 115 (0, 0)) from hg)
        have x0 := block_cell (w := w2) (j := k * 4) G2.out (hcur 0 (by omega))
        have x1 := block_cell (w := w2) (j := k * 4 + 1) G2.out (hcur 1 (by omega))
        have x2 := block_cell (w := w2) (j := k * 4 + 1 + 1) G2.out (hcur 2 (by omega))
        have x3 := block_cell (w := w2) (j := k * 4 + 1 + 2) G2.out (hcur 3 (by omega))
        have f1 := block_free (j := k * 4 + 1) G2.out
        have f2 := block_free (j := k * 4 + 1 + 1) G2.out
        have f3 := block_free (j := k * 4 + 1 + 2) G2.out
        have R3 := Lib.hid (binds_set (N := fun k => k < w.heap.size) G2.out hc4 rfl k hlt s hx (v1, v2, v3) (by omega))
        have B3 := Lib.hid (show Below w.heap.size w (((w2.setCell ⟨g, k * 4 + 1, none⟩ (.int .i64 v1)).setCell ⟨g, k * 4 + 1 + 1, none⟩ (.int .i64 v2)).setCell ⟨g, k * 4 + 1 + 2, none⟩ (.string v3)) from ((B2.out.setCell (by show _ ≤ g; omega) _).setCell (by show _ ≤ g; omega) _).setCell (by show _ ≤ g; omega) _)
        have hq := str_eq hx
        clear hcur hg hx hX
        generalize hlk : l[k] = b at *
        clear hlk
        go_wp2_with fail
        go_ret
        rw [hP.out, List.length_set]
        exact ⟨_, _, rfl, R3.out, (fun h => by cases h), B3.out⟩
      · obtain ⟨ad2, hA2, _, x0, _, _, _⟩ := BI.out.at hlt
        subst hA2
        have hq := str_ne hx
        have hJ2 : Hid (∀ j (hj : j < l.length), j < k + 1 → l[j].1 ≠ s) := Lib.hid (fun j hj h => by
          by_cases e : j = k
          · subst e; exact hx
          · exact hJ.out j hj (by omega))
        clear hx
        generalize l[k] = b at *
        go_wp2_with fail
        go_round
        case rel => exact ⟨k + 1, by omega, by go_num, hJ2⟩
        case measure => simp [intOf]; omega
    · obtain rfl : k = l.length := by omega
      have hP : Hid (putO l s (v1, v2, v3) = l ++ [(s, (v1, v2, v3))]) := Lib.hid (by unfold putO; rw [idx_none (fun j hj => hJ.out j hj hj)])
      have N3 : Hid (∀ j u, (b4 (s, v1, v2, v3))[j]? = some u → (w2.alloc (.cells #[.string s, .int .i64 v1, .int .i64 v2, .string v3] 115)).cell? ((⟨w2.heap.size, 0, none⟩ : Addr).add j) = some u) := Lib.hid (fun j u hu => by
        rw [show (⟨w2.heap.size, 0, none⟩ : Addr).add j = ⟨w2.heap.size, j, none⟩ by simp [Addr.add]; omega]
        exact block_cell (heap_alloc_new w2 _) (by simpa using hu))
      have B4 := Lib.hid (B2.out.alloc B2.out.size (.cells #[.string s, .int .i64 v1, .int .i64 v2, .string v3] 115))
      have O4 := Lib.hid (O2.out.alloc (.cells #[.string s, .int .i64 v1, .int .i64 v2, .string v3] 115))
      have L2x := L2.out
      go_wp2_with (at_builtin; refine wpList_append_own _ rfl (.tmp 31) (.tmp 35) 51 rfl (w.heap.size + 1) 115 i0 zB 4 48 Tryz.underlying51 hi hz0 hz1 hz2 rfl (by decide) _ l.length _ rfl O4.out ⟨w2.heap.size, 0, none⟩ 1 1 (b4 (s, v1, v2, v3)) rfl rfl N3.out (by have := b4_flat [(s, v1, v2, v3)]; simpa using this) (by unfold maxLen; omega) (by omega) (by simp; omega) ?_)
      intro v' w5 hown hgr hnil
      have hown2 : w5.ownsRow (w.heap.size + 1) 115 4 v' (l ++ [(s, v1, v2, v3)]).length ((l ++ [(s, v1, v2, v3)]).flatMap b4) := by simpa using hown
      have hB5 := Lib.hid (B4.out.grown hgr B4.out.size (fun q hq => by have := (O4.out.lt q hq).1; omega))
      obtain ⟨A5, c5, hv5, hbi5, hl5, hle5, hA5⟩ := owns_binds (N := fun k => k < w.heap.size) hown2 (fun k h => by omega)
      have hl6 : (l ++ [(s, v1, v2, v3)]).length = l.length + 1 := by simp
      subst hv5
      have BI5 := Lib.hid hbi5
      have HA5 := Lib.hid hA5
      clear hown hown2 hgr hnil hbi5 hl5 hA5 hle5
      rw [hl6]
      go_wp2_with fail
      go_ret
      rw [hP.out]
      exact ⟨A5, c5, by rw [hl6]; rfl, BI5.out, HA5.out, hB5.out⟩
theorem rput_c (A : Option Addr) (c : Nat) (l : List Bd) (s : ByteArray) (v : Vl) (w : World) (hA : A = none → c = 0) (hI : BindsAt (fun _ => False) w A l) (hl : l.length ≤ 900000) :
    Calls Tryz.prog 30 #[.slice A l.length c, .string s, v.val] w fun e w' => ∃ A' c', e = .returned (.slice A' (putO l s v).length c') ∧ BindsAt (fun k => k < w.heap.size) w' A' (putO l s v) ∧ (A' = none → c' = 0) ∧ Below w.heap.size w w' := by
  cases A with
  | some ad => exact rput_some ad c l s v w hI hl
  | none =>
    have h0 : l = [] := by
      cases l with
      | nil => rfl
      | cons b l => obtain ⟨ad, e, _⟩ := hI 0 (by simp); cases e
    have hc := hA rfl
    have h := rput_nil l h0 s v w hl
    subst hc
    rw [show l.length = 0 by rw [h0]; rfl]
    exact h
end Go.Proofs.YtmadnehipagakaaGreatDoor
