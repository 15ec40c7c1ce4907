/- MemoryPlays: the walk. -/
import Derived.Test.YtoaepnidlddmjaaDoorWw
import Derived.Deep.DeepCutAuto
import Derived.Deep.CutBlock
namespace Go.Proofs.YtoaepnidlddmjaaDoor
open Go.RowKit Go.Lib KP MR RW
theorem ax_at {N : Nat → Prop} {W : World} {A : Option Addr} {l : List Ax} (h : RowsAt axc 4 N W A l) {k : Nat} (hk : k < l.length) : ∃ ad, A = some ad ∧ W.cell? (ad.add (k * 4)) = some (.int .i64 l[k].1.1) ∧ W.cell? ⟨(ad.add (k * 4)).block, (ad.add (k * 4)).off + 1, none⟩ = some (.int .i64 l[k].1.2.1) ∧ W.cell? ⟨(ad.add (k * 4)).block, (ad.add (k * 4)).off + 2, none⟩ = some (.string l[k].1.2.2.1) ∧ W.cell? ⟨(ad.add (k * 4)).block, (ad.add (k * 4)).off + 3, none⟩ = some (.slice l[k].2.1 l[k].1.2.2.2.length l[k].2.2) := by
  obtain ⟨ad, e, _, hc⟩ := h k hk
  refine ⟨ad, e, ?_, hc 1 _ rfl, hc 2 _ rfl, hc 3 _ rfl⟩
  have := hc 0 _ rfl
  simpa [Addr.add] using this
theorem find_some {B : Nat} {F : Nat → Prop} {g : Nat} {T : List Ft} {nx : Int} {w0 W : World} (t : ByteArray) (ht : t.size ≤ 100000) (A : Option Addr) (c : Nat) (l : List Vl) (id : Int) (hf : findO T t l = some id) (hI : Inv B w0 F g T nx W) (ha : ArgV (fun _ => False) W A c l) (htab : Tab W) :
    Calls Tryd.prog 20 #[.pointer (some ⟨g, 0, none⟩), .string t, .slice A l.length c] W fun e w' => e = .returned (.tuple #[.int .i64 id, .bool true]) ∧ Below W.heap.size W w' := by
  have := find_c t ht A c l hI ha htab
  rw [hf] at this
  exact this
theorem find_nil {B : Nat} {F : Nat → Prop} {g : Nat} {T : List Ft} {nx : Int} {w0 W : World} (t : ByteArray) (ht : t.size ≤ 100000) (A : Option Addr) (c : Nat) (l : List Vl) (hf : findO T t l = none) (hI : Inv B w0 F g T nx W) (ha : ArgV (fun _ => False) W A c l) (htab : Tab W) :
    Calls Tryd.prog 20 #[.pointer (some ⟨g, 0, none⟩), .string t, .slice A l.length c] W fun e w' => e = .returned (.tuple #[.int .i64 0, .bool false]) ∧ Below W.heap.size W w' := by
  have := find_c t ht A c l hI ha htab
  rw [hf] at this
  exact this
set_option maxRecDepth 100000 in
set_option maxHeartbeats 40000000 in
theorem plays_good (A : Option Addr) (c : Nat) (l : List Ax) (w : World) (ht : Tab w) (hr : RowsAt axc 4 (fun _ => False) w A l) (hx : ∀ x ∈ l, AxIn w x) (hl : l.length ≤ 100) : Calls Tryd.prog 6 #[.slice A l.length c] w fun e w' => e = .returned (.bool true) ∧ Below w.heap.size w w' := by
  have HT := Lib.hid ht
  have HR := Lib.hid (fun w' (h : Below w.heap.size w w') => hr.below h)
  have HX := Lib.hid hx
  have hlI : (l.length : Int) ≤ 100 := by omega
  clear ht hr hx
  go_enter Tryd.func6, Tryd.ntmps6
  go_wp2_with fail
  refine (known_c w HT.out).mono ?_
  rintro e w1 ⟨rfl, b1⟩
  have E1 := Lib.hid b1; clear b1
  go_wp2_with fail
  refine (new_c w1).mono ?_
  rintro e w2 ⟨g, F2, rfl, i2, _⟩
  have T1 := Lib.hid (HT.out.b E1.out)
  have S2 := Lib.hid (show St w1 g F2 [] 1 (.slice none 0 0) [] w2 from ⟨i2, rfl, OwnW.nil _ _ _ _, (fun k h => by cases h), (fun y h => by cases h), (fun y h => by cases h)⟩)
  clear i2
  go_wp2_with fail
  go_loopw [3, 4, 5, 6] (fun p v nxv i wr => ∃ (k : Nat) (g : Nat) (F : Nat → Prop) (T : List Ft) (nx : Int) (vo : Value) (rs : List Fs), k ≤ l.length ∧ i = .int .i64 k ∧ p = .pointer (some ⟨g, 0, none⟩) ∧ vo = v ∧ nxv = .int .i64 nx ∧ T.length ≤ k ∧ nx ≤ (k : Int) + 1 ∧ 1 ≤ nx ∧ Hid (St w1 g F T nx vo rs wr)) (fun _ _ _ i _ => (l.length - (RowKit.intOf i).toNat))
  case atStart => exact ⟨0, g, F2, [], 1, _, [], by omega, rfl, rfl, rfl, rfl, Nat.le_refl _, Int.le_refl _, Int.le_refl _, S2⟩
  case round =>
    obtain ⟨k, g, F, T, nx, vo, rs, hk, rfl, rfl, rfl, rfl, hTl, hnx, hnx1, hSt⟩ := hrel
    clear S2
    have EW := Lib.hid (E1.out.trans (hSt.out.inv.below.mono E1.out.size))
    obtain ⟨rA, rc, hvo, hrr, _, _⟩ := hSt.out.row
    subst hvo
    clear hrr
    have hrl := hSt.out.len
    have hrl2 : rs.length ≤ 100 := by omega
    have hrlI : (rs.length : Int) ≤ 100 := by omega
    clear hrl
    by_cases hlt : k < l.length
    · have hkI : (k : Int) < (l.length : Int) := by omega
      obtain ⟨ad, rfl, c0, c1, c2, c3⟩ := ax_at (HR.out _ EW.out) hlt
      have hin := HX.out l[k] (List.getElem_mem hlt)
      generalize l[k] = x at *
      obtain ⟨⟨x0, x1, x2, x4⟩, x3, x5⟩ := x
      dsimp only at c0 c1 c2 c3
      have IN := Lib.hid hin
      have h4 : x4.length ≤ 9223372036854775807 := by have := hin.len; unfold maxLen at this; omega
      have h2 : x2.size ≤ 9223372036854775807 := hin.ts
      clear hin
      by_cases hg : 10 < x4.length ∨ 50 < x2.size
      · have hg' : (10 : Int) < (x4.length : Int) ∨ ((x4.length : Int) ≤ 10 ∧ (50 : Int) < (x2.size : Int)) := by omega
        clear hg
        rcases hg' with hg | ⟨hg1, hg2⟩
        · go_wp2_with fail
          go_ret
          exact ⟨rfl, EW.out.alloc EW.out.size _⟩
        · go_wp2_with fail
          go_ret
          exact ⟨rfl, EW.out.alloc EW.out.size _⟩
      · have hg1 : (x4.length : Int) ≤ 10 := by omega
        have hg2 : (x2.size : Int) ≤ 50 := by omega
        clear hg h4 h2
        go_wp2_with fail
        have E0 := Lib.hid ((Below.refl wr.heap.size wr).alloc (Nat.le_refl _) (.cells #[.int .i64 x0, .int .i64 x1, .string x2, .slice x3 x4.length x5] 50))
        have HB0 := Lib.hid (heap_alloc_new wr (.cells #[.int .i64 x0, .int .i64 x1, .string x2, .slice x3 x4.length x5] 50))
        generalize hfb : wr.heap.size = fb at HB0 ⊢
        have hfb' := Lib.hid hfb
        clear hfb
        generalize hw0 : wr.alloc (.cells #[.int .i64 x0, .int .i64 x1, .string x2, .slice x3 x4.length x5] 50) = W0 at *
        clear hw0 c0 c1 c2 c3
        obtain ⟨wo, rfl⟩ : ∃ wo : World, wo = wr := ⟨_, rfl⟩
        go_loopw [8] (fun i wr => ∃ j : Nat, j ≤ x4.length ∧ i = .int .i64 j ∧ Hid (Below W0.heap.size W0 wr) ∧ Hid (∀ m (h : m < x4.length), m < j → rightB x4[m] = true)) (fun i _ => (x4.length - (RowKit.intOf i).toNat))
        case atStart => exact ⟨0, by omega, rfl, Lib.hid (Below.refl _ _), Lib.hid (fun _ _ h => by omega)⟩
        case round =>
          obtain ⟨j, hj, rfl, hB, hRi⟩ := hrel
          have EB := Lib.hid (E0.out.trans (hB.out.mono E0.out.size))
          have EWB := Lib.hid (EW.out.trans (EB.out.mono EW.out.size))
          have hfc := keepB HB0.out hB.out
          have d3 := block_cell (j := 3) hfc rfl
          by_cases hjl : j < x4.length
          · have hjI : (j : Int) < (x4.length : Int) := by omega
            obtain ⟨vd, rfl, _, v0c, v1c, v2c⟩ := vals_at (RowsAt.below IN.out.row EWB.out) hjl
            have hcv := Lib.hid ((IN.out.vals x4[j] (List.getElem_mem hjl)).s)
            have NX : Hid (rightB x4[j] = true → ∀ m (h : m < x4.length), m < j + 1 → rightB x4[m] = true) := Lib.hid (fun h m hm hmj => by
              by_cases e : m = j
              · subst e; exact h
              · exact hRi.out m hm (by omega))
            generalize x4[j] = v at *
            obtain ⟨va, vb, vc⟩ := v
            dsimp only at v0c v1c v2c
            have RC := Lib.hid (rright_c (va, vb, vc) wr hcv.out)
            cases hrb : rightB (va, vb, vc) with
            | false =>
              rw [hrb] at RC
              clear hrb NX hfc
              go_wp2_with fail
              (with_reducible refine RC.out.mono ?_)
              rintro e w3 ⟨rfl, b3⟩
              have E3 := Lib.hid (EWB.out.trans (b3.mono EWB.out.size))
              clear b3 RC
              go_wp2_with fail
              go_ret
              exact ⟨rfl, E3.out⟩
            | true =>
              rw [hrb] at RC
              have NX2 := Lib.hid (NX.out hrb)
              clear hrb NX hfc
              go_wp2_with fail
              (with_reducible refine RC.out.mono ?_)
              rintro e w3 ⟨rfl, b3⟩
              have E3 := Lib.hid (hB.out.trans (b3.mono hB.out.size))
              clear b3 RC
              go_wp2_with fail
              go_roundw
              case rel => exact ⟨j + 1, by omega, by go_num, E3, NX2⟩
              case measure => first | (simp [RowKit.intOf]; done) | (simp [RowKit.intOf]; omega)
          · obtain rfl : j = x4.length := by omega
            have HOK := Lib.hid (show ∀ v ∈ x4, okV v from fun v hv => by
              obtain ⟨m, hm, rfl⟩ := List.getElem_of_mem hv
              exact right_okV (hRi.out m hm hm) (IN.out.vals _ hv))
            clear hRi hj hjl hfc
            go_wp2_with fail
            clear d3
            obtain ⟨wp, rfl⟩ : ∃ wp : World, wp = wr := ⟨_, rfl⟩
            go_loopw [9, 10] (fun av i wr => ∃ (j : Nat) (a : Int), j ≤ rs.length ∧ i = .int .i64 j ∧ av = .int .i64 a ∧ Hid (AtK ((x0, x1, x2, x4), x3, x5) rs j a) ∧ Hid (Below W0.heap.size W0 wr)) (fun _ i _ => (rs.length - (RowKit.intOf i).toNat))
            case atStart => exact ⟨0, -1, by omega, rfl, rfl, Lib.hid (.inl ⟨rfl, fun _ _ h => by omega⟩), hB⟩
            case round =>
              obtain ⟨j, a, hj, rfl, rfl, hAt, hB2⟩ := hrel
              clear hB EB EWB
              have EB := Lib.hid (E0.out.trans (hB2.out.mono E0.out.size))
              have EWB := Lib.hid (EW.out.trans (EB.out.mono EW.out.size))
              by_cases hjl : j < rs.length
              · have hjI : (j : Int) < (rs.length : Int) := by omega
                have hSt2 := hSt.out.below EB.out
                obtain ⟨rA', rc', hvo, hrr, _, _⟩ := hSt2.row
                obtain rfl : rA = rA' := by injection hvo
                obtain ⟨rad, rfl, _, r0c, r1c, r2c⟩ := fs_at hrr hjl
                have hfr := hSt2.fr rs[j] (List.getElem_mem hjl)
                have PY := Lib.hid (fun (h : mt ((x0, x1, x2, x4), x3, x5) rs[j].1 = true) => atK_yes (x := ((x0, x1, x2, x4), x3, x5)) hjl h)
                have PN := Lib.hid (fun (h : mt ((x0, x1, x2, x4), x3, x5) rs[j].1 = false) => atK_no hAt.out hjl h)
                have hfc := keepB HB0.out hB2.out
                generalize rs[j] = y at *
                obtain ⟨⟨y1, y2, y4⟩, y3, y5⟩ := y
                dsimp only at r0c r1c r2c PY PN
                have HS23 : Hid (∀ w', Below wr.heap.size wr w' → (fun w' => w'.cell? ⟨fb, 0, none⟩ = some (.int .i64 x0) ∧ w'.cell? ⟨fb, 1, none⟩ = some (.int .i64 x1) ∧ w'.cell? ⟨fb, 2, none⟩ = some (.string x2) ∧ w'.cell? ⟨fb, 3, none⟩ = some (.slice x3 x4.length x5) ∧ w'.cell? (rad.add (j * 3)) = some (.int .i64 y1) ∧ w'.cell? ⟨(rad.add (j * 3)).block, (rad.add (j * 3)).off + 1, none⟩ = some (.string y2) ∧ w'.cell? ⟨(rad.add (j * 3)).block, (rad.add (j * 3)).off + 2, none⟩ = some (.slice y3 y4.length y5)) w') := Lib.hid (fun w' h => by
                  have h1 := keepB hfc h
                  exact ⟨block_cell h1 rfl, block_cell h1 rfl, block_cell h1 rfl, block_cell h1 rfl, (h.cell (World.block_lt_of_cell? _ _ r0c)).trans r0c, (h.cell (World.block_lt_of_cell? _ _ r1c)).trans r1c, (h.cell (World.block_lt_of_cell? _ _ r2c)).trans r2c⟩)
                have HVY := Lib.hid (fun w' (h : Below wr.heap.size wr w') => RowsAt.mono (M := fun _ => False) ((hfr.below h).arg.row) (fun _ h => h.elim))
                have HVX := Lib.hid (fun w' (h : Below wr.heap.size wr w') => RowsAt.below (RowsAt.below IN.out.row EWB.out) h)
                have hy4 : y4.length ≤ 1000 := hfr.few
                have hx4 : x4.length ≤ 1000 := by omega
                have D0 : Hid (Below wr.heap.size wr wr.drew) := Lib.hid ⟨rfl, rfl, rfl, Nat.le_refl _, fun _ _ => rfl⟩
                have EWD := Lib.hid (hB2.out.trans (D0.out.mono hB2.out.size))
                clear hSt2 hvo hrr hfr hfc r0c r1c r2c
                by_cases ho1 : x0 = 1
                · subst ho1
                  by_cases ht : y2 = x2
                  · have e3 := str_eq ht
                    by_cases hv : y4 = x4
                    · as_aux_lemma =>
                        have HD := Lib.hid (decide_eq_true hv)
                        have PF := Lib.hid (PY.out (by simp [mt, ht, hv]))
                        clear hv ht PY PN
                        go_wp2_with fail
                        refine wp_region_held_drew (S := (fun w' => w'.cell? ⟨fb, 0, none⟩ = some (.int .i64 1) ∧ w'.cell? ⟨fb, 1, none⟩ = some (.int .i64 x1) ∧ w'.cell? ⟨fb, 2, none⟩ = some (.string x2) ∧ w'.cell? ⟨fb, 3, none⟩ = some (.slice x3 x4.length x5) ∧ w'.cell? (rad.add (j * 3)) = some (.int .i64 y1) ∧ w'.cell? ⟨(rad.add (j * 3)).block, (rad.add (j * 3)).off + 1, none⟩ = some (.string y2) ∧ w'.cell? ⟨(rad.add (j * 3)).block, (rad.add (j * 3)).off + 2, none⟩ = some (.slice y3 y4.length y5))) (by kernel_rfl) (HS23.out _ D0.out) (fun hHeld => ?_)
                        refine wpAnyH_take (i := 0) (oi := ⟨_, _, _, _, _, _⟩) (v := ?_) rfl (by kernel_rfl) (by kernel_rfl) (by kernel_rfl) (fun _ _ _ h => h) (Or.inl ⟨by rfl, ?_⟩) (by assumption) ?_
                        rotate_left
                        · intro w' hSw; (try dsimp only at hSw); go_simp; (try with_reducible rfl)
                        try simp only [Act.put, List.setIfInBounds_toArray, List.set_cons_zero, List.set_cons_succ]
                        refine wpAnyH_take (i := 1) (oi := ⟨_, _, _, _, _, _⟩) (v := ?_) rfl (by kernel_rfl) (by kernel_rfl) (by kernel_rfl) (fun _ _ _ h => h) (Or.inl ⟨by rfl, ?_⟩) (by assumption) ?_
                        rotate_left
                        · intro w' hSw; (try dsimp only at hSw); go_simp; (try with_reducible rfl)
                        try simp only [Act.put, List.setIfInBounds_toArray, List.set_cons_zero, List.set_cons_succ]
                        refine wpAnyH_take (i := 2) (oi := ⟨_, _, _, _, _, _⟩) (v := ?_) rfl (by kernel_rfl) (by kernel_rfl) (by kernel_rfl) (fun _ _ _ h => h) (Or.inl ⟨by rfl, ?_⟩) (by assumption) ?_
                        rotate_left
                        · intro w' hSw; (try dsimp only at hSw); go_simp; (try with_reducible rfl)
                        try simp only [Act.put, List.setIfInBounds_toArray, List.set_cons_zero, List.set_cons_succ]
                        refine wpAnyH_take (i := 3) (oi := ⟨_, _, _, _, _, _⟩) (v := ?_) rfl (by kernel_rfl) (by kernel_rfl) (by kernel_rfl) (fun _ _ _ h => h) (Or.inl ⟨by rfl, ?_⟩) (by assumption) ?_
                        rotate_left
                        · intro w' hSw; (try dsimp only at hSw); go_simp; (try with_reducible rfl)
                        try simp only [Act.put, List.setIfInBounds_toArray, List.set_cons_zero, List.set_cons_succ]
                        refine wpAnyH_take (i := 4) (oi := ⟨_, _, _, _, _, _⟩) (v := ?_) rfl (by kernel_rfl) (by kernel_rfl) (by kernel_rfl) (fun _ _ _ h => h) (Or.inl ⟨by rfl, ?_⟩) (by assumption) ?_
                        rotate_left
                        · intro w' hSw; (try dsimp only at hSw); go_simp; (try with_reducible rfl)
                        try simp only [Act.put, List.setIfInBounds_toArray, List.set_cons_zero, List.set_cons_succ]
                        refine wpAnyH_take (i := 5) (oi := ⟨_, _, _, _, _, _⟩) (v := ?_) rfl (by kernel_rfl) (by kernel_rfl) (by kernel_rfl) (fun _ _ _ h => h) (Or.inl ⟨by rfl, ?_⟩) (by assumption) ?_
                        rotate_left
                        · intro w' hSw; (try dsimp only at hSw); go_simp; (try with_reducible rfl)
                        try simp only [Act.put, List.setIfInBounds_toArray, List.set_cons_zero, List.set_cons_succ]
                        refine wpAnyH_take (i := 6) (oi := ⟨_, _, _, _, _, _⟩) (v := ?_) rfl (by kernel_rfl) (by kernel_rfl) (by kernel_rfl) (fun _ _ _ h => h) (Or.inl ⟨by rfl, ?_⟩) (by assumption) ?_
                        rotate_left
                        · intro w' hSw; (try dsimp only at hSw); go_simp; (try with_reducible rfl)
                        try simp only [Act.put, List.setIfInBounds_toArray, List.set_cons_zero, List.set_cons_succ]
                        refine wpAnyH_take (i := 7) (oi := ⟨_, _, _, _, _, _⟩) (v := ?_) rfl (by kernel_rfl) (by kernel_rfl) (by kernel_rfl) (fun _ _ _ h => h) (Or.inl ⟨by rfl, ?_⟩) (by assumption) ?_
                        rotate_left
                        · intro w' hSw; (try dsimp only at hSw); go_simp; (try with_reducible rfl)
                        try simp only [Act.put, List.setIfInBounds_toArray, List.set_cons_zero, List.set_cons_succ]
                        refine wpAnyH_take (i := 8) (oi := ⟨_, _, _, _, _, _⟩) (v := ?_) rfl (by kernel_rfl) (by kernel_rfl) (by kernel_rfl) (fun _ _ _ h => h) (Or.inl ⟨by rfl, ?_⟩) (by assumption) ?_
                        rotate_left
                        · intro w' hSw; (try dsimp only at hSw); go_simp; (try with_reducible rfl)
                        try simp only [Act.put, List.setIfInBounds_toArray, List.set_cons_zero, List.set_cons_succ]
                        refine wpAnyH_take (i := 9) (oi := ⟨_, _, _, _, _, _⟩) (v := ?_) rfl (by kernel_rfl) (by kernel_rfl) (by kernel_rfl) (fun _ _ _ h => h) (Or.inl ⟨by rfl, ?_⟩) (by assumption) ?_
                        rotate_left
                        · intro w' hSw; (try dsimp only at hSw); go_simp; (try with_reducible rfl)
                        try simp only [Act.put, List.setIfInBounds_toArray, List.set_cons_zero, List.set_cons_succ]
                        refine wpAnyH_take (i := 10) (oi := ⟨_, _, _, _, _, _⟩) (v := ?_) rfl (by kernel_rfl) (by kernel_rfl) (by kernel_rfl) (fun _ _ _ h => h) (Or.inl ⟨by rfl, ?_⟩) (by assumption) ?_
                        rotate_left
                        · intro w' hSw; (try dsimp only at hSw); go_simp; (try with_reducible rfl)
                        try simp only [Act.put, List.setIfInBounds_toArray, List.set_cons_zero, List.set_cons_succ]
                        refine wpAnyH_take (i := 11) (oi := ⟨_, _, _, _, _, _⟩) (v := ?_) rfl (by kernel_rfl) (by kernel_rfl) (by kernel_rfl) (fun _ _ _ h => h) (Or.inl ⟨by rfl, ?_⟩) (by assumption) ?_
                        rotate_left
                        · intro w' hSw; (try dsimp only at hSw); go_simp; (try with_reducible rfl)
                        try simp only [Act.put, List.setIfInBounds_toArray, List.set_cons_zero, List.set_cons_succ]
                        refine wpAnyH_take (i := 12) (oi := ⟨_, _, _, _, _, _⟩) (v := ?_) rfl (by kernel_rfl) (by kernel_rfl) (by kernel_rfl) (fun _ _ _ h => h) (Or.inl ⟨by rfl, ?_⟩) (by assumption) ?_
                        rotate_left
                        · intro w' hSw; (try dsimp only at hSw); go_simp; (try with_reducible rfl)
                        try simp only [Act.put, List.setIfInBounds_toArray, List.set_cons_zero, List.set_cons_succ]
                        refine wpAnyH_take (i := 13) (oi := ⟨_, _, _, _, _, _⟩) (v := ?_) rfl (by kernel_rfl) (by kernel_rfl) (by kernel_rfl) (fun _ _ _ h => h) (Or.inl ⟨by rfl, ?_⟩) (by assumption) ?_
                        rotate_left
                        · intro w' hSw; (try dsimp only at hSw); go_simp; (try with_reducible rfl)
                        try simp only [Act.put, List.setIfInBounds_toArray, List.set_cons_zero, List.set_cons_succ]
                        refine wpAnyH_take (i := 14) (oi := ⟨_, _, _, _, _, _⟩) (v := ?_) rfl (by kernel_rfl) (by kernel_rfl) (by kernel_rfl) (fun _ _ _ h => h) (Or.inl ⟨by rfl, ?_⟩) (by assumption) ?_
                        rotate_left
                        · intro w' hSw; (try dsimp only at hSw); go_simp; (try with_reducible rfl)
                        try simp only [Act.put, List.setIfInBounds_toArray, List.set_cons_zero, List.set_cons_succ]
                        refine wpAnyH_take (i := 15) (oi := ⟨_, _, _, _, _, _⟩) (v := ?_) rfl (by kernel_rfl) (by kernel_rfl) (by kernel_rfl) (fun _ _ _ h => h) (Or.inl ⟨by rfl, ?_⟩) (by assumption) ?_
                        rotate_left
                        · intro w' hSw; (try dsimp only at hSw); go_simp; (try with_reducible rfl)
                        try simp only [Act.put, List.setIfInBounds_toArray, List.set_cons_zero, List.set_cons_succ]
                        refine wpAnyH_take (i := 16) (oi := ⟨_, _, _, _, _, _⟩) (v := ?_) rfl (by kernel_rfl) (by kernel_rfl) (by kernel_rfl) (fun _ _ _ h => h) (Or.inl ⟨by rfl, ?_⟩) (by assumption) ?_
                        rotate_left
                        · intro w' hSw; (try dsimp only at hSw); go_simp; (try with_reducible rfl)
                        try simp only [Act.put, List.setIfInBounds_toArray, List.set_cons_zero, List.set_cons_succ]
                        refine wpAnyH_take (i := 17) (oi := ⟨_, _, _, _, _, _⟩) (v := ?_) rfl (by kernel_rfl) (by kernel_rfl) (by kernel_rfl) (fun _ _ _ h => h) (Or.inl ⟨by rfl, ?_⟩) (by assumption) ?_
                        rotate_left
                        · intro w' hSw; (try dsimp only at hSw); go_simp; (try with_reducible rfl)
                        try simp only [Act.put, List.setIfInBounds_toArray, List.set_cons_zero, List.set_cons_succ]
                        refine wpAnyH_take (i := 18) (oi := ⟨_, _, _, _, _, _⟩) (v := ?_) rfl (by kernel_rfl) (by kernel_rfl) (by kernel_rfl) (fun _ _ _ h => h) (Or.inl ⟨by rfl, ?_⟩) (by assumption) ?_
                        rotate_left
                        · intro w' hSw; (try dsimp only at hSw); go_simp; (try with_reducible rfl)
                        try simp only [Act.put, List.setIfInBounds_toArray, List.set_cons_zero, List.set_cons_succ]
                        refine wpAnyH_take (i := 19) (oi := ⟨_, _, _, _, _, _⟩) (v := ?_) rfl (by kernel_rfl) (by kernel_rfl) (by kernel_rfl) (fun _ _ _ h => h) (Or.inl ⟨by rfl, ?_⟩) (by assumption) ?_
                        rotate_left
                        · intro w' hSw; (try dsimp only at hSw); go_simp; (try with_reducible rfl)
                        try simp only [Act.put, List.setIfInBounds_toArray, List.set_cons_zero, List.set_cons_succ]
                        refine wpAnyH_take (i := 20) (oi := ⟨_, _, _, _, _, _⟩) (v := ?_) rfl (by kernel_rfl) (by kernel_rfl) (by kernel_rfl) (fun _ _ _ h => h) (Or.inl ⟨by rfl, ?_⟩) (by assumption) ?_
                        rotate_left
                        · intro w' hSw; (try dsimp only at hSw); go_simp; (try with_reducible rfl)
                        try simp only [Act.put, List.setIfInBounds_toArray, List.set_cons_zero, List.set_cons_succ]
                        refine wpAnyH_ready (rs := [21]) (by kernel_rfl) (by simp) ?_
                        refine AllReadyH.cons (o := ⟨_, _, _, _, _, _⟩) rfl (fun K9 hK9 => ?_) AllReadyH.nil
                        go_simp
                        (with_reducible refine (rows_c y3 y5 y4 x3 x5 x4 _ (HVY.out _ D0.out) (HVX.out _ D0.out) hy4 hx4).mono ?_)
                        rintro e w9 ⟨rfl, b9⟩
                        have E9 := Lib.hid (D0.out.trans (b9.mono D0.out.size))
                        clear b9
                        rw [HD.out]
                        go_wp2_with fail
                        refine hK9.out _ _ (HS23.out _ E9.out) (fun hHeld => ?_)
                        clear hK9 K9
                        try simp only [Act.put, List.setIfInBounds_toArray, List.set_cons_zero, List.set_cons_succ]
                        refine wpAnyH_take (i := 22) (oi := ⟨_, _, _, _, _, _⟩) (v := ?_) rfl (by kernel_rfl) (by kernel_rfl) (by kernel_rfl) (fun _ _ _ h => h) (Or.inl ⟨by rfl, ?_⟩) (by assumption) ?_
                        rotate_left
                        · intro w' hSw; (try dsimp only at hSw); go_simp; (try with_reducible rfl)
                        try simp only [Act.put, List.setIfInBounds_toArray, List.set_cons_zero, List.set_cons_succ]
                        refine wpAnyH_take (i := 23) (oi := ⟨_, _, _, _, _, _⟩) (v := ?_) rfl (by kernel_rfl) (by kernel_rfl) (by kernel_rfl) (fun _ _ _ h => h) (Or.inl ⟨by rfl, ?_⟩) (by assumption) ?_
                        rotate_left
                        · intro w' hSw; (try dsimp only at hSw); go_simp; (try with_reducible rfl)
                        try simp only [Act.put, List.setIfInBounds_toArray, List.set_cons_zero, List.set_cons_succ]
                        refine wpAnyH_take (i := 24) (oi := ⟨_, _, _, _, _, _⟩) (v := undef) rfl (by kernel_rfl) (by kernel_rfl) (by kernel_rfl) (fun _ _ _ h => h) (Or.inr ⟨by rfl, rfl⟩) (by assumption) ?_
                        try simp only [Act.put, List.setIfInBounds_toArray, List.set_cons_zero, List.set_cons_succ]
                        refine wpAnyH_take (i := 25) (oi := ⟨_, _, _, _, _, _⟩) (v := undef) rfl (by kernel_rfl) (by kernel_rfl) (by kernel_rfl) (fun _ _ _ h => h) (Or.inr ⟨by rfl, rfl⟩) (by assumption) ?_
                        try simp only [Act.put, List.setIfInBounds_toArray, List.set_cons_zero, List.set_cons_succ]
                        refine wpAnyH_take (i := 26) (oi := ⟨_, _, _, _, _, _⟩) (v := undef) rfl (by kernel_rfl) (by kernel_rfl) (by kernel_rfl) (fun _ _ _ h => h) (Or.inr ⟨by rfl, rfl⟩) (by assumption) ?_
                        try simp only [Act.put, List.setIfInBounds_toArray, List.set_cons_zero, List.set_cons_succ]
                        refine wpAnyH_take (i := 27) (oi := ⟨_, _, _, _, _, _⟩) (v := undef) rfl (by kernel_rfl) (by kernel_rfl) (by kernel_rfl) (fun _ _ _ h => h) (Or.inr ⟨by rfl, rfl⟩) (by assumption) ?_
                        try simp only [Act.put, List.setIfInBounds_toArray, List.set_cons_zero, List.set_cons_succ]
                        refine wpAnyH_take (i := 28) (oi := ⟨_, _, _, _, _, _⟩) (v := undef) rfl (by kernel_rfl) (by kernel_rfl) (by kernel_rfl) (fun _ _ _ h => h) (Or.inr ⟨by rfl, rfl⟩) (by assumption) ?_
                        try simp only [Act.put, List.setIfInBounds_toArray, List.set_cons_zero, List.set_cons_succ]
                        refine wpAnyH_take (i := 29) (oi := ⟨_, _, _, _, _, _⟩) (v := undef) rfl (by kernel_rfl) (by kernel_rfl) (by kernel_rfl) (fun _ _ _ h => h) (Or.inr ⟨by rfl, rfl⟩) (by assumption) ?_
                        try simp only [Act.put, List.setIfInBounds_toArray, List.set_cons_zero, List.set_cons_succ]
                        refine wpAnyH_take (i := 30) (oi := ⟨_, _, _, _, _, _⟩) (v := undef) rfl (by kernel_rfl) (by kernel_rfl) (by kernel_rfl) (fun _ _ _ h => h) (Or.inr ⟨by rfl, rfl⟩) (by assumption) ?_
                        try simp only [Act.put, List.setIfInBounds_toArray, List.set_cons_zero, List.set_cons_succ]
                        refine wpAnyH_take (i := 31) (oi := ⟨_, _, _, _, _, _⟩) (v := undef) rfl (by kernel_rfl) (by kernel_rfl) (by kernel_rfl) (fun _ _ _ h => h) (Or.inr ⟨by rfl, rfl⟩) (by assumption) ?_
                        try simp only [Act.put, List.setIfInBounds_toArray, List.set_cons_zero, List.set_cons_succ]
                        refine wpAnyH_take (i := 32) (oi := ⟨_, _, _, _, _, _⟩) (v := undef) rfl (by kernel_rfl) (by kernel_rfl) (by kernel_rfl) (fun _ _ _ h => h) (Or.inr ⟨by rfl, rfl⟩) (by assumption) ?_
                        try simp only [Act.put, List.setIfInBounds_toArray, List.set_cons_zero, List.set_cons_succ]
                        refine wpAnyH_take (i := 33) (oi := ⟨_, _, _, _, _, _⟩) (v := undef) rfl (by kernel_rfl) (by kernel_rfl) (by kernel_rfl) (fun _ _ _ h => h) (Or.inr ⟨by rfl, rfl⟩) (by assumption) ?_
                        try simp only [Act.put, List.setIfInBounds_toArray, List.set_cons_zero, List.set_cons_succ]
                        refine wpAnyH_take (i := 34) (oi := ⟨_, _, _, _, _, _⟩) (v := undef) rfl (by kernel_rfl) (by kernel_rfl) (by kernel_rfl) (fun _ _ _ h => h) (Or.inr ⟨by rfl, rfl⟩) (by assumption) ?_
                        try simp only [Act.put, List.setIfInBounds_toArray, List.set_cons_zero, List.set_cons_succ]
                        refine wpAnyH_take (i := 35) (oi := ⟨_, _, _, _, _, _⟩) (v := undef) rfl (by kernel_rfl) (by kernel_rfl) (by kernel_rfl) (fun _ _ _ h => h) (Or.inr ⟨by rfl, rfl⟩) (by assumption) ?_
                        try simp only [Act.put, List.setIfInBounds_toArray, List.set_cons_zero, List.set_cons_succ]
                        refine wpAnyH_take (i := 36) (oi := ⟨_, _, _, _, _, _⟩) (v := undef) rfl (by kernel_rfl) (by kernel_rfl) (by kernel_rfl) (fun _ _ _ h => h) (Or.inr ⟨by rfl, rfl⟩) (by assumption) ?_
                        try simp only [Act.put, List.setIfInBounds_toArray, List.set_cons_zero, List.set_cons_succ]
                        refine wpAnyH_take (i := 37) (oi := ⟨_, _, _, _, _, _⟩) (v := ?_) rfl (by kernel_rfl) (by kernel_rfl) (by kernel_rfl) (fun _ _ _ h => h) (Or.inl ⟨by rfl, ?_⟩) (by assumption) ?_
                        rotate_left
                        · intro w' hSw; (try dsimp only at hSw); go_simp; (try with_reducible rfl)
                        try simp only [Act.put, List.setIfInBounds_toArray, List.set_cons_zero, List.set_cons_succ]
                        refine wpAnyH_done (by kernel_rfl) ?_ _
                        have E2 := Lib.hid (hB2.out.trans (E9.out.mono hB2.out.size))
                        clear hHeld
                        go_wp2_with fail
                        go_roundw
                        case rel => exact ⟨j + 1, (j : Int), by omega, by go_num, rfl, PF, E2⟩
                        case measure => first | (simp [RowKit.intOf]; done) | (simp [RowKit.intOf]; omega)
                    · as_aux_lemma =>
                        have HD := Lib.hid (decide_eq_false hv)
                        have PF := Lib.hid (PN.out (by simp [mt, hv]))
                        clear hv ht PY PN
                        go_wp2_with fail
                        refine wp_region_held_drew (S := (fun w' => w'.cell? ⟨fb, 0, none⟩ = some (.int .i64 1) ∧ w'.cell? ⟨fb, 1, none⟩ = some (.int .i64 x1) ∧ w'.cell? ⟨fb, 2, none⟩ = some (.string x2) ∧ w'.cell? ⟨fb, 3, none⟩ = some (.slice x3 x4.length x5) ∧ w'.cell? (rad.add (j * 3)) = some (.int .i64 y1) ∧ w'.cell? ⟨(rad.add (j * 3)).block, (rad.add (j * 3)).off + 1, none⟩ = some (.string y2) ∧ w'.cell? ⟨(rad.add (j * 3)).block, (rad.add (j * 3)).off + 2, none⟩ = some (.slice y3 y4.length y5))) (by kernel_rfl) (HS23.out _ D0.out) (fun hHeld => ?_)
                        refine wpAnyH_take (i := 0) (oi := ⟨_, _, _, _, _, _⟩) (v := ?_) rfl (by kernel_rfl) (by kernel_rfl) (by kernel_rfl) (fun _ _ _ h => h) (Or.inl ⟨by rfl, ?_⟩) (by assumption) ?_
                        rotate_left
                        · intro w' hSw; (try dsimp only at hSw); go_simp; (try with_reducible rfl)
                        try simp only [Act.put, List.setIfInBounds_toArray, List.set_cons_zero, List.set_cons_succ]
                        refine wpAnyH_take (i := 1) (oi := ⟨_, _, _, _, _, _⟩) (v := ?_) rfl (by kernel_rfl) (by kernel_rfl) (by kernel_rfl) (fun _ _ _ h => h) (Or.inl ⟨by rfl, ?_⟩) (by assumption) ?_
                        rotate_left
                        · intro w' hSw; (try dsimp only at hSw); go_simp; (try with_reducible rfl)
                        try simp only [Act.put, List.setIfInBounds_toArray, List.set_cons_zero, List.set_cons_succ]
                        refine wpAnyH_take (i := 2) (oi := ⟨_, _, _, _, _, _⟩) (v := ?_) rfl (by kernel_rfl) (by kernel_rfl) (by kernel_rfl) (fun _ _ _ h => h) (Or.inl ⟨by rfl, ?_⟩) (by assumption) ?_
                        rotate_left
                        · intro w' hSw; (try dsimp only at hSw); go_simp; (try with_reducible rfl)
                        try simp only [Act.put, List.setIfInBounds_toArray, List.set_cons_zero, List.set_cons_succ]
                        refine wpAnyH_take (i := 3) (oi := ⟨_, _, _, _, _, _⟩) (v := ?_) rfl (by kernel_rfl) (by kernel_rfl) (by kernel_rfl) (fun _ _ _ h => h) (Or.inl ⟨by rfl, ?_⟩) (by assumption) ?_
                        rotate_left
                        · intro w' hSw; (try dsimp only at hSw); go_simp; (try with_reducible rfl)
                        try simp only [Act.put, List.setIfInBounds_toArray, List.set_cons_zero, List.set_cons_succ]
                        refine wpAnyH_take (i := 4) (oi := ⟨_, _, _, _, _, _⟩) (v := ?_) rfl (by kernel_rfl) (by kernel_rfl) (by kernel_rfl) (fun _ _ _ h => h) (Or.inl ⟨by rfl, ?_⟩) (by assumption) ?_
                        rotate_left
                        · intro w' hSw; (try dsimp only at hSw); go_simp; (try with_reducible rfl)
                        try simp only [Act.put, List.setIfInBounds_toArray, List.set_cons_zero, List.set_cons_succ]
                        refine wpAnyH_take (i := 5) (oi := ⟨_, _, _, _, _, _⟩) (v := ?_) rfl (by kernel_rfl) (by kernel_rfl) (by kernel_rfl) (fun _ _ _ h => h) (Or.inl ⟨by rfl, ?_⟩) (by assumption) ?_
                        rotate_left
                        · intro w' hSw; (try dsimp only at hSw); go_simp; (try with_reducible rfl)
                        try simp only [Act.put, List.setIfInBounds_toArray, List.set_cons_zero, List.set_cons_succ]
                        refine wpAnyH_take (i := 6) (oi := ⟨_, _, _, _, _, _⟩) (v := ?_) rfl (by kernel_rfl) (by kernel_rfl) (by kernel_rfl) (fun _ _ _ h => h) (Or.inl ⟨by rfl, ?_⟩) (by assumption) ?_
                        rotate_left
                        · intro w' hSw; (try dsimp only at hSw); go_simp; (try with_reducible rfl)
                        try simp only [Act.put, List.setIfInBounds_toArray, List.set_cons_zero, List.set_cons_succ]
                        refine wpAnyH_take (i := 7) (oi := ⟨_, _, _, _, _, _⟩) (v := ?_) rfl (by kernel_rfl) (by kernel_rfl) (by kernel_rfl) (fun _ _ _ h => h) (Or.inl ⟨by rfl, ?_⟩) (by assumption) ?_
                        rotate_left
                        · intro w' hSw; (try dsimp only at hSw); go_simp; (try with_reducible rfl)
                        try simp only [Act.put, List.setIfInBounds_toArray, List.set_cons_zero, List.set_cons_succ]
                        refine wpAnyH_take (i := 8) (oi := ⟨_, _, _, _, _, _⟩) (v := ?_) rfl (by kernel_rfl) (by kernel_rfl) (by kernel_rfl) (fun _ _ _ h => h) (Or.inl ⟨by rfl, ?_⟩) (by assumption) ?_
                        rotate_left
                        · intro w' hSw; (try dsimp only at hSw); go_simp; (try with_reducible rfl)
                        try simp only [Act.put, List.setIfInBounds_toArray, List.set_cons_zero, List.set_cons_succ]
                        refine wpAnyH_take (i := 9) (oi := ⟨_, _, _, _, _, _⟩) (v := ?_) rfl (by kernel_rfl) (by kernel_rfl) (by kernel_rfl) (fun _ _ _ h => h) (Or.inl ⟨by rfl, ?_⟩) (by assumption) ?_
                        rotate_left
                        · intro w' hSw; (try dsimp only at hSw); go_simp; (try with_reducible rfl)
                        try simp only [Act.put, List.setIfInBounds_toArray, List.set_cons_zero, List.set_cons_succ]
                        refine wpAnyH_take (i := 10) (oi := ⟨_, _, _, _, _, _⟩) (v := ?_) rfl (by kernel_rfl) (by kernel_rfl) (by kernel_rfl) (fun _ _ _ h => h) (Or.inl ⟨by rfl, ?_⟩) (by assumption) ?_
                        rotate_left
                        · intro w' hSw; (try dsimp only at hSw); go_simp; (try with_reducible rfl)
                        try simp only [Act.put, List.setIfInBounds_toArray, List.set_cons_zero, List.set_cons_succ]
                        refine wpAnyH_take (i := 11) (oi := ⟨_, _, _, _, _, _⟩) (v := ?_) rfl (by kernel_rfl) (by kernel_rfl) (by kernel_rfl) (fun _ _ _ h => h) (Or.inl ⟨by rfl, ?_⟩) (by assumption) ?_
                        rotate_left
                        · intro w' hSw; (try dsimp only at hSw); go_simp; (try with_reducible rfl)
                        try simp only [Act.put, List.setIfInBounds_toArray, List.set_cons_zero, List.set_cons_succ]
                        refine wpAnyH_take (i := 12) (oi := ⟨_, _, _, _, _, _⟩) (v := ?_) rfl (by kernel_rfl) (by kernel_rfl) (by kernel_rfl) (fun _ _ _ h => h) (Or.inl ⟨by rfl, ?_⟩) (by assumption) ?_
                        rotate_left
                        · intro w' hSw; (try dsimp only at hSw); go_simp; (try with_reducible rfl)
                        try simp only [Act.put, List.setIfInBounds_toArray, List.set_cons_zero, List.set_cons_succ]
                        refine wpAnyH_take (i := 13) (oi := ⟨_, _, _, _, _, _⟩) (v := ?_) rfl (by kernel_rfl) (by kernel_rfl) (by kernel_rfl) (fun _ _ _ h => h) (Or.inl ⟨by rfl, ?_⟩) (by assumption) ?_
                        rotate_left
                        · intro w' hSw; (try dsimp only at hSw); go_simp; (try with_reducible rfl)
                        try simp only [Act.put, List.setIfInBounds_toArray, List.set_cons_zero, List.set_cons_succ]
                        refine wpAnyH_take (i := 14) (oi := ⟨_, _, _, _, _, _⟩) (v := ?_) rfl (by kernel_rfl) (by kernel_rfl) (by kernel_rfl) (fun _ _ _ h => h) (Or.inl ⟨by rfl, ?_⟩) (by assumption) ?_
                        rotate_left
                        · intro w' hSw; (try dsimp only at hSw); go_simp; (try with_reducible rfl)
                        try simp only [Act.put, List.setIfInBounds_toArray, List.set_cons_zero, List.set_cons_succ]
                        refine wpAnyH_take (i := 15) (oi := ⟨_, _, _, _, _, _⟩) (v := ?_) rfl (by kernel_rfl) (by kernel_rfl) (by kernel_rfl) (fun _ _ _ h => h) (Or.inl ⟨by rfl, ?_⟩) (by assumption) ?_
                        rotate_left
                        · intro w' hSw; (try dsimp only at hSw); go_simp; (try with_reducible rfl)
                        try simp only [Act.put, List.setIfInBounds_toArray, List.set_cons_zero, List.set_cons_succ]
                        refine wpAnyH_take (i := 16) (oi := ⟨_, _, _, _, _, _⟩) (v := ?_) rfl (by kernel_rfl) (by kernel_rfl) (by kernel_rfl) (fun _ _ _ h => h) (Or.inl ⟨by rfl, ?_⟩) (by assumption) ?_
                        rotate_left
                        · intro w' hSw; (try dsimp only at hSw); go_simp; (try with_reducible rfl)
                        try simp only [Act.put, List.setIfInBounds_toArray, List.set_cons_zero, List.set_cons_succ]
                        refine wpAnyH_take (i := 17) (oi := ⟨_, _, _, _, _, _⟩) (v := ?_) rfl (by kernel_rfl) (by kernel_rfl) (by kernel_rfl) (fun _ _ _ h => h) (Or.inl ⟨by rfl, ?_⟩) (by assumption) ?_
                        rotate_left
                        · intro w' hSw; (try dsimp only at hSw); go_simp; (try with_reducible rfl)
                        try simp only [Act.put, List.setIfInBounds_toArray, List.set_cons_zero, List.set_cons_succ]
                        refine wpAnyH_take (i := 18) (oi := ⟨_, _, _, _, _, _⟩) (v := ?_) rfl (by kernel_rfl) (by kernel_rfl) (by kernel_rfl) (fun _ _ _ h => h) (Or.inl ⟨by rfl, ?_⟩) (by assumption) ?_
                        rotate_left
                        · intro w' hSw; (try dsimp only at hSw); go_simp; (try with_reducible rfl)
                        try simp only [Act.put, List.setIfInBounds_toArray, List.set_cons_zero, List.set_cons_succ]
                        refine wpAnyH_take (i := 19) (oi := ⟨_, _, _, _, _, _⟩) (v := ?_) rfl (by kernel_rfl) (by kernel_rfl) (by kernel_rfl) (fun _ _ _ h => h) (Or.inl ⟨by rfl, ?_⟩) (by assumption) ?_
                        rotate_left
                        · intro w' hSw; (try dsimp only at hSw); go_simp; (try with_reducible rfl)
                        try simp only [Act.put, List.setIfInBounds_toArray, List.set_cons_zero, List.set_cons_succ]
                        refine wpAnyH_take (i := 20) (oi := ⟨_, _, _, _, _, _⟩) (v := ?_) rfl (by kernel_rfl) (by kernel_rfl) (by kernel_rfl) (fun _ _ _ h => h) (Or.inl ⟨by rfl, ?_⟩) (by assumption) ?_
                        rotate_left
                        · intro w' hSw; (try dsimp only at hSw); go_simp; (try with_reducible rfl)
                        try simp only [Act.put, List.setIfInBounds_toArray, List.set_cons_zero, List.set_cons_succ]
                        refine wpAnyH_ready (rs := [21]) (by kernel_rfl) (by simp) ?_
                        refine AllReadyH.cons (o := ⟨_, _, _, _, _, _⟩) rfl (fun K9 hK9 => ?_) AllReadyH.nil
                        go_simp
                        (with_reducible refine (rows_c y3 y5 y4 x3 x5 x4 _ (HVY.out _ D0.out) (HVX.out _ D0.out) hy4 hx4).mono ?_)
                        rintro e w9 ⟨rfl, b9⟩
                        have E9 := Lib.hid (D0.out.trans (b9.mono D0.out.size))
                        clear b9
                        rw [HD.out]
                        go_wp2_with fail
                        refine hK9.out _ _ (HS23.out _ E9.out) (fun hHeld => ?_)
                        clear hK9 K9
                        try simp only [Act.put, List.setIfInBounds_toArray, List.set_cons_zero, List.set_cons_succ]
                        refine wpAnyH_take (i := 22) (oi := ⟨_, _, _, _, _, _⟩) (v := ?_) rfl (by kernel_rfl) (by kernel_rfl) (by kernel_rfl) (fun _ _ _ h => h) (Or.inl ⟨by rfl, ?_⟩) (by assumption) ?_
                        rotate_left
                        · intro w' hSw; (try dsimp only at hSw); go_simp; (try with_reducible rfl)
                        try simp only [Act.put, List.setIfInBounds_toArray, List.set_cons_zero, List.set_cons_succ]
                        refine wpAnyH_take (i := 23) (oi := ⟨_, _, _, _, _, _⟩) (v := ?_) rfl (by kernel_rfl) (by kernel_rfl) (by kernel_rfl) (fun _ _ _ h => h) (Or.inl ⟨by rfl, ?_⟩) (by assumption) ?_
                        rotate_left
                        · intro w' hSw; (try dsimp only at hSw); go_simp; (try with_reducible rfl)
                        try simp only [Act.put, List.setIfInBounds_toArray, List.set_cons_zero, List.set_cons_succ]
                        refine wpAnyH_take (i := 24) (oi := ⟨_, _, _, _, _, _⟩) (v := ?_) rfl (by kernel_rfl) (by kernel_rfl) (by kernel_rfl) (fun _ _ _ h => h) (Or.inl ⟨by rfl, ?_⟩) (by assumption) ?_
                        rotate_left
                        · intro w' hSw; (try dsimp only at hSw); go_simp; (try with_reducible rfl)
                        try simp only [Act.put, List.setIfInBounds_toArray, List.set_cons_zero, List.set_cons_succ]
                        refine wpAnyH_take (i := 25) (oi := ⟨_, _, _, _, _, _⟩) (v := ?_) rfl (by kernel_rfl) (by kernel_rfl) (by kernel_rfl) (fun _ _ _ h => h) (Or.inl ⟨by rfl, ?_⟩) (by assumption) ?_
                        rotate_left
                        · intro w' hSw; (try dsimp only at hSw); go_simp; (try with_reducible rfl)
                        try simp only [Act.put, List.setIfInBounds_toArray, List.set_cons_zero, List.set_cons_succ]
                        refine wpAnyH_take (i := 26) (oi := ⟨_, _, _, _, _, _⟩) (v := ?_) rfl (by kernel_rfl) (by kernel_rfl) (by kernel_rfl) (fun _ _ _ h => h) (Or.inl ⟨by rfl, ?_⟩) (by assumption) ?_
                        rotate_left
                        · intro w' hSw; (try dsimp only at hSw); go_simp; (try with_reducible rfl)
                        try simp only [Act.put, List.setIfInBounds_toArray, List.set_cons_zero, List.set_cons_succ]
                        refine wpAnyH_take (i := 27) (oi := ⟨_, _, _, _, _, _⟩) (v := ?_) rfl (by kernel_rfl) (by kernel_rfl) (by kernel_rfl) (fun _ _ _ h => h) (Or.inl ⟨by rfl, ?_⟩) (by assumption) ?_
                        rotate_left
                        · intro w' hSw; (try dsimp only at hSw); go_simp; (try with_reducible rfl)
                        try simp only [Act.put, List.setIfInBounds_toArray, List.set_cons_zero, List.set_cons_succ]
                        refine wpAnyH_take (i := 28) (oi := ⟨_, _, _, _, _, _⟩) (v := undef) rfl (by kernel_rfl) (by kernel_rfl) (by kernel_rfl) (fun _ _ _ h => h) (Or.inr ⟨by rfl, rfl⟩) (by assumption) ?_
                        try simp only [Act.put, List.setIfInBounds_toArray, List.set_cons_zero, List.set_cons_succ]
                        refine wpAnyH_take (i := 29) (oi := ⟨_, _, _, _, _, _⟩) (v := undef) rfl (by kernel_rfl) (by kernel_rfl) (by kernel_rfl) (fun _ _ _ h => h) (Or.inr ⟨by rfl, rfl⟩) (by assumption) ?_
                        try simp only [Act.put, List.setIfInBounds_toArray, List.set_cons_zero, List.set_cons_succ]
                        refine wpAnyH_take (i := 30) (oi := ⟨_, _, _, _, _, _⟩) (v := undef) rfl (by kernel_rfl) (by kernel_rfl) (by kernel_rfl) (fun _ _ _ h => h) (Or.inr ⟨by rfl, rfl⟩) (by assumption) ?_
                        try simp only [Act.put, List.setIfInBounds_toArray, List.set_cons_zero, List.set_cons_succ]
                        refine wpAnyH_take (i := 31) (oi := ⟨_, _, _, _, _, _⟩) (v := undef) rfl (by kernel_rfl) (by kernel_rfl) (by kernel_rfl) (fun _ _ _ h => h) (Or.inr ⟨by rfl, rfl⟩) (by assumption) ?_
                        try simp only [Act.put, List.setIfInBounds_toArray, List.set_cons_zero, List.set_cons_succ]
                        refine wpAnyH_take (i := 32) (oi := ⟨_, _, _, _, _, _⟩) (v := undef) rfl (by kernel_rfl) (by kernel_rfl) (by kernel_rfl) (fun _ _ _ h => h) (Or.inr ⟨by rfl, rfl⟩) (by assumption) ?_
                        try simp only [Act.put, List.setIfInBounds_toArray, List.set_cons_zero, List.set_cons_succ]
                        refine wpAnyH_take (i := 33) (oi := ⟨_, _, _, _, _, _⟩) (v := undef) rfl (by kernel_rfl) (by kernel_rfl) (by kernel_rfl) (fun _ _ _ h => h) (Or.inr ⟨by rfl, rfl⟩) (by assumption) ?_
                        try simp only [Act.put, List.setIfInBounds_toArray, List.set_cons_zero, List.set_cons_succ]
                        refine wpAnyH_take (i := 34) (oi := ⟨_, _, _, _, _, _⟩) (v := undef) rfl (by kernel_rfl) (by kernel_rfl) (by kernel_rfl) (fun _ _ _ h => h) (Or.inr ⟨by rfl, rfl⟩) (by assumption) ?_
                        try simp only [Act.put, List.setIfInBounds_toArray, List.set_cons_zero, List.set_cons_succ]
                        refine wpAnyH_take (i := 35) (oi := ⟨_, _, _, _, _, _⟩) (v := undef) rfl (by kernel_rfl) (by kernel_rfl) (by kernel_rfl) (fun _ _ _ h => h) (Or.inr ⟨by rfl, rfl⟩) (by assumption) ?_
                        try simp only [Act.put, List.setIfInBounds_toArray, List.set_cons_zero, List.set_cons_succ]
                        refine wpAnyH_take (i := 36) (oi := ⟨_, _, _, _, _, _⟩) (v := ?_) rfl (by kernel_rfl) (by kernel_rfl) (by kernel_rfl) (fun _ _ _ h => h) (Or.inl ⟨by rfl, ?_⟩) (by assumption) ?_
                        rotate_left
                        · intro w' hSw; (try dsimp only at hSw); go_simp; (try with_reducible rfl)
                        try simp only [Act.put, List.setIfInBounds_toArray, List.set_cons_zero, List.set_cons_succ]
                        refine wpAnyH_take (i := 37) (oi := ⟨_, _, _, _, _, _⟩) (v := ?_) rfl (by kernel_rfl) (by kernel_rfl) (by kernel_rfl) (fun _ _ _ h => h) (Or.inl ⟨by rfl, ?_⟩) (by assumption) ?_
                        rotate_left
                        · intro w' hSw; (try dsimp only at hSw); go_simp; (try with_reducible rfl)
                        try simp only [Act.put, List.setIfInBounds_toArray, List.set_cons_zero, List.set_cons_succ]
                        refine wpAnyH_done (by kernel_rfl) ?_ _
                        have E2 := Lib.hid (hB2.out.trans (E9.out.mono hB2.out.size))
                        clear hHeld
                        go_wp2_with fail
                        go_roundw
                        case rel => exact ⟨j + 1, a, by omega, by go_num, rfl, PF, E2⟩
                        case measure => first | (simp [RowKit.intOf]; done) | (simp [RowKit.intOf]; omega)
                  · as_aux_lemma =>
                      have e3 := str_ne ht
                      have PF := Lib.hid (PN.out (by simp [mt, ht]))
                      clear ht PY PN
                      go_wp2_with fail
                      refine wp_region_held_drew (S := (fun w' => w'.cell? ⟨fb, 0, none⟩ = some (.int .i64 1) ∧ w'.cell? ⟨fb, 1, none⟩ = some (.int .i64 x1) ∧ w'.cell? ⟨fb, 2, none⟩ = some (.string x2) ∧ w'.cell? ⟨fb, 3, none⟩ = some (.slice x3 x4.length x5) ∧ w'.cell? (rad.add (j * 3)) = some (.int .i64 y1) ∧ w'.cell? ⟨(rad.add (j * 3)).block, (rad.add (j * 3)).off + 1, none⟩ = some (.string y2) ∧ w'.cell? ⟨(rad.add (j * 3)).block, (rad.add (j * 3)).off + 2, none⟩ = some (.slice y3 y4.length y5))) (by kernel_rfl) (HS23.out _ D0.out) (fun hHeld => ?_)
                      refine wpAnyH_take (i := 0) (oi := ⟨_, _, _, _, _, _⟩) (v := ?_) rfl (by kernel_rfl) (by kernel_rfl) (by kernel_rfl) (fun _ _ _ h => h) (Or.inl ⟨by rfl, ?_⟩) (by assumption) ?_
                      rotate_left
                      · intro w' hSw; (try dsimp only at hSw); go_simp; (try with_reducible rfl)
                      try simp only [Act.put, List.setIfInBounds_toArray, List.set_cons_zero, List.set_cons_succ]
                      refine wpAnyH_take (i := 1) (oi := ⟨_, _, _, _, _, _⟩) (v := ?_) rfl (by kernel_rfl) (by kernel_rfl) (by kernel_rfl) (fun _ _ _ h => h) (Or.inl ⟨by rfl, ?_⟩) (by assumption) ?_
                      rotate_left
                      · intro w' hSw; (try dsimp only at hSw); go_simp; (try with_reducible rfl)
                      try simp only [Act.put, List.setIfInBounds_toArray, List.set_cons_zero, List.set_cons_succ]
                      refine wpAnyH_take (i := 2) (oi := ⟨_, _, _, _, _, _⟩) (v := ?_) rfl (by kernel_rfl) (by kernel_rfl) (by kernel_rfl) (fun _ _ _ h => h) (Or.inl ⟨by rfl, ?_⟩) (by assumption) ?_
                      rotate_left
                      · intro w' hSw; (try dsimp only at hSw); go_simp; (try with_reducible rfl)
                      try simp only [Act.put, List.setIfInBounds_toArray, List.set_cons_zero, List.set_cons_succ]
                      refine wpAnyH_take (i := 3) (oi := ⟨_, _, _, _, _, _⟩) (v := ?_) rfl (by kernel_rfl) (by kernel_rfl) (by kernel_rfl) (fun _ _ _ h => h) (Or.inl ⟨by rfl, ?_⟩) (by assumption) ?_
                      rotate_left
                      · intro w' hSw; (try dsimp only at hSw); go_simp; (try with_reducible rfl)
                      try simp only [Act.put, List.setIfInBounds_toArray, List.set_cons_zero, List.set_cons_succ]
                      refine wpAnyH_take (i := 4) (oi := ⟨_, _, _, _, _, _⟩) (v := ?_) rfl (by kernel_rfl) (by kernel_rfl) (by kernel_rfl) (fun _ _ _ h => h) (Or.inl ⟨by rfl, ?_⟩) (by assumption) ?_
                      rotate_left
                      · intro w' hSw; (try dsimp only at hSw); go_simp; (try with_reducible rfl)
                      try simp only [Act.put, List.setIfInBounds_toArray, List.set_cons_zero, List.set_cons_succ]
                      refine wpAnyH_take (i := 5) (oi := ⟨_, _, _, _, _, _⟩) (v := ?_) rfl (by kernel_rfl) (by kernel_rfl) (by kernel_rfl) (fun _ _ _ h => h) (Or.inl ⟨by rfl, ?_⟩) (by assumption) ?_
                      rotate_left
                      · intro w' hSw; (try dsimp only at hSw); go_simp; (try with_reducible rfl)
                      try simp only [Act.put, List.setIfInBounds_toArray, List.set_cons_zero, List.set_cons_succ]
                      refine wpAnyH_take (i := 6) (oi := ⟨_, _, _, _, _, _⟩) (v := ?_) rfl (by kernel_rfl) (by kernel_rfl) (by kernel_rfl) (fun _ _ _ h => h) (Or.inl ⟨by rfl, ?_⟩) (by assumption) ?_
                      rotate_left
                      · intro w' hSw; (try dsimp only at hSw); go_simp; (try with_reducible rfl)
                      try simp only [Act.put, List.setIfInBounds_toArray, List.set_cons_zero, List.set_cons_succ]
                      refine wpAnyH_take (i := 7) (oi := ⟨_, _, _, _, _, _⟩) (v := ?_) rfl (by kernel_rfl) (by kernel_rfl) (by kernel_rfl) (fun _ _ _ h => h) (Or.inl ⟨by rfl, ?_⟩) (by assumption) ?_
                      rotate_left
                      · intro w' hSw; (try dsimp only at hSw); go_simp; (try with_reducible rfl)
                      try simp only [Act.put, List.setIfInBounds_toArray, List.set_cons_zero, List.set_cons_succ]
                      refine wpAnyH_take (i := 8) (oi := ⟨_, _, _, _, _, _⟩) (v := ?_) rfl (by kernel_rfl) (by kernel_rfl) (by kernel_rfl) (fun _ _ _ h => h) (Or.inl ⟨by rfl, ?_⟩) (by assumption) ?_
                      rotate_left
                      · intro w' hSw; (try dsimp only at hSw); go_simp; (try with_reducible rfl)
                      try simp only [Act.put, List.setIfInBounds_toArray, List.set_cons_zero, List.set_cons_succ]
                      refine wpAnyH_take (i := 9) (oi := ⟨_, _, _, _, _, _⟩) (v := ?_) rfl (by kernel_rfl) (by kernel_rfl) (by kernel_rfl) (fun _ _ _ h => h) (Or.inl ⟨by rfl, ?_⟩) (by assumption) ?_
                      rotate_left
                      · intro w' hSw; (try dsimp only at hSw); go_simp; (try with_reducible rfl)
                      try simp only [Act.put, List.setIfInBounds_toArray, List.set_cons_zero, List.set_cons_succ]
                      refine wpAnyH_take (i := 10) (oi := ⟨_, _, _, _, _, _⟩) (v := ?_) rfl (by kernel_rfl) (by kernel_rfl) (by kernel_rfl) (fun _ _ _ h => h) (Or.inl ⟨by rfl, ?_⟩) (by assumption) ?_
                      rotate_left
                      · intro w' hSw; (try dsimp only at hSw); go_simp; (try with_reducible rfl)
                      try simp only [Act.put, List.setIfInBounds_toArray, List.set_cons_zero, List.set_cons_succ]
                      refine wpAnyH_take (i := 11) (oi := ⟨_, _, _, _, _, _⟩) (v := ?_) rfl (by kernel_rfl) (by kernel_rfl) (by kernel_rfl) (fun _ _ _ h => h) (Or.inl ⟨by rfl, ?_⟩) (by assumption) ?_
                      rotate_left
                      · intro w' hSw; (try dsimp only at hSw); go_simp; (try with_reducible rfl)
                      try simp only [Act.put, List.setIfInBounds_toArray, List.set_cons_zero, List.set_cons_succ]
                      refine wpAnyH_take (i := 12) (oi := ⟨_, _, _, _, _, _⟩) (v := ?_) rfl (by kernel_rfl) (by kernel_rfl) (by kernel_rfl) (fun _ _ _ h => h) (Or.inl ⟨by rfl, ?_⟩) (by assumption) ?_
                      rotate_left
                      · intro w' hSw; (try dsimp only at hSw); go_simp; (try with_reducible rfl)
                      try simp only [Act.put, List.setIfInBounds_toArray, List.set_cons_zero, List.set_cons_succ]
                      refine wpAnyH_take (i := 13) (oi := ⟨_, _, _, _, _, _⟩) (v := ?_) rfl (by kernel_rfl) (by kernel_rfl) (by kernel_rfl) (fun _ _ _ h => h) (Or.inl ⟨by rfl, ?_⟩) (by assumption) ?_
                      rotate_left
                      · intro w' hSw; (try dsimp only at hSw); go_simp; (try with_reducible rfl)
                      try simp only [Act.put, List.setIfInBounds_toArray, List.set_cons_zero, List.set_cons_succ]
                      refine wpAnyH_take (i := 14) (oi := ⟨_, _, _, _, _, _⟩) (v := undef) rfl (by kernel_rfl) (by kernel_rfl) (by kernel_rfl) (fun _ _ _ h => h) (Or.inr ⟨by rfl, rfl⟩) (by assumption) ?_
                      try simp only [Act.put, List.setIfInBounds_toArray, List.set_cons_zero, List.set_cons_succ]
                      refine wpAnyH_take (i := 15) (oi := ⟨_, _, _, _, _, _⟩) (v := undef) rfl (by kernel_rfl) (by kernel_rfl) (by kernel_rfl) (fun _ _ _ h => h) (Or.inr ⟨by rfl, rfl⟩) (by assumption) ?_
                      try simp only [Act.put, List.setIfInBounds_toArray, List.set_cons_zero, List.set_cons_succ]
                      refine wpAnyH_take (i := 16) (oi := ⟨_, _, _, _, _, _⟩) (v := undef) rfl (by kernel_rfl) (by kernel_rfl) (by kernel_rfl) (fun _ _ _ h => h) (Or.inr ⟨by rfl, rfl⟩) (by assumption) ?_
                      try simp only [Act.put, List.setIfInBounds_toArray, List.set_cons_zero, List.set_cons_succ]
                      refine wpAnyH_take (i := 17) (oi := ⟨_, _, _, _, _, _⟩) (v := undef) rfl (by kernel_rfl) (by kernel_rfl) (by kernel_rfl) (fun _ _ _ h => h) (Or.inr ⟨by rfl, rfl⟩) (by assumption) ?_
                      try simp only [Act.put, List.setIfInBounds_toArray, List.set_cons_zero, List.set_cons_succ]
                      refine wpAnyH_take (i := 18) (oi := ⟨_, _, _, _, _, _⟩) (v := undef) rfl (by kernel_rfl) (by kernel_rfl) (by kernel_rfl) (fun _ _ _ h => h) (Or.inr ⟨by rfl, rfl⟩) (by assumption) ?_
                      try simp only [Act.put, List.setIfInBounds_toArray, List.set_cons_zero, List.set_cons_succ]
                      refine wpAnyH_take (i := 19) (oi := ⟨_, _, _, _, _, _⟩) (v := undef) rfl (by kernel_rfl) (by kernel_rfl) (by kernel_rfl) (fun _ _ _ h => h) (Or.inr ⟨by rfl, rfl⟩) (by assumption) ?_
                      try simp only [Act.put, List.setIfInBounds_toArray, List.set_cons_zero, List.set_cons_succ]
                      refine wpAnyH_take (i := 20) (oi := ⟨_, _, _, _, _, _⟩) (v := undef) rfl (by kernel_rfl) (by kernel_rfl) (by kernel_rfl) (fun _ _ _ h => h) (Or.inr ⟨by rfl, rfl⟩) (by assumption) ?_
                      try simp only [Act.put, List.setIfInBounds_toArray, List.set_cons_zero, List.set_cons_succ]
                      refine wpAnyH_take (i := 21) (oi := ⟨_, _, _, _, _, _⟩) (v := undef) rfl (by kernel_rfl) (by kernel_rfl) (by kernel_rfl) (fun _ _ _ h => h) (Or.inr ⟨by rfl, rfl⟩) (by assumption) ?_
                      try simp only [Act.put, List.setIfInBounds_toArray, List.set_cons_zero, List.set_cons_succ]
                      refine wpAnyH_take (i := 22) (oi := ⟨_, _, _, _, _, _⟩) (v := ?_) rfl (by kernel_rfl) (by kernel_rfl) (by kernel_rfl) (fun _ _ _ h => h) (Or.inl ⟨by rfl, ?_⟩) (by assumption) ?_
                      rotate_left
                      · intro w' hSw; (try dsimp only at hSw); go_simp; (try with_reducible rfl)
                      try simp only [Act.put, List.setIfInBounds_toArray, List.set_cons_zero, List.set_cons_succ]
                      refine wpAnyH_take (i := 23) (oi := ⟨_, _, _, _, _, _⟩) (v := ?_) rfl (by kernel_rfl) (by kernel_rfl) (by kernel_rfl) (fun _ _ _ h => h) (Or.inl ⟨by rfl, ?_⟩) (by assumption) ?_
                      rotate_left
                      · intro w' hSw; (try dsimp only at hSw); go_simp; (try with_reducible rfl)
                      try simp only [Act.put, List.setIfInBounds_toArray, List.set_cons_zero, List.set_cons_succ]
                      refine wpAnyH_take (i := 24) (oi := ⟨_, _, _, _, _, _⟩) (v := ?_) rfl (by kernel_rfl) (by kernel_rfl) (by kernel_rfl) (fun _ _ _ h => h) (Or.inl ⟨by rfl, ?_⟩) (by assumption) ?_
                      rotate_left
                      · intro w' hSw; (try dsimp only at hSw); go_simp; (try with_reducible rfl)
                      try simp only [Act.put, List.setIfInBounds_toArray, List.set_cons_zero, List.set_cons_succ]
                      refine wpAnyH_take (i := 25) (oi := ⟨_, _, _, _, _, _⟩) (v := ?_) rfl (by kernel_rfl) (by kernel_rfl) (by kernel_rfl) (fun _ _ _ h => h) (Or.inl ⟨by rfl, ?_⟩) (by assumption) ?_
                      rotate_left
                      · intro w' hSw; (try dsimp only at hSw); go_simp; (try with_reducible rfl)
                      try simp only [Act.put, List.setIfInBounds_toArray, List.set_cons_zero, List.set_cons_succ]
                      refine wpAnyH_take (i := 26) (oi := ⟨_, _, _, _, _, _⟩) (v := ?_) rfl (by kernel_rfl) (by kernel_rfl) (by kernel_rfl) (fun _ _ _ h => h) (Or.inl ⟨by rfl, ?_⟩) (by assumption) ?_
                      rotate_left
                      · intro w' hSw; (try dsimp only at hSw); go_simp; (try with_reducible rfl)
                      try simp only [Act.put, List.setIfInBounds_toArray, List.set_cons_zero, List.set_cons_succ]
                      refine wpAnyH_take (i := 27) (oi := ⟨_, _, _, _, _, _⟩) (v := ?_) rfl (by kernel_rfl) (by kernel_rfl) (by kernel_rfl) (fun _ _ _ h => h) (Or.inl ⟨by rfl, ?_⟩) (by assumption) ?_
                      rotate_left
                      · intro w' hSw; (try dsimp only at hSw); go_simp; (try with_reducible rfl)
                      try simp only [Act.put, List.setIfInBounds_toArray, List.set_cons_zero, List.set_cons_succ]
                      refine wpAnyH_take (i := 28) (oi := ⟨_, _, _, _, _, _⟩) (v := undef) rfl (by kernel_rfl) (by kernel_rfl) (by kernel_rfl) (fun _ _ _ h => h) (Or.inr ⟨by rfl, rfl⟩) (by assumption) ?_
                      try simp only [Act.put, List.setIfInBounds_toArray, List.set_cons_zero, List.set_cons_succ]
                      refine wpAnyH_take (i := 29) (oi := ⟨_, _, _, _, _, _⟩) (v := undef) rfl (by kernel_rfl) (by kernel_rfl) (by kernel_rfl) (fun _ _ _ h => h) (Or.inr ⟨by rfl, rfl⟩) (by assumption) ?_
                      try simp only [Act.put, List.setIfInBounds_toArray, List.set_cons_zero, List.set_cons_succ]
                      refine wpAnyH_take (i := 30) (oi := ⟨_, _, _, _, _, _⟩) (v := undef) rfl (by kernel_rfl) (by kernel_rfl) (by kernel_rfl) (fun _ _ _ h => h) (Or.inr ⟨by rfl, rfl⟩) (by assumption) ?_
                      try simp only [Act.put, List.setIfInBounds_toArray, List.set_cons_zero, List.set_cons_succ]
                      refine wpAnyH_take (i := 31) (oi := ⟨_, _, _, _, _, _⟩) (v := undef) rfl (by kernel_rfl) (by kernel_rfl) (by kernel_rfl) (fun _ _ _ h => h) (Or.inr ⟨by rfl, rfl⟩) (by assumption) ?_
                      try simp only [Act.put, List.setIfInBounds_toArray, List.set_cons_zero, List.set_cons_succ]
                      refine wpAnyH_take (i := 32) (oi := ⟨_, _, _, _, _, _⟩) (v := undef) rfl (by kernel_rfl) (by kernel_rfl) (by kernel_rfl) (fun _ _ _ h => h) (Or.inr ⟨by rfl, rfl⟩) (by assumption) ?_
                      try simp only [Act.put, List.setIfInBounds_toArray, List.set_cons_zero, List.set_cons_succ]
                      refine wpAnyH_take (i := 33) (oi := ⟨_, _, _, _, _, _⟩) (v := undef) rfl (by kernel_rfl) (by kernel_rfl) (by kernel_rfl) (fun _ _ _ h => h) (Or.inr ⟨by rfl, rfl⟩) (by assumption) ?_
                      try simp only [Act.put, List.setIfInBounds_toArray, List.set_cons_zero, List.set_cons_succ]
                      refine wpAnyH_take (i := 34) (oi := ⟨_, _, _, _, _, _⟩) (v := undef) rfl (by kernel_rfl) (by kernel_rfl) (by kernel_rfl) (fun _ _ _ h => h) (Or.inr ⟨by rfl, rfl⟩) (by assumption) ?_
                      try simp only [Act.put, List.setIfInBounds_toArray, List.set_cons_zero, List.set_cons_succ]
                      refine wpAnyH_take (i := 35) (oi := ⟨_, _, _, _, _, _⟩) (v := undef) rfl (by kernel_rfl) (by kernel_rfl) (by kernel_rfl) (fun _ _ _ h => h) (Or.inr ⟨by rfl, rfl⟩) (by assumption) ?_
                      try simp only [Act.put, List.setIfInBounds_toArray, List.set_cons_zero, List.set_cons_succ]
                      refine wpAnyH_take (i := 36) (oi := ⟨_, _, _, _, _, _⟩) (v := ?_) rfl (by kernel_rfl) (by kernel_rfl) (by kernel_rfl) (fun _ _ _ h => h) (Or.inl ⟨by rfl, ?_⟩) (by assumption) ?_
                      rotate_left
                      · intro w' hSw; (try dsimp only at hSw); go_simp; (try with_reducible rfl)
                      try simp only [Act.put, List.setIfInBounds_toArray, List.set_cons_zero, List.set_cons_succ]
                      refine wpAnyH_take (i := 37) (oi := ⟨_, _, _, _, _, _⟩) (v := ?_) rfl (by kernel_rfl) (by kernel_rfl) (by kernel_rfl) (fun _ _ _ h => h) (Or.inl ⟨by rfl, ?_⟩) (by assumption) ?_
                      rotate_left
                      · intro w' hSw; (try dsimp only at hSw); go_simp; (try with_reducible rfl)
                      try simp only [Act.put, List.setIfInBounds_toArray, List.set_cons_zero, List.set_cons_succ]
                      refine wpAnyH_done (by kernel_rfl) ?_ _
                      clear hHeld
                      go_wp2_with fail
                      go_roundw
                      case rel => exact ⟨j + 1, a, by omega, by go_num, rfl, PF, EWD⟩
                      case measure => first | (simp [RowKit.intOf]; done) | (simp [RowKit.intOf]; omega)
                · have e1 : (x0 == 1) = false := by simp [ho1]
                  by_cases ho2 : x0 = 2
                  · subst ho2
                    by_cases hi : y1 = x1
                    · as_aux_lemma =>
                        have e3 : (y1 == x1) = true := by simp [hi]
                        have PF := Lib.hid (PY.out (by simp [mt, hi]))
                        clear hi PY PN ho1
                        go_wp2_with fail
                        refine wp_region_held_drew (S := (fun w' => w'.cell? ⟨fb, 0, none⟩ = some (.int .i64 2) ∧ w'.cell? ⟨fb, 1, none⟩ = some (.int .i64 x1) ∧ w'.cell? ⟨fb, 2, none⟩ = some (.string x2) ∧ w'.cell? ⟨fb, 3, none⟩ = some (.slice x3 x4.length x5) ∧ w'.cell? (rad.add (j * 3)) = some (.int .i64 y1) ∧ w'.cell? ⟨(rad.add (j * 3)).block, (rad.add (j * 3)).off + 1, none⟩ = some (.string y2) ∧ w'.cell? ⟨(rad.add (j * 3)).block, (rad.add (j * 3)).off + 2, none⟩ = some (.slice y3 y4.length y5))) (by kernel_rfl) (HS23.out _ D0.out) (fun hHeld => ?_)
                        refine wpAnyH_take (i := 0) (oi := ⟨_, _, _, _, _, _⟩) (v := ?_) rfl (by kernel_rfl) (by kernel_rfl) (by kernel_rfl) (fun _ _ _ h => h) (Or.inl ⟨by rfl, ?_⟩) (by assumption) ?_
                        rotate_left
                        · intro w' hSw; (try dsimp only at hSw); go_simp; (try with_reducible rfl)
                        try simp only [Act.put, List.setIfInBounds_toArray, List.set_cons_zero, List.set_cons_succ]
                        refine wpAnyH_take (i := 1) (oi := ⟨_, _, _, _, _, _⟩) (v := ?_) rfl (by kernel_rfl) (by kernel_rfl) (by kernel_rfl) (fun _ _ _ h => h) (Or.inl ⟨by rfl, ?_⟩) (by assumption) ?_
                        rotate_left
                        · intro w' hSw; (try dsimp only at hSw); go_simp; (try with_reducible rfl)
                        try simp only [Act.put, List.setIfInBounds_toArray, List.set_cons_zero, List.set_cons_succ]
                        refine wpAnyH_take (i := 2) (oi := ⟨_, _, _, _, _, _⟩) (v := ?_) rfl (by kernel_rfl) (by kernel_rfl) (by kernel_rfl) (fun _ _ _ h => h) (Or.inl ⟨by rfl, ?_⟩) (by assumption) ?_
                        rotate_left
                        · intro w' hSw; (try dsimp only at hSw); go_simp; (try with_reducible rfl)
                        try simp only [Act.put, List.setIfInBounds_toArray, List.set_cons_zero, List.set_cons_succ]
                        refine wpAnyH_take (i := 3) (oi := ⟨_, _, _, _, _, _⟩) (v := ?_) rfl (by kernel_rfl) (by kernel_rfl) (by kernel_rfl) (fun _ _ _ h => h) (Or.inl ⟨by rfl, ?_⟩) (by assumption) ?_
                        rotate_left
                        · intro w' hSw; (try dsimp only at hSw); go_simp; (try with_reducible rfl)
                        try simp only [Act.put, List.setIfInBounds_toArray, List.set_cons_zero, List.set_cons_succ]
                        refine wpAnyH_take (i := 4) (oi := ⟨_, _, _, _, _, _⟩) (v := undef) rfl (by kernel_rfl) (by kernel_rfl) (by kernel_rfl) (fun _ _ _ h => h) (Or.inr ⟨by rfl, rfl⟩) (by assumption) ?_
                        try simp only [Act.put, List.setIfInBounds_toArray, List.set_cons_zero, List.set_cons_succ]
                        refine wpAnyH_take (i := 5) (oi := ⟨_, _, _, _, _, _⟩) (v := undef) rfl (by kernel_rfl) (by kernel_rfl) (by kernel_rfl) (fun _ _ _ h => h) (Or.inr ⟨by rfl, rfl⟩) (by assumption) ?_
                        try simp only [Act.put, List.setIfInBounds_toArray, List.set_cons_zero, List.set_cons_succ]
                        refine wpAnyH_take (i := 6) (oi := ⟨_, _, _, _, _, _⟩) (v := undef) rfl (by kernel_rfl) (by kernel_rfl) (by kernel_rfl) (fun _ _ _ h => h) (Or.inr ⟨by rfl, rfl⟩) (by assumption) ?_
                        try simp only [Act.put, List.setIfInBounds_toArray, List.set_cons_zero, List.set_cons_succ]
                        refine wpAnyH_take (i := 7) (oi := ⟨_, _, _, _, _, _⟩) (v := undef) rfl (by kernel_rfl) (by kernel_rfl) (by kernel_rfl) (fun _ _ _ h => h) (Or.inr ⟨by rfl, rfl⟩) (by assumption) ?_
                        try simp only [Act.put, List.setIfInBounds_toArray, List.set_cons_zero, List.set_cons_succ]
                        refine wpAnyH_take (i := 8) (oi := ⟨_, _, _, _, _, _⟩) (v := undef) rfl (by kernel_rfl) (by kernel_rfl) (by kernel_rfl) (fun _ _ _ h => h) (Or.inr ⟨by rfl, rfl⟩) (by assumption) ?_
                        try simp only [Act.put, List.setIfInBounds_toArray, List.set_cons_zero, List.set_cons_succ]
                        refine wpAnyH_take (i := 9) (oi := ⟨_, _, _, _, _, _⟩) (v := undef) rfl (by kernel_rfl) (by kernel_rfl) (by kernel_rfl) (fun _ _ _ h => h) (Or.inr ⟨by rfl, rfl⟩) (by assumption) ?_
                        try simp only [Act.put, List.setIfInBounds_toArray, List.set_cons_zero, List.set_cons_succ]
                        refine wpAnyH_take (i := 10) (oi := ⟨_, _, _, _, _, _⟩) (v := undef) rfl (by kernel_rfl) (by kernel_rfl) (by kernel_rfl) (fun _ _ _ h => h) (Or.inr ⟨by rfl, rfl⟩) (by assumption) ?_
                        try simp only [Act.put, List.setIfInBounds_toArray, List.set_cons_zero, List.set_cons_succ]
                        refine wpAnyH_take (i := 11) (oi := ⟨_, _, _, _, _, _⟩) (v := undef) rfl (by kernel_rfl) (by kernel_rfl) (by kernel_rfl) (fun _ _ _ h => h) (Or.inr ⟨by rfl, rfl⟩) (by assumption) ?_
                        try simp only [Act.put, List.setIfInBounds_toArray, List.set_cons_zero, List.set_cons_succ]
                        refine wpAnyH_take (i := 12) (oi := ⟨_, _, _, _, _, _⟩) (v := ?_) rfl (by kernel_rfl) (by kernel_rfl) (by kernel_rfl) (fun _ _ _ h => h) (Or.inl ⟨by rfl, ?_⟩) (by assumption) ?_
                        rotate_left
                        · intro w' hSw; (try dsimp only at hSw); go_simp; (try with_reducible rfl)
                        try simp only [Act.put, List.setIfInBounds_toArray, List.set_cons_zero, List.set_cons_succ]
                        refine wpAnyH_take (i := 13) (oi := ⟨_, _, _, _, _, _⟩) (v := ?_) rfl (by kernel_rfl) (by kernel_rfl) (by kernel_rfl) (fun _ _ _ h => h) (Or.inl ⟨by rfl, ?_⟩) (by assumption) ?_
                        rotate_left
                        · intro w' hSw; (try dsimp only at hSw); go_simp; (try with_reducible rfl)
                        try simp only [Act.put, List.setIfInBounds_toArray, List.set_cons_zero, List.set_cons_succ]
                        refine wpAnyH_take (i := 14) (oi := ⟨_, _, _, _, _, _⟩) (v := undef) rfl (by kernel_rfl) (by kernel_rfl) (by kernel_rfl) (fun _ _ _ h => h) (Or.inr ⟨by rfl, rfl⟩) (by assumption) ?_
                        try simp only [Act.put, List.setIfInBounds_toArray, List.set_cons_zero, List.set_cons_succ]
                        refine wpAnyH_take (i := 15) (oi := ⟨_, _, _, _, _, _⟩) (v := undef) rfl (by kernel_rfl) (by kernel_rfl) (by kernel_rfl) (fun _ _ _ h => h) (Or.inr ⟨by rfl, rfl⟩) (by assumption) ?_
                        try simp only [Act.put, List.setIfInBounds_toArray, List.set_cons_zero, List.set_cons_succ]
                        refine wpAnyH_take (i := 16) (oi := ⟨_, _, _, _, _, _⟩) (v := undef) rfl (by kernel_rfl) (by kernel_rfl) (by kernel_rfl) (fun _ _ _ h => h) (Or.inr ⟨by rfl, rfl⟩) (by assumption) ?_
                        try simp only [Act.put, List.setIfInBounds_toArray, List.set_cons_zero, List.set_cons_succ]
                        refine wpAnyH_take (i := 17) (oi := ⟨_, _, _, _, _, _⟩) (v := undef) rfl (by kernel_rfl) (by kernel_rfl) (by kernel_rfl) (fun _ _ _ h => h) (Or.inr ⟨by rfl, rfl⟩) (by assumption) ?_
                        try simp only [Act.put, List.setIfInBounds_toArray, List.set_cons_zero, List.set_cons_succ]
                        refine wpAnyH_take (i := 18) (oi := ⟨_, _, _, _, _, _⟩) (v := undef) rfl (by kernel_rfl) (by kernel_rfl) (by kernel_rfl) (fun _ _ _ h => h) (Or.inr ⟨by rfl, rfl⟩) (by assumption) ?_
                        try simp only [Act.put, List.setIfInBounds_toArray, List.set_cons_zero, List.set_cons_succ]
                        refine wpAnyH_take (i := 19) (oi := ⟨_, _, _, _, _, _⟩) (v := undef) rfl (by kernel_rfl) (by kernel_rfl) (by kernel_rfl) (fun _ _ _ h => h) (Or.inr ⟨by rfl, rfl⟩) (by assumption) ?_
                        try simp only [Act.put, List.setIfInBounds_toArray, List.set_cons_zero, List.set_cons_succ]
                        refine wpAnyH_take (i := 20) (oi := ⟨_, _, _, _, _, _⟩) (v := undef) rfl (by kernel_rfl) (by kernel_rfl) (by kernel_rfl) (fun _ _ _ h => h) (Or.inr ⟨by rfl, rfl⟩) (by assumption) ?_
                        try simp only [Act.put, List.setIfInBounds_toArray, List.set_cons_zero, List.set_cons_succ]
                        refine wpAnyH_take (i := 21) (oi := ⟨_, _, _, _, _, _⟩) (v := undef) rfl (by kernel_rfl) (by kernel_rfl) (by kernel_rfl) (fun _ _ _ h => h) (Or.inr ⟨by rfl, rfl⟩) (by assumption) ?_
                        try simp only [Act.put, List.setIfInBounds_toArray, List.set_cons_zero, List.set_cons_succ]
                        refine wpAnyH_take (i := 22) (oi := ⟨_, _, _, _, _, _⟩) (v := ?_) rfl (by kernel_rfl) (by kernel_rfl) (by kernel_rfl) (fun _ _ _ h => h) (Or.inl ⟨by rfl, ?_⟩) (by assumption) ?_
                        rotate_left
                        · intro w' hSw; (try dsimp only at hSw); go_simp; (try with_reducible rfl)
                        try simp only [Act.put, List.setIfInBounds_toArray, List.set_cons_zero, List.set_cons_succ]
                        refine wpAnyH_take (i := 23) (oi := ⟨_, _, _, _, _, _⟩) (v := ?_) rfl (by kernel_rfl) (by kernel_rfl) (by kernel_rfl) (fun _ _ _ h => h) (Or.inl ⟨by rfl, ?_⟩) (by assumption) ?_
                        rotate_left
                        · intro w' hSw; (try dsimp only at hSw); go_simp; (try with_reducible rfl)
                        try simp only [Act.put, List.setIfInBounds_toArray, List.set_cons_zero, List.set_cons_succ]
                        refine wpAnyH_take (i := 24) (oi := ⟨_, _, _, _, _, _⟩) (v := ?_) rfl (by kernel_rfl) (by kernel_rfl) (by kernel_rfl) (fun _ _ _ h => h) (Or.inl ⟨by rfl, ?_⟩) (by assumption) ?_
                        rotate_left
                        · intro w' hSw; (try dsimp only at hSw); go_simp; (try with_reducible rfl)
                        try simp only [Act.put, List.setIfInBounds_toArray, List.set_cons_zero, List.set_cons_succ]
                        refine wpAnyH_take (i := 25) (oi := ⟨_, _, _, _, _, _⟩) (v := ?_) rfl (by kernel_rfl) (by kernel_rfl) (by kernel_rfl) (fun _ _ _ h => h) (Or.inl ⟨by rfl, ?_⟩) (by assumption) ?_
                        rotate_left
                        · intro w' hSw; (try dsimp only at hSw); go_simp; (try with_reducible rfl)
                        try simp only [Act.put, List.setIfInBounds_toArray, List.set_cons_zero, List.set_cons_succ]
                        refine wpAnyH_take (i := 26) (oi := ⟨_, _, _, _, _, _⟩) (v := ?_) rfl (by kernel_rfl) (by kernel_rfl) (by kernel_rfl) (fun _ _ _ h => h) (Or.inl ⟨by rfl, ?_⟩) (by assumption) ?_
                        rotate_left
                        · intro w' hSw; (try dsimp only at hSw); go_simp; (try with_reducible rfl)
                        try simp only [Act.put, List.setIfInBounds_toArray, List.set_cons_zero, List.set_cons_succ]
                        refine wpAnyH_take (i := 27) (oi := ⟨_, _, _, _, _, _⟩) (v := ?_) rfl (by kernel_rfl) (by kernel_rfl) (by kernel_rfl) (fun _ _ _ h => h) (Or.inl ⟨by rfl, ?_⟩) (by assumption) ?_
                        rotate_left
                        · intro w' hSw; (try dsimp only at hSw); go_simp; (try with_reducible rfl)
                        try simp only [Act.put, List.setIfInBounds_toArray, List.set_cons_zero, List.set_cons_succ]
                        refine wpAnyH_take (i := 28) (oi := ⟨_, _, _, _, _, _⟩) (v := ?_) rfl (by kernel_rfl) (by kernel_rfl) (by kernel_rfl) (fun _ _ _ h => h) (Or.inl ⟨by rfl, ?_⟩) (by assumption) ?_
                        rotate_left
                        · intro w' hSw; (try dsimp only at hSw); go_simp; (try with_reducible rfl)
                        try simp only [Act.put, List.setIfInBounds_toArray, List.set_cons_zero, List.set_cons_succ]
                        refine wpAnyH_take (i := 29) (oi := ⟨_, _, _, _, _, _⟩) (v := ?_) rfl (by kernel_rfl) (by kernel_rfl) (by kernel_rfl) (fun _ _ _ h => h) (Or.inl ⟨by rfl, ?_⟩) (by assumption) ?_
                        rotate_left
                        · intro w' hSw; (try dsimp only at hSw); go_simp; (try with_reducible rfl)
                        try simp only [Act.put, List.setIfInBounds_toArray, List.set_cons_zero, List.set_cons_succ]
                        refine wpAnyH_take (i := 30) (oi := ⟨_, _, _, _, _, _⟩) (v := ?_) rfl (by kernel_rfl) (by kernel_rfl) (by kernel_rfl) (fun _ _ _ h => h) (Or.inl ⟨by rfl, ?_⟩) (by assumption) ?_
                        rotate_left
                        · intro w' hSw; (try dsimp only at hSw); go_simp; (try with_reducible rfl)
                        try simp only [Act.put, List.setIfInBounds_toArray, List.set_cons_zero, List.set_cons_succ]
                        refine wpAnyH_take (i := 31) (oi := ⟨_, _, _, _, _, _⟩) (v := ?_) rfl (by kernel_rfl) (by kernel_rfl) (by kernel_rfl) (fun _ _ _ h => h) (Or.inl ⟨by rfl, ?_⟩) (by assumption) ?_
                        rotate_left
                        · intro w' hSw; (try dsimp only at hSw); go_simp; (try with_reducible rfl)
                        try simp only [Act.put, List.setIfInBounds_toArray, List.set_cons_zero, List.set_cons_succ]
                        refine wpAnyH_take (i := 32) (oi := ⟨_, _, _, _, _, _⟩) (v := ?_) rfl (by kernel_rfl) (by kernel_rfl) (by kernel_rfl) (fun _ _ _ h => h) (Or.inl ⟨by rfl, ?_⟩) (by assumption) ?_
                        rotate_left
                        · intro w' hSw; (try dsimp only at hSw); go_simp; (try with_reducible rfl)
                        try simp only [Act.put, List.setIfInBounds_toArray, List.set_cons_zero, List.set_cons_succ]
                        refine wpAnyH_take (i := 33) (oi := ⟨_, _, _, _, _, _⟩) (v := ?_) rfl (by kernel_rfl) (by kernel_rfl) (by kernel_rfl) (fun _ _ _ h => h) (Or.inl ⟨by rfl, ?_⟩) (by assumption) ?_
                        rotate_left
                        · intro w' hSw; (try dsimp only at hSw); go_simp; (try with_reducible rfl)
                        try simp only [Act.put, List.setIfInBounds_toArray, List.set_cons_zero, List.set_cons_succ]
                        refine wpAnyH_take (i := 34) (oi := ⟨_, _, _, _, _, _⟩) (v := ?_) rfl (by kernel_rfl) (by kernel_rfl) (by kernel_rfl) (fun _ _ _ h => h) (Or.inl ⟨by rfl, ?_⟩) (by assumption) ?_
                        rotate_left
                        · intro w' hSw; (try dsimp only at hSw); go_simp; (try with_reducible rfl)
                        try simp only [Act.put, List.setIfInBounds_toArray, List.set_cons_zero, List.set_cons_succ]
                        refine wpAnyH_take (i := 35) (oi := ⟨_, _, _, _, _, _⟩) (v := ?_) rfl (by kernel_rfl) (by kernel_rfl) (by kernel_rfl) (fun _ _ _ h => h) (Or.inl ⟨by rfl, ?_⟩) (by assumption) ?_
                        rotate_left
                        · intro w' hSw; (try dsimp only at hSw); go_simp; (try with_reducible rfl)
                        try simp only [Act.put, List.setIfInBounds_toArray, List.set_cons_zero, List.set_cons_succ]
                        refine wpAnyH_take (i := 36) (oi := ⟨_, _, _, _, _, _⟩) (v := ?_) rfl (by kernel_rfl) (by kernel_rfl) (by kernel_rfl) (fun _ _ _ h => h) (Or.inl ⟨by rfl, ?_⟩) (by assumption) ?_
                        rotate_left
                        · intro w' hSw; (try dsimp only at hSw); go_simp; (try with_reducible rfl)
                        try simp only [Act.put, List.setIfInBounds_toArray, List.set_cons_zero, List.set_cons_succ]
                        refine wpAnyH_take (i := 37) (oi := ⟨_, _, _, _, _, _⟩) (v := ?_) rfl (by kernel_rfl) (by kernel_rfl) (by kernel_rfl) (fun _ _ _ h => h) (Or.inl ⟨by rfl, ?_⟩) (by assumption) ?_
                        rotate_left
                        · intro w' hSw; (try dsimp only at hSw); go_simp; (try with_reducible rfl)
                        try simp only [Act.put, List.setIfInBounds_toArray, List.set_cons_zero, List.set_cons_succ]
                        refine wpAnyH_done (by kernel_rfl) ?_ _
                        clear hHeld
                        go_wp2_with fail
                        go_roundw
                        case rel => exact ⟨j + 1, (j : Int), by omega, by go_num, rfl, PF, EWD⟩
                        case measure => first | (simp [RowKit.intOf]; done) | (simp [RowKit.intOf]; omega)
                    · as_aux_lemma =>
                        have e3 : (y1 == x1) = false := by simp [hi]
                        have PF := Lib.hid (PN.out (by simp [mt, hi]))
                        clear hi PY PN ho1
                        go_wp2_with fail
                        refine wp_region_held_drew (S := (fun w' => w'.cell? ⟨fb, 0, none⟩ = some (.int .i64 2) ∧ w'.cell? ⟨fb, 1, none⟩ = some (.int .i64 x1) ∧ w'.cell? ⟨fb, 2, none⟩ = some (.string x2) ∧ w'.cell? ⟨fb, 3, none⟩ = some (.slice x3 x4.length x5) ∧ w'.cell? (rad.add (j * 3)) = some (.int .i64 y1) ∧ w'.cell? ⟨(rad.add (j * 3)).block, (rad.add (j * 3)).off + 1, none⟩ = some (.string y2) ∧ w'.cell? ⟨(rad.add (j * 3)).block, (rad.add (j * 3)).off + 2, none⟩ = some (.slice y3 y4.length y5))) (by kernel_rfl) (HS23.out _ D0.out) (fun hHeld => ?_)
                        refine wpAnyH_take (i := 0) (oi := ⟨_, _, _, _, _, _⟩) (v := ?_) rfl (by kernel_rfl) (by kernel_rfl) (by kernel_rfl) (fun _ _ _ h => h) (Or.inl ⟨by rfl, ?_⟩) (by assumption) ?_
                        rotate_left
                        · intro w' hSw; (try dsimp only at hSw); go_simp; (try with_reducible rfl)
                        try simp only [Act.put, List.setIfInBounds_toArray, List.set_cons_zero, List.set_cons_succ]
                        refine wpAnyH_take (i := 1) (oi := ⟨_, _, _, _, _, _⟩) (v := ?_) rfl (by kernel_rfl) (by kernel_rfl) (by kernel_rfl) (fun _ _ _ h => h) (Or.inl ⟨by rfl, ?_⟩) (by assumption) ?_
                        rotate_left
                        · intro w' hSw; (try dsimp only at hSw); go_simp; (try with_reducible rfl)
                        try simp only [Act.put, List.setIfInBounds_toArray, List.set_cons_zero, List.set_cons_succ]
                        refine wpAnyH_take (i := 2) (oi := ⟨_, _, _, _, _, _⟩) (v := ?_) rfl (by kernel_rfl) (by kernel_rfl) (by kernel_rfl) (fun _ _ _ h => h) (Or.inl ⟨by rfl, ?_⟩) (by assumption) ?_
                        rotate_left
                        · intro w' hSw; (try dsimp only at hSw); go_simp; (try with_reducible rfl)
                        try simp only [Act.put, List.setIfInBounds_toArray, List.set_cons_zero, List.set_cons_succ]
                        refine wpAnyH_take (i := 3) (oi := ⟨_, _, _, _, _, _⟩) (v := ?_) rfl (by kernel_rfl) (by kernel_rfl) (by kernel_rfl) (fun _ _ _ h => h) (Or.inl ⟨by rfl, ?_⟩) (by assumption) ?_
                        rotate_left
                        · intro w' hSw; (try dsimp only at hSw); go_simp; (try with_reducible rfl)
                        try simp only [Act.put, List.setIfInBounds_toArray, List.set_cons_zero, List.set_cons_succ]
                        refine wpAnyH_take (i := 4) (oi := ⟨_, _, _, _, _, _⟩) (v := undef) rfl (by kernel_rfl) (by kernel_rfl) (by kernel_rfl) (fun _ _ _ h => h) (Or.inr ⟨by rfl, rfl⟩) (by assumption) ?_
                        try simp only [Act.put, List.setIfInBounds_toArray, List.set_cons_zero, List.set_cons_succ]
                        refine wpAnyH_take (i := 5) (oi := ⟨_, _, _, _, _, _⟩) (v := undef) rfl (by kernel_rfl) (by kernel_rfl) (by kernel_rfl) (fun _ _ _ h => h) (Or.inr ⟨by rfl, rfl⟩) (by assumption) ?_
                        try simp only [Act.put, List.setIfInBounds_toArray, List.set_cons_zero, List.set_cons_succ]
                        refine wpAnyH_take (i := 6) (oi := ⟨_, _, _, _, _, _⟩) (v := undef) rfl (by kernel_rfl) (by kernel_rfl) (by kernel_rfl) (fun _ _ _ h => h) (Or.inr ⟨by rfl, rfl⟩) (by assumption) ?_
                        try simp only [Act.put, List.setIfInBounds_toArray, List.set_cons_zero, List.set_cons_succ]
                        refine wpAnyH_take (i := 7) (oi := ⟨_, _, _, _, _, _⟩) (v := undef) rfl (by kernel_rfl) (by kernel_rfl) (by kernel_rfl) (fun _ _ _ h => h) (Or.inr ⟨by rfl, rfl⟩) (by assumption) ?_
                        try simp only [Act.put, List.setIfInBounds_toArray, List.set_cons_zero, List.set_cons_succ]
                        refine wpAnyH_take (i := 8) (oi := ⟨_, _, _, _, _, _⟩) (v := undef) rfl (by kernel_rfl) (by kernel_rfl) (by kernel_rfl) (fun _ _ _ h => h) (Or.inr ⟨by rfl, rfl⟩) (by assumption) ?_
                        try simp only [Act.put, List.setIfInBounds_toArray, List.set_cons_zero, List.set_cons_succ]
                        refine wpAnyH_take (i := 9) (oi := ⟨_, _, _, _, _, _⟩) (v := undef) rfl (by kernel_rfl) (by kernel_rfl) (by kernel_rfl) (fun _ _ _ h => h) (Or.inr ⟨by rfl, rfl⟩) (by assumption) ?_
                        try simp only [Act.put, List.setIfInBounds_toArray, List.set_cons_zero, List.set_cons_succ]
                        refine wpAnyH_take (i := 10) (oi := ⟨_, _, _, _, _, _⟩) (v := undef) rfl (by kernel_rfl) (by kernel_rfl) (by kernel_rfl) (fun _ _ _ h => h) (Or.inr ⟨by rfl, rfl⟩) (by assumption) ?_
                        try simp only [Act.put, List.setIfInBounds_toArray, List.set_cons_zero, List.set_cons_succ]
                        refine wpAnyH_take (i := 11) (oi := ⟨_, _, _, _, _, _⟩) (v := undef) rfl (by kernel_rfl) (by kernel_rfl) (by kernel_rfl) (fun _ _ _ h => h) (Or.inr ⟨by rfl, rfl⟩) (by assumption) ?_
                        try simp only [Act.put, List.setIfInBounds_toArray, List.set_cons_zero, List.set_cons_succ]
                        refine wpAnyH_take (i := 12) (oi := ⟨_, _, _, _, _, _⟩) (v := ?_) rfl (by kernel_rfl) (by kernel_rfl) (by kernel_rfl) (fun _ _ _ h => h) (Or.inl ⟨by rfl, ?_⟩) (by assumption) ?_
                        rotate_left
                        · intro w' hSw; (try dsimp only at hSw); go_simp; (try with_reducible rfl)
                        try simp only [Act.put, List.setIfInBounds_toArray, List.set_cons_zero, List.set_cons_succ]
                        refine wpAnyH_take (i := 13) (oi := ⟨_, _, _, _, _, _⟩) (v := ?_) rfl (by kernel_rfl) (by kernel_rfl) (by kernel_rfl) (fun _ _ _ h => h) (Or.inl ⟨by rfl, ?_⟩) (by assumption) ?_
                        rotate_left
                        · intro w' hSw; (try dsimp only at hSw); go_simp; (try with_reducible rfl)
                        try simp only [Act.put, List.setIfInBounds_toArray, List.set_cons_zero, List.set_cons_succ]
                        refine wpAnyH_take (i := 14) (oi := ⟨_, _, _, _, _, _⟩) (v := undef) rfl (by kernel_rfl) (by kernel_rfl) (by kernel_rfl) (fun _ _ _ h => h) (Or.inr ⟨by rfl, rfl⟩) (by assumption) ?_
                        try simp only [Act.put, List.setIfInBounds_toArray, List.set_cons_zero, List.set_cons_succ]
                        refine wpAnyH_take (i := 15) (oi := ⟨_, _, _, _, _, _⟩) (v := undef) rfl (by kernel_rfl) (by kernel_rfl) (by kernel_rfl) (fun _ _ _ h => h) (Or.inr ⟨by rfl, rfl⟩) (by assumption) ?_
                        try simp only [Act.put, List.setIfInBounds_toArray, List.set_cons_zero, List.set_cons_succ]
                        refine wpAnyH_take (i := 16) (oi := ⟨_, _, _, _, _, _⟩) (v := undef) rfl (by kernel_rfl) (by kernel_rfl) (by kernel_rfl) (fun _ _ _ h => h) (Or.inr ⟨by rfl, rfl⟩) (by assumption) ?_
                        try simp only [Act.put, List.setIfInBounds_toArray, List.set_cons_zero, List.set_cons_succ]
                        refine wpAnyH_take (i := 17) (oi := ⟨_, _, _, _, _, _⟩) (v := undef) rfl (by kernel_rfl) (by kernel_rfl) (by kernel_rfl) (fun _ _ _ h => h) (Or.inr ⟨by rfl, rfl⟩) (by assumption) ?_
                        try simp only [Act.put, List.setIfInBounds_toArray, List.set_cons_zero, List.set_cons_succ]
                        refine wpAnyH_take (i := 18) (oi := ⟨_, _, _, _, _, _⟩) (v := undef) rfl (by kernel_rfl) (by kernel_rfl) (by kernel_rfl) (fun _ _ _ h => h) (Or.inr ⟨by rfl, rfl⟩) (by assumption) ?_
                        try simp only [Act.put, List.setIfInBounds_toArray, List.set_cons_zero, List.set_cons_succ]
                        refine wpAnyH_take (i := 19) (oi := ⟨_, _, _, _, _, _⟩) (v := undef) rfl (by kernel_rfl) (by kernel_rfl) (by kernel_rfl) (fun _ _ _ h => h) (Or.inr ⟨by rfl, rfl⟩) (by assumption) ?_
                        try simp only [Act.put, List.setIfInBounds_toArray, List.set_cons_zero, List.set_cons_succ]
                        refine wpAnyH_take (i := 20) (oi := ⟨_, _, _, _, _, _⟩) (v := undef) rfl (by kernel_rfl) (by kernel_rfl) (by kernel_rfl) (fun _ _ _ h => h) (Or.inr ⟨by rfl, rfl⟩) (by assumption) ?_
                        try simp only [Act.put, List.setIfInBounds_toArray, List.set_cons_zero, List.set_cons_succ]
                        refine wpAnyH_take (i := 21) (oi := ⟨_, _, _, _, _, _⟩) (v := undef) rfl (by kernel_rfl) (by kernel_rfl) (by kernel_rfl) (fun _ _ _ h => h) (Or.inr ⟨by rfl, rfl⟩) (by assumption) ?_
                        try simp only [Act.put, List.setIfInBounds_toArray, List.set_cons_zero, List.set_cons_succ]
                        refine wpAnyH_take (i := 22) (oi := ⟨_, _, _, _, _, _⟩) (v := ?_) rfl (by kernel_rfl) (by kernel_rfl) (by kernel_rfl) (fun _ _ _ h => h) (Or.inl ⟨by rfl, ?_⟩) (by assumption) ?_
                        rotate_left
                        · intro w' hSw; (try dsimp only at hSw); go_simp; (try with_reducible rfl)
                        try simp only [Act.put, List.setIfInBounds_toArray, List.set_cons_zero, List.set_cons_succ]
                        refine wpAnyH_take (i := 23) (oi := ⟨_, _, _, _, _, _⟩) (v := ?_) rfl (by kernel_rfl) (by kernel_rfl) (by kernel_rfl) (fun _ _ _ h => h) (Or.inl ⟨by rfl, ?_⟩) (by assumption) ?_
                        rotate_left
                        · intro w' hSw; (try dsimp only at hSw); go_simp; (try with_reducible rfl)
                        try simp only [Act.put, List.setIfInBounds_toArray, List.set_cons_zero, List.set_cons_succ]
                        refine wpAnyH_take (i := 24) (oi := ⟨_, _, _, _, _, _⟩) (v := ?_) rfl (by kernel_rfl) (by kernel_rfl) (by kernel_rfl) (fun _ _ _ h => h) (Or.inl ⟨by rfl, ?_⟩) (by assumption) ?_
                        rotate_left
                        · intro w' hSw; (try dsimp only at hSw); go_simp; (try with_reducible rfl)
                        try simp only [Act.put, List.setIfInBounds_toArray, List.set_cons_zero, List.set_cons_succ]
                        refine wpAnyH_take (i := 25) (oi := ⟨_, _, _, _, _, _⟩) (v := ?_) rfl (by kernel_rfl) (by kernel_rfl) (by kernel_rfl) (fun _ _ _ h => h) (Or.inl ⟨by rfl, ?_⟩) (by assumption) ?_
                        rotate_left
                        · intro w' hSw; (try dsimp only at hSw); go_simp; (try with_reducible rfl)
                        try simp only [Act.put, List.setIfInBounds_toArray, List.set_cons_zero, List.set_cons_succ]
                        refine wpAnyH_take (i := 26) (oi := ⟨_, _, _, _, _, _⟩) (v := ?_) rfl (by kernel_rfl) (by kernel_rfl) (by kernel_rfl) (fun _ _ _ h => h) (Or.inl ⟨by rfl, ?_⟩) (by assumption) ?_
                        rotate_left
                        · intro w' hSw; (try dsimp only at hSw); go_simp; (try with_reducible rfl)
                        try simp only [Act.put, List.setIfInBounds_toArray, List.set_cons_zero, List.set_cons_succ]
                        refine wpAnyH_take (i := 27) (oi := ⟨_, _, _, _, _, _⟩) (v := ?_) rfl (by kernel_rfl) (by kernel_rfl) (by kernel_rfl) (fun _ _ _ h => h) (Or.inl ⟨by rfl, ?_⟩) (by assumption) ?_
                        rotate_left
                        · intro w' hSw; (try dsimp only at hSw); go_simp; (try with_reducible rfl)
                        try simp only [Act.put, List.setIfInBounds_toArray, List.set_cons_zero, List.set_cons_succ]
                        refine wpAnyH_take (i := 28) (oi := ⟨_, _, _, _, _, _⟩) (v := ?_) rfl (by kernel_rfl) (by kernel_rfl) (by kernel_rfl) (fun _ _ _ h => h) (Or.inl ⟨by rfl, ?_⟩) (by assumption) ?_
                        rotate_left
                        · intro w' hSw; (try dsimp only at hSw); go_simp; (try with_reducible rfl)
                        try simp only [Act.put, List.setIfInBounds_toArray, List.set_cons_zero, List.set_cons_succ]
                        refine wpAnyH_take (i := 29) (oi := ⟨_, _, _, _, _, _⟩) (v := ?_) rfl (by kernel_rfl) (by kernel_rfl) (by kernel_rfl) (fun _ _ _ h => h) (Or.inl ⟨by rfl, ?_⟩) (by assumption) ?_
                        rotate_left
                        · intro w' hSw; (try dsimp only at hSw); go_simp; (try with_reducible rfl)
                        try simp only [Act.put, List.setIfInBounds_toArray, List.set_cons_zero, List.set_cons_succ]
                        refine wpAnyH_take (i := 30) (oi := ⟨_, _, _, _, _, _⟩) (v := ?_) rfl (by kernel_rfl) (by kernel_rfl) (by kernel_rfl) (fun _ _ _ h => h) (Or.inl ⟨by rfl, ?_⟩) (by assumption) ?_
                        rotate_left
                        · intro w' hSw; (try dsimp only at hSw); go_simp; (try with_reducible rfl)
                        try simp only [Act.put, List.setIfInBounds_toArray, List.set_cons_zero, List.set_cons_succ]
                        refine wpAnyH_take (i := 31) (oi := ⟨_, _, _, _, _, _⟩) (v := ?_) rfl (by kernel_rfl) (by kernel_rfl) (by kernel_rfl) (fun _ _ _ h => h) (Or.inl ⟨by rfl, ?_⟩) (by assumption) ?_
                        rotate_left
                        · intro w' hSw; (try dsimp only at hSw); go_simp; (try with_reducible rfl)
                        try simp only [Act.put, List.setIfInBounds_toArray, List.set_cons_zero, List.set_cons_succ]
                        refine wpAnyH_take (i := 32) (oi := ⟨_, _, _, _, _, _⟩) (v := ?_) rfl (by kernel_rfl) (by kernel_rfl) (by kernel_rfl) (fun _ _ _ h => h) (Or.inl ⟨by rfl, ?_⟩) (by assumption) ?_
                        rotate_left
                        · intro w' hSw; (try dsimp only at hSw); go_simp; (try with_reducible rfl)
                        try simp only [Act.put, List.setIfInBounds_toArray, List.set_cons_zero, List.set_cons_succ]
                        refine wpAnyH_take (i := 33) (oi := ⟨_, _, _, _, _, _⟩) (v := ?_) rfl (by kernel_rfl) (by kernel_rfl) (by kernel_rfl) (fun _ _ _ h => h) (Or.inl ⟨by rfl, ?_⟩) (by assumption) ?_
                        rotate_left
                        · intro w' hSw; (try dsimp only at hSw); go_simp; (try with_reducible rfl)
                        try simp only [Act.put, List.setIfInBounds_toArray, List.set_cons_zero, List.set_cons_succ]
                        refine wpAnyH_take (i := 34) (oi := ⟨_, _, _, _, _, _⟩) (v := ?_) rfl (by kernel_rfl) (by kernel_rfl) (by kernel_rfl) (fun _ _ _ h => h) (Or.inl ⟨by rfl, ?_⟩) (by assumption) ?_
                        rotate_left
                        · intro w' hSw; (try dsimp only at hSw); go_simp; (try with_reducible rfl)
                        try simp only [Act.put, List.setIfInBounds_toArray, List.set_cons_zero, List.set_cons_succ]
                        refine wpAnyH_take (i := 35) (oi := ⟨_, _, _, _, _, _⟩) (v := ?_) rfl (by kernel_rfl) (by kernel_rfl) (by kernel_rfl) (fun _ _ _ h => h) (Or.inl ⟨by rfl, ?_⟩) (by assumption) ?_
                        rotate_left
                        · intro w' hSw; (try dsimp only at hSw); go_simp; (try with_reducible rfl)
                        try simp only [Act.put, List.setIfInBounds_toArray, List.set_cons_zero, List.set_cons_succ]
                        refine wpAnyH_take (i := 36) (oi := ⟨_, _, _, _, _, _⟩) (v := ?_) rfl (by kernel_rfl) (by kernel_rfl) (by kernel_rfl) (fun _ _ _ h => h) (Or.inl ⟨by rfl, ?_⟩) (by assumption) ?_
                        rotate_left
                        · intro w' hSw; (try dsimp only at hSw); go_simp; (try with_reducible rfl)
                        try simp only [Act.put, List.setIfInBounds_toArray, List.set_cons_zero, List.set_cons_succ]
                        refine wpAnyH_take (i := 37) (oi := ⟨_, _, _, _, _, _⟩) (v := ?_) rfl (by kernel_rfl) (by kernel_rfl) (by kernel_rfl) (fun _ _ _ h => h) (Or.inl ⟨by rfl, ?_⟩) (by assumption) ?_
                        rotate_left
                        · intro w' hSw; (try dsimp only at hSw); go_simp; (try with_reducible rfl)
                        try simp only [Act.put, List.setIfInBounds_toArray, List.set_cons_zero, List.set_cons_succ]
                        refine wpAnyH_done (by kernel_rfl) ?_ _
                        clear hHeld
                        go_wp2_with fail
                        go_roundw
                        case rel => exact ⟨j + 1, a, by omega, by go_num, rfl, PF, EWD⟩
                        case measure => first | (simp [RowKit.intOf]; done) | (simp [RowKit.intOf]; omega)
                  · as_aux_lemma =>
                      have e2 : (x0 == 2) = false := by simp [ho2]
                      have PF := Lib.hid (PN.out (by simp [mt, ho1, ho2]))
                      clear ho1 ho2 PY PN
                      go_wp2_with fail
                      refine wp_region_held_drew (S := (fun w' => w'.cell? ⟨fb, 0, none⟩ = some (.int .i64 x0) ∧ w'.cell? ⟨fb, 1, none⟩ = some (.int .i64 x1) ∧ w'.cell? ⟨fb, 2, none⟩ = some (.string x2) ∧ w'.cell? ⟨fb, 3, none⟩ = some (.slice x3 x4.length x5) ∧ w'.cell? (rad.add (j * 3)) = some (.int .i64 y1) ∧ w'.cell? ⟨(rad.add (j * 3)).block, (rad.add (j * 3)).off + 1, none⟩ = some (.string y2) ∧ w'.cell? ⟨(rad.add (j * 3)).block, (rad.add (j * 3)).off + 2, none⟩ = some (.slice y3 y4.length y5))) (by kernel_rfl) (HS23.out _ D0.out) (fun hHeld => ?_)
                      refine wpAnyH_take (i := 0) (oi := ⟨_, _, _, _, _, _⟩) (v := ?_) rfl (by kernel_rfl) (by kernel_rfl) (by kernel_rfl) (fun _ _ _ h => h) (Or.inl ⟨by rfl, ?_⟩) (by assumption) ?_
                      rotate_left
                      · intro w' hSw; (try dsimp only at hSw); go_simp; (try with_reducible rfl)
                      try simp only [Act.put, List.setIfInBounds_toArray, List.set_cons_zero, List.set_cons_succ]
                      refine wpAnyH_take (i := 1) (oi := ⟨_, _, _, _, _, _⟩) (v := ?_) rfl (by kernel_rfl) (by kernel_rfl) (by kernel_rfl) (fun _ _ _ h => h) (Or.inl ⟨by rfl, ?_⟩) (by assumption) ?_
                      rotate_left
                      · intro w' hSw; (try dsimp only at hSw); go_simp; (try with_reducible rfl)
                      try simp only [Act.put, List.setIfInBounds_toArray, List.set_cons_zero, List.set_cons_succ]
                      refine wpAnyH_take (i := 2) (oi := ⟨_, _, _, _, _, _⟩) (v := ?_) rfl (by kernel_rfl) (by kernel_rfl) (by kernel_rfl) (fun _ _ _ h => h) (Or.inl ⟨by rfl, ?_⟩) (by assumption) ?_
                      rotate_left
                      · intro w' hSw; (try dsimp only at hSw); go_simp; (try with_reducible rfl)
                      try simp only [Act.put, List.setIfInBounds_toArray, List.set_cons_zero, List.set_cons_succ]
                      refine wpAnyH_take (i := 3) (oi := ⟨_, _, _, _, _, _⟩) (v := ?_) rfl (by kernel_rfl) (by kernel_rfl) (by kernel_rfl) (fun _ _ _ h => h) (Or.inl ⟨by rfl, ?_⟩) (by assumption) ?_
                      rotate_left
                      · intro w' hSw; (try dsimp only at hSw); go_simp; (try with_reducible rfl)
                      try simp only [Act.put, List.setIfInBounds_toArray, List.set_cons_zero, List.set_cons_succ]
                      refine wpAnyH_take (i := 4) (oi := ⟨_, _, _, _, _, _⟩) (v := undef) rfl (by kernel_rfl) (by kernel_rfl) (by kernel_rfl) (fun _ _ _ h => h) (Or.inr ⟨by rfl, rfl⟩) (by assumption) ?_
                      try simp only [Act.put, List.setIfInBounds_toArray, List.set_cons_zero, List.set_cons_succ]
                      refine wpAnyH_take (i := 5) (oi := ⟨_, _, _, _, _, _⟩) (v := undef) rfl (by kernel_rfl) (by kernel_rfl) (by kernel_rfl) (fun _ _ _ h => h) (Or.inr ⟨by rfl, rfl⟩) (by assumption) ?_
                      try simp only [Act.put, List.setIfInBounds_toArray, List.set_cons_zero, List.set_cons_succ]
                      refine wpAnyH_take (i := 6) (oi := ⟨_, _, _, _, _, _⟩) (v := undef) rfl (by kernel_rfl) (by kernel_rfl) (by kernel_rfl) (fun _ _ _ h => h) (Or.inr ⟨by rfl, rfl⟩) (by assumption) ?_
                      try simp only [Act.put, List.setIfInBounds_toArray, List.set_cons_zero, List.set_cons_succ]
                      refine wpAnyH_take (i := 7) (oi := ⟨_, _, _, _, _, _⟩) (v := undef) rfl (by kernel_rfl) (by kernel_rfl) (by kernel_rfl) (fun _ _ _ h => h) (Or.inr ⟨by rfl, rfl⟩) (by assumption) ?_
                      try simp only [Act.put, List.setIfInBounds_toArray, List.set_cons_zero, List.set_cons_succ]
                      refine wpAnyH_take (i := 8) (oi := ⟨_, _, _, _, _, _⟩) (v := undef) rfl (by kernel_rfl) (by kernel_rfl) (by kernel_rfl) (fun _ _ _ h => h) (Or.inr ⟨by rfl, rfl⟩) (by assumption) ?_
                      try simp only [Act.put, List.setIfInBounds_toArray, List.set_cons_zero, List.set_cons_succ]
                      refine wpAnyH_take (i := 9) (oi := ⟨_, _, _, _, _, _⟩) (v := undef) rfl (by kernel_rfl) (by kernel_rfl) (by kernel_rfl) (fun _ _ _ h => h) (Or.inr ⟨by rfl, rfl⟩) (by assumption) ?_
                      try simp only [Act.put, List.setIfInBounds_toArray, List.set_cons_zero, List.set_cons_succ]
                      refine wpAnyH_take (i := 10) (oi := ⟨_, _, _, _, _, _⟩) (v := undef) rfl (by kernel_rfl) (by kernel_rfl) (by kernel_rfl) (fun _ _ _ h => h) (Or.inr ⟨by rfl, rfl⟩) (by assumption) ?_
                      try simp only [Act.put, List.setIfInBounds_toArray, List.set_cons_zero, List.set_cons_succ]
                      refine wpAnyH_take (i := 11) (oi := ⟨_, _, _, _, _, _⟩) (v := undef) rfl (by kernel_rfl) (by kernel_rfl) (by kernel_rfl) (fun _ _ _ h => h) (Or.inr ⟨by rfl, rfl⟩) (by assumption) ?_
                      try simp only [Act.put, List.setIfInBounds_toArray, List.set_cons_zero, List.set_cons_succ]
                      refine wpAnyH_take (i := 12) (oi := ⟨_, _, _, _, _, _⟩) (v := ?_) rfl (by kernel_rfl) (by kernel_rfl) (by kernel_rfl) (fun _ _ _ h => h) (Or.inl ⟨by rfl, ?_⟩) (by assumption) ?_
                      rotate_left
                      · intro w' hSw; (try dsimp only at hSw); go_simp; (try with_reducible rfl)
                      try simp only [Act.put, List.setIfInBounds_toArray, List.set_cons_zero, List.set_cons_succ]
                      refine wpAnyH_take (i := 13) (oi := ⟨_, _, _, _, _, _⟩) (v := ?_) rfl (by kernel_rfl) (by kernel_rfl) (by kernel_rfl) (fun _ _ _ h => h) (Or.inl ⟨by rfl, ?_⟩) (by assumption) ?_
                      rotate_left
                      · intro w' hSw; (try dsimp only at hSw); go_simp; (try with_reducible rfl)
                      try simp only [Act.put, List.setIfInBounds_toArray, List.set_cons_zero, List.set_cons_succ]
                      refine wpAnyH_take (i := 14) (oi := ⟨_, _, _, _, _, _⟩) (v := undef) rfl (by kernel_rfl) (by kernel_rfl) (by kernel_rfl) (fun _ _ _ h => h) (Or.inr ⟨by rfl, rfl⟩) (by assumption) ?_
                      try simp only [Act.put, List.setIfInBounds_toArray, List.set_cons_zero, List.set_cons_succ]
                      refine wpAnyH_take (i := 15) (oi := ⟨_, _, _, _, _, _⟩) (v := undef) rfl (by kernel_rfl) (by kernel_rfl) (by kernel_rfl) (fun _ _ _ h => h) (Or.inr ⟨by rfl, rfl⟩) (by assumption) ?_
                      try simp only [Act.put, List.setIfInBounds_toArray, List.set_cons_zero, List.set_cons_succ]
                      refine wpAnyH_take (i := 16) (oi := ⟨_, _, _, _, _, _⟩) (v := undef) rfl (by kernel_rfl) (by kernel_rfl) (by kernel_rfl) (fun _ _ _ h => h) (Or.inr ⟨by rfl, rfl⟩) (by assumption) ?_
                      try simp only [Act.put, List.setIfInBounds_toArray, List.set_cons_zero, List.set_cons_succ]
                      refine wpAnyH_take (i := 17) (oi := ⟨_, _, _, _, _, _⟩) (v := undef) rfl (by kernel_rfl) (by kernel_rfl) (by kernel_rfl) (fun _ _ _ h => h) (Or.inr ⟨by rfl, rfl⟩) (by assumption) ?_
                      try simp only [Act.put, List.setIfInBounds_toArray, List.set_cons_zero, List.set_cons_succ]
                      refine wpAnyH_take (i := 18) (oi := ⟨_, _, _, _, _, _⟩) (v := undef) rfl (by kernel_rfl) (by kernel_rfl) (by kernel_rfl) (fun _ _ _ h => h) (Or.inr ⟨by rfl, rfl⟩) (by assumption) ?_
                      try simp only [Act.put, List.setIfInBounds_toArray, List.set_cons_zero, List.set_cons_succ]
                      refine wpAnyH_take (i := 19) (oi := ⟨_, _, _, _, _, _⟩) (v := undef) rfl (by kernel_rfl) (by kernel_rfl) (by kernel_rfl) (fun _ _ _ h => h) (Or.inr ⟨by rfl, rfl⟩) (by assumption) ?_
                      try simp only [Act.put, List.setIfInBounds_toArray, List.set_cons_zero, List.set_cons_succ]
                      refine wpAnyH_take (i := 20) (oi := ⟨_, _, _, _, _, _⟩) (v := undef) rfl (by kernel_rfl) (by kernel_rfl) (by kernel_rfl) (fun _ _ _ h => h) (Or.inr ⟨by rfl, rfl⟩) (by assumption) ?_
                      try simp only [Act.put, List.setIfInBounds_toArray, List.set_cons_zero, List.set_cons_succ]
                      refine wpAnyH_take (i := 21) (oi := ⟨_, _, _, _, _, _⟩) (v := undef) rfl (by kernel_rfl) (by kernel_rfl) (by kernel_rfl) (fun _ _ _ h => h) (Or.inr ⟨by rfl, rfl⟩) (by assumption) ?_
                      try simp only [Act.put, List.setIfInBounds_toArray, List.set_cons_zero, List.set_cons_succ]
                      refine wpAnyH_take (i := 22) (oi := ⟨_, _, _, _, _, _⟩) (v := ?_) rfl (by kernel_rfl) (by kernel_rfl) (by kernel_rfl) (fun _ _ _ h => h) (Or.inl ⟨by rfl, ?_⟩) (by assumption) ?_
                      rotate_left
                      · intro w' hSw; (try dsimp only at hSw); go_simp; (try with_reducible rfl)
                      try simp only [Act.put, List.setIfInBounds_toArray, List.set_cons_zero, List.set_cons_succ]
                      refine wpAnyH_take (i := 23) (oi := ⟨_, _, _, _, _, _⟩) (v := ?_) rfl (by kernel_rfl) (by kernel_rfl) (by kernel_rfl) (fun _ _ _ h => h) (Or.inl ⟨by rfl, ?_⟩) (by assumption) ?_
                      rotate_left
                      · intro w' hSw; (try dsimp only at hSw); go_simp; (try with_reducible rfl)
                      try simp only [Act.put, List.setIfInBounds_toArray, List.set_cons_zero, List.set_cons_succ]
                      refine wpAnyH_take (i := 24) (oi := ⟨_, _, _, _, _, _⟩) (v := ?_) rfl (by kernel_rfl) (by kernel_rfl) (by kernel_rfl) (fun _ _ _ h => h) (Or.inl ⟨by rfl, ?_⟩) (by assumption) ?_
                      rotate_left
                      · intro w' hSw; (try dsimp only at hSw); go_simp; (try with_reducible rfl)
                      try simp only [Act.put, List.setIfInBounds_toArray, List.set_cons_zero, List.set_cons_succ]
                      refine wpAnyH_take (i := 25) (oi := ⟨_, _, _, _, _, _⟩) (v := ?_) rfl (by kernel_rfl) (by kernel_rfl) (by kernel_rfl) (fun _ _ _ h => h) (Or.inl ⟨by rfl, ?_⟩) (by assumption) ?_
                      rotate_left
                      · intro w' hSw; (try dsimp only at hSw); go_simp; (try with_reducible rfl)
                      try simp only [Act.put, List.setIfInBounds_toArray, List.set_cons_zero, List.set_cons_succ]
                      refine wpAnyH_take (i := 26) (oi := ⟨_, _, _, _, _, _⟩) (v := ?_) rfl (by kernel_rfl) (by kernel_rfl) (by kernel_rfl) (fun _ _ _ h => h) (Or.inl ⟨by rfl, ?_⟩) (by assumption) ?_
                      rotate_left
                      · intro w' hSw; (try dsimp only at hSw); go_simp; (try with_reducible rfl)
                      try simp only [Act.put, List.setIfInBounds_toArray, List.set_cons_zero, List.set_cons_succ]
                      refine wpAnyH_take (i := 27) (oi := ⟨_, _, _, _, _, _⟩) (v := ?_) rfl (by kernel_rfl) (by kernel_rfl) (by kernel_rfl) (fun _ _ _ h => h) (Or.inl ⟨by rfl, ?_⟩) (by assumption) ?_
                      rotate_left
                      · intro w' hSw; (try dsimp only at hSw); go_simp; (try with_reducible rfl)
                      try simp only [Act.put, List.setIfInBounds_toArray, List.set_cons_zero, List.set_cons_succ]
                      refine wpAnyH_take (i := 28) (oi := ⟨_, _, _, _, _, _⟩) (v := undef) rfl (by kernel_rfl) (by kernel_rfl) (by kernel_rfl) (fun _ _ _ h => h) (Or.inr ⟨by rfl, rfl⟩) (by assumption) ?_
                      try simp only [Act.put, List.setIfInBounds_toArray, List.set_cons_zero, List.set_cons_succ]
                      refine wpAnyH_take (i := 29) (oi := ⟨_, _, _, _, _, _⟩) (v := undef) rfl (by kernel_rfl) (by kernel_rfl) (by kernel_rfl) (fun _ _ _ h => h) (Or.inr ⟨by rfl, rfl⟩) (by assumption) ?_
                      try simp only [Act.put, List.setIfInBounds_toArray, List.set_cons_zero, List.set_cons_succ]
                      refine wpAnyH_take (i := 30) (oi := ⟨_, _, _, _, _, _⟩) (v := undef) rfl (by kernel_rfl) (by kernel_rfl) (by kernel_rfl) (fun _ _ _ h => h) (Or.inr ⟨by rfl, rfl⟩) (by assumption) ?_
                      try simp only [Act.put, List.setIfInBounds_toArray, List.set_cons_zero, List.set_cons_succ]
                      refine wpAnyH_take (i := 31) (oi := ⟨_, _, _, _, _, _⟩) (v := undef) rfl (by kernel_rfl) (by kernel_rfl) (by kernel_rfl) (fun _ _ _ h => h) (Or.inr ⟨by rfl, rfl⟩) (by assumption) ?_
                      try simp only [Act.put, List.setIfInBounds_toArray, List.set_cons_zero, List.set_cons_succ]
                      refine wpAnyH_take (i := 32) (oi := ⟨_, _, _, _, _, _⟩) (v := undef) rfl (by kernel_rfl) (by kernel_rfl) (by kernel_rfl) (fun _ _ _ h => h) (Or.inr ⟨by rfl, rfl⟩) (by assumption) ?_
                      try simp only [Act.put, List.setIfInBounds_toArray, List.set_cons_zero, List.set_cons_succ]
                      refine wpAnyH_take (i := 33) (oi := ⟨_, _, _, _, _, _⟩) (v := undef) rfl (by kernel_rfl) (by kernel_rfl) (by kernel_rfl) (fun _ _ _ h => h) (Or.inr ⟨by rfl, rfl⟩) (by assumption) ?_
                      try simp only [Act.put, List.setIfInBounds_toArray, List.set_cons_zero, List.set_cons_succ]
                      refine wpAnyH_take (i := 34) (oi := ⟨_, _, _, _, _, _⟩) (v := undef) rfl (by kernel_rfl) (by kernel_rfl) (by kernel_rfl) (fun _ _ _ h => h) (Or.inr ⟨by rfl, rfl⟩) (by assumption) ?_
                      try simp only [Act.put, List.setIfInBounds_toArray, List.set_cons_zero, List.set_cons_succ]
                      refine wpAnyH_take (i := 35) (oi := ⟨_, _, _, _, _, _⟩) (v := undef) rfl (by kernel_rfl) (by kernel_rfl) (by kernel_rfl) (fun _ _ _ h => h) (Or.inr ⟨by rfl, rfl⟩) (by assumption) ?_
                      try simp only [Act.put, List.setIfInBounds_toArray, List.set_cons_zero, List.set_cons_succ]
                      refine wpAnyH_take (i := 36) (oi := ⟨_, _, _, _, _, _⟩) (v := ?_) rfl (by kernel_rfl) (by kernel_rfl) (by kernel_rfl) (fun _ _ _ h => h) (Or.inl ⟨by rfl, ?_⟩) (by assumption) ?_
                      rotate_left
                      · intro w' hSw; (try dsimp only at hSw); go_simp; (try with_reducible rfl)
                      try simp only [Act.put, List.setIfInBounds_toArray, List.set_cons_zero, List.set_cons_succ]
                      refine wpAnyH_take (i := 37) (oi := ⟨_, _, _, _, _, _⟩) (v := ?_) rfl (by kernel_rfl) (by kernel_rfl) (by kernel_rfl) (fun _ _ _ h => h) (Or.inl ⟨by rfl, ?_⟩) (by assumption) ?_
                      rotate_left
                      · intro w' hSw; (try dsimp only at hSw); go_simp; (try with_reducible rfl)
                      try simp only [Act.put, List.setIfInBounds_toArray, List.set_cons_zero, List.set_cons_succ]
                      refine wpAnyH_done (by kernel_rfl) ?_ _
                      clear hHeld
                      go_wp2_with fail
                      go_roundw
                      case rel => exact ⟨j + 1, a, by omega, by go_num, rfl, PF, EWD⟩
                      case measure => first | (simp [RowKit.intOf]; done) | (simp [RowKit.intOf]; omega)
              · obtain rfl : j = rs.length := by omega
                clear hj hjl
                have SW := Lib.hid (hSt.out.below EB.out)
                have hfc := keepB HB0.out hB2.out
                have d0 := block_cell (j := 0) hfc rfl
                have d1 := block_cell (j := 1) hfc rfl
                have d2 := block_cell (j := 2) hfc rfl
                have d3 := block_cell (j := 3) hfc rfl
                have HFC := Lib.hid (fun w' (h : Below wr.heap.size wr w') => keepB hfc h)
                have AV := Lib.hid (show ArgV (fun _ => False) wr x3 x5 x4 from ⟨RowsAt.below IN.out.row EWB.out, IN.out.nil, by omega, HOK.out⟩)
                have TW := Lib.hid (T1.out.b (SW.out.inv.below))
                have hts : x2.size ≤ 100000 := by omega
                clear hfc
                go_upto_block 6 with (fail)
                go_cut [3, 4, 5] (fun p v nxv wx => ∃ (g' : Nat) (F' : Nat → Prop) (T' : List Ft) (nx' : Int) (vo' : Value) (rs' : List Fs), p = .pointer (some ⟨g', 0, none⟩) ∧ vo' = v ∧ nxv = .int .i64 nx' ∧ T'.length ≤ k + 1 ∧ nx' ≤ (k : Int) + 1 + 1 ∧ 1 ≤ nx' ∧ Hid (St w1 g' F' T' nx' vo' rs' wx))
                case first =>
                  by_cases ho1 : x0 = 1
                  · subst ho1
                    rcases hAt.out with ⟨rfl, hno⟩ | ⟨j, hj, _, rfl, hm⟩
                    · as_aux_lemma =>
                        have HFO := Lib.hid (find_not SW.out (t := x2) (l := x4) (fun j hj => by have := hno j hj hj; simpa [mt] using this))
                        clear hno
                        go_wp2_with fail
                        refine (find_nil x2 hts x3 x5 x4 HFO.out SW.out.inv AV.out TW.out).mono ?_
                        rintro e q1 ⟨rfl, p1⟩
                        have P1 := Lib.hid p1
                        have d0 := block_cell (j := 0) (HFC.out _ p1) rfl
                        have d2 := block_cell (j := 2) (HFC.out _ p1) rfl
                        have d3 := block_cell (j := 3) (HFC.out _ p1) rfl
                        clear p1
                        go_wp2_with fail
                        have SW1 := Lib.hid (SW.out.below P1.out)
                        refine (assert_new x2 hts x3 x5 x4 HFO.out (by omega) (by omega) SW1.out.inv (AV.out.below P1.out) (T1.out.b SW1.out.inv.below)).mono ?_
                        rintro e q2 ⟨rfl, i2, k2⟩
                        obtain ⟨Fn, hFn⟩ : ∃ Fn : Nat → Prop, Fn = (fun k => F k ∨ (q1.heap.size ≤ k ∧ k < q2.heap.size)) := ⟨_, rfl⟩
                        rw [← hFn] at i2
                        have I2 := Lib.hid i2
                        have RK := Lib.hid (SW1.out.rowKeep (F' := Fn) k2 (fun k hk => by rw [hFn] at hk; exact hk.imp_right (fun h => h.1)))
                        clear hFn
                        obtain ⟨rA', rc', hvo, hr0, _, _, hrA⟩ := RK.out.1.rows (N := fun _ => False) fsc_len (by decide) (fun _ _ h => h)
                        obtain rfl : rA = rA' := by injection hvo
                        obtain rfl : rc = rc' := by injection hvo
                        have RW0 := Lib.hid hr0
                        have hq0 := HFC.out _ P1.out
                        have hfq := (k2.block fb (Array.getElem?_eq_some_iff.1 hq0).1 (fun hF => by have h1 := (hSt.out.inv.lt _ hF).2; have h2 := hfb'.out; omega)).trans hq0
                        have HFQ := Lib.hid (fun w' (h : Below q2.heap.size q2 w') => keepB hfq h)
                        have EQ2 := Lib.hid (E1.out.trans (I2.out.below.mono E1.out.size))
                        have RV := Lib.hid (show RowsAt v3 3 (fun _ => False) q2 x3 x4 from RowsAt.below IN.out.row EQ2.out)
                        have HRA := Lib.hid hrA
                        have hx3 : x3 = none → x5 = 0 := IN.out.nil
                        have HX3 := Lib.hid hx3
                        clear i2 k2 hvo hr0 hrA hx3 hq0 hfq d0 d2 d3
                        go_upto_region 32 with (fail)
                        go_cut [4] (fun v wx => ∃ (A' : Option Addr) (c' : Nat), Hid (St w1 g Fn (T ++ [(nx, x2, x4)]) (nx + 1) v (rs ++ [((nx, x2, x4), A', c')]) wx))
                        case rest =>
                          as_aux_lemma =>
                            obtain ⟨A', c', SN⟩ := hcut
                            obtain ⟨rA', rc', hvo', hrr', _, _⟩ := SN.out.row
                            have hln : (rs ++ [((nx, x2, x4), A', c')] : List Fs).length = rs.length + 1 := by simp
                            rw [hln] at hvo'
                            subst hvo'
                            obtain ⟨rad, rfl, _, r0c, _, _⟩ := fs_at hrr' (k := rs.length) (by omega)
                            have r0 : wc.cell? (rad.add (rs.length * 3)) = some (.int .i64 nx) := by simpa using r0c
                            clear hrr' r0c
                            go_wp2_with fail
                            go_meet
                            exact ⟨g, Fn, _, nx + 1, _, rs ++ [((nx, x2, x4), A', c')], rfl, by simp, by first | rfl | go_num, by simp; omega, by omega, by omega, SN⟩
                        case first =>
                          as_aux_lemma =>
                            obtain ⟨i0, hi, hz0, hz1, hz2⟩ := info_parts infoP
                            obtain ⟨iV, hiV, hv0, hv1, hv2⟩ := info_parts infoV
                            have HS := Lib.hid (show ∀ w', Below q2.heap.size q2 w' → w'.cell? ⟨fb, 2, none⟩ = some (.string x2) ∧ w'.cell? ⟨fb, 3, none⟩ = some (.slice x3 x4.length x5) from fun w' h => ⟨block_cell (HFQ.out _ h) rfl, block_cell (HFQ.out _ h) rfl⟩)
                            have E0q : Hid (Below q2.heap.size q2 q2.drew) := Lib.hid ⟨rfl, rfl, rfl, Nat.le_refl _, fun _ _ => rfl⟩
                            refine wp_region_held_drew (S := (fun w' => w'.cell? ⟨fb, 2, none⟩ = some (.string x2) ∧ w'.cell? ⟨fb, 3, none⟩ = some (.slice x3 x4.length x5))) (by kernel_rfl) (HS.out _ E0q.out) (fun hHeld => ?_)
                            refine wpAnyH_take (i := 1) (oi := ⟨_, _, _, _, _, _⟩) (v := ?_) rfl (by kernel_rfl) (by kernel_rfl) (by kernel_rfl) (fun _ _ _ h => h) (Or.inl ⟨by rfl, ?_⟩) (by assumption) ?_
                            rotate_left
                            · intro w' hSw; (try dsimp only at hSw); go_simp; (try with_reducible rfl)
                            try simp only [Act.put, List.setIfInBounds_toArray, List.set_cons_zero, List.set_cons_succ]
                            refine wpAnyH_take (i := 3) (oi := ⟨_, _, _, _, _, _⟩) (v := ?_) rfl (by kernel_rfl) (by kernel_rfl) (by kernel_rfl) (fun _ _ _ h => h) (Or.inl ⟨by rfl, ?_⟩) (by assumption) ?_
                            rotate_left
                            · intro w' hSw; (try dsimp only at hSw); go_simp; (try with_reducible rfl)
                            try simp only [Act.put, List.setIfInBounds_toArray, List.set_cons_zero, List.set_cons_succ]
                            refine wpAnyH_take (i := 4) (oi := ⟨_, _, _, _, _, _⟩) (v := ?_) rfl (by kernel_rfl) (by kernel_rfl) (by kernel_rfl) (fun _ _ _ h => h) (Or.inl ⟨by rfl, ?_⟩) (by assumption) ?_
                            rotate_left
                            · intro w' hSw; (try dsimp only at hSw); go_simp; (try with_reducible rfl)
                            try simp only [Act.put, List.setIfInBounds_toArray, List.set_cons_zero, List.set_cons_succ]
                            refine wpAnyH_take (i := 5) (oi := ⟨_, _, _, _, _, _⟩) (v := ?_) rfl (by kernel_rfl) (by kernel_rfl) (by kernel_rfl) (fun _ _ _ h => h) (Or.inl ⟨by rfl, ?_⟩) (by assumption) ?_
                            rotate_left
                            · intro w' hSw; (try dsimp only at hSw); go_simp; (try with_reducible rfl)
                            try simp only [Act.put, List.setIfInBounds_toArray, List.set_cons_zero, List.set_cons_succ]
                            refine wpAnyH_take (i := 7) (oi := ⟨_, _, _, _, _, _⟩) (v := ?_) rfl (by kernel_rfl) (by kernel_rfl) (by kernel_rfl) (fun _ _ _ h => h) (Or.inl ⟨by rfl, ?_⟩) (by assumption) ?_
                            rotate_left
                            · intro w' hSw; (try dsimp only at hSw); go_simp; (try with_reducible rfl)
                            try simp only [Act.put, List.setIfInBounds_toArray, List.set_cons_zero, List.set_cons_succ]
                            refine wpAnyH_take (i := 8) (oi := ⟨_, _, _, _, _, _⟩) (v := ?_) rfl (by kernel_rfl) (by kernel_rfl) (by kernel_rfl) (fun _ _ _ h => h) (Or.inl ⟨by rfl, ?_⟩) (by assumption) ?_
                            rotate_left
                            · intro w' hSw; (try dsimp only at hSw); go_simp; (try with_reducible rfl)
                            try simp only [Act.put, List.setIfInBounds_toArray, List.set_cons_zero, List.set_cons_succ]
                            refine wpAnyH_ready (rs := [0, 6]) (by kernel_rfl) (by simp) ?_
                            refine (AllReadyH.cons (o := ⟨_, _, _, _, _, _⟩) rfl (fun K9 hK9 => ?_) (AllReadyH.cons (o := ⟨_, _, _, _, _, _⟩) rfl (fun K9 hK9 => ?_) AllReadyH.nil))
                            · refine step_build0 rfl 38 rfl 43 i0 3 q2.heap.size Tryd.underlying38 hi E0q.out.size ?_
                              intro va p1 ho hb
                              have F1 := Lib.hid (E0q.out.trans (hb.mono E0q.out.size))
                              have OA := Lib.hid ho
                              clear ho hb
                              refine hK9.out _ _ (HS.out _ F1.out) (fun hHeld => ?_)
                              clear hK9 K9
                              try simp only [Act.put, List.setIfInBounds_toArray, List.set_cons_zero, List.set_cons_succ]
                              refine wpAnyH_ready (rs := [2, 6]) (by kernel_rfl) (by simp) ?_
                              refine (AllReadyH.cons (o := ⟨_, _, _, _, _, _⟩) rfl (fun K9 hK9 => ?_) (AllReadyH.cons (o := ⟨_, _, _, _, _, _⟩) rfl (fun K9 hK9 => ?_) AllReadyH.nil))
                              · refine step_append_ownN (f := fsc) fsc_len fsc_flat (by decide) rfl (.tmp 156) (.tmp 157) 38 rfl q2.heap.size 43 i0 zF 48 Tryd.underlying38 hi hz0 hz1 hz2 rfl va 0 [] rfl OA.out rA rc rs rs.length rfl HRA.out (RW0.out.below F1.out) rfl (by unfold maxLen; omega) (by omega) F1.out.size ?_
                                intro v2 q3 ho hg _
                                have F2 := Lib.hid (F1.out.grown hg F1.out.size (fun q hq => (OA.out.lt hq).1))
                                have O2 := Lib.hid ho
                                clear ho hg
                                refine hK9.out _ _ (HS.out _ F2.out) (fun hHeld => ?_)
                                clear hK9 K9
                                try simp only [Act.put, List.setIfInBounds_toArray, List.set_cons_zero, List.set_cons_succ]
                                refine wpAnyH_ready (rs := [6]) (by kernel_rfl) (by simp) ?_
                                refine (AllReadyH.cons (o := ⟨_, _, _, _, _, _⟩) rfl (fun K9 hK9 => ?_) AllReadyH.nil)
                                refine step_build0 rfl 31 rfl 29 iV 3 q2.heap.size Tryd.underlying31 hiV F2.out.size ?_
                                intro vb p3 ho hb
                                have O2 := Lib.hid (OwnW.below O2.out hb)
                                have F3 := Lib.hid (F2.out.trans (hb.mono F2.out.size))
                                have OB := Lib.hid ho
                                clear ho hb
                                refine hK9.out _ _ (HS.out _ F3.out) (fun hHeld => ?_)
                                clear hK9 K9
                                try simp only [Act.put, List.setIfInBounds_toArray, List.set_cons_zero, List.set_cons_succ]
                                refine wpAnyH_ready (rs := [9]) (by kernel_rfl) (by simp) ?_
                                refine (AllReadyH.cons (o := ⟨_, _, _, _, _, _⟩) rfl (fun K9 hK9 => ?_) AllReadyH.nil)
                                refine step_append_ownN (f := v3) v3_len v3_flat (by decide) rfl (.tmp 162) (.tmp 164) 31 rfl q2.heap.size 29 iV zV 32 Tryd.underlying31 hiV hv0 hv1 hv2 rfl vb 0 [] rfl OB.out x3 x5 x4 x4.length rfl HX3.out (RV.out.below F3.out) rfl (by unfold maxLen; omega) (by omega) F3.out.size ?_
                                intro v9 q4 ho hg _
                                have F4 := Lib.hid (F3.out.grown hg F3.out.size (fun q hq => (OB.out.lt hq).1))
                                have O2 := Lib.hid (OwnW.grown O2.out hg (OwnW.apart O2.out OB.out (by decide)))
                                have O9 := Lib.hid ho
                                clear ho hg
                                obtain ⟨A', c', ev, _, _, _, _⟩ := O9.out.rows (N := fun _ => False) v3_len (by decide) (fun _ _ h => h)
                                rw [List.nil_append] at ev
                                subst ev
                                have O9 : Hid (OwnW q4 q2.heap.size 29 3 (.slice A' x4.length c') x4.length (x4.flatMap v3)) := Lib.hid (by have h := O9.out; rw [Nat.zero_add, List.nil_append] at h; exact h)
                                refine hK9.out _ _ (HS.out _ F4.out) (fun hHeld => ?_)
                                clear hK9 K9
                                try simp only [Act.put, List.setIfInBounds_toArray, List.set_cons_zero, List.set_cons_succ]
                                refine wpAnyH_take (i := 10) (oi := ⟨_, _, _, _, _, _⟩) (v := ?_) rfl (by kernel_rfl) (by kernel_rfl) (by kernel_rfl) (fun _ _ _ h => h) (Or.inl ⟨by rfl, ?_⟩) (by assumption) ?_
                                rotate_left
                                · intro w' hSw; (try dsimp only at hSw); go_simp; (try with_reducible rfl)
                                try simp only [Act.put, List.setIfInBounds_toArray, List.set_cons_zero, List.set_cons_succ]
                                refine wpAnyH_ready (rs := [11]) (by kernel_rfl) (by simp) ?_
                                refine AllReadyH.cons (o := ⟨_, _, _, _, _, _⟩) rfl (fun K9 hK9 => ?_) AllReadyH.nil
                                go_simp
                                have O2 := Lib.hid (OwnW.below O2.out ((Below.refl _ _).alloc (Nat.le_refl _) (.cells #[.int .i64 nx, .string x2, .slice A' x4.length c'] 43) : Below q4.heap.size q4 (q4.alloc (.cells #[.int .i64 nx, .string x2, .slice A' x4.length c'] 43))))
                                have O9 := Lib.hid (OwnW.below O9.out ((Below.refl _ _).alloc (Nat.le_refl _) (.cells #[.int .i64 nx, .string x2, .slice A' x4.length c'] 43) : Below q4.heap.size q4 (q4.alloc (.cells #[.int .i64 nx, .string x2, .slice A' x4.length c'] 43))))
                                have F8 := Lib.hid (F4.out.alloc F4.out.size (.cells #[.int .i64 nx, .string x2, .slice A' x4.length c'] 43))
                                have R11 : Hid (RowsAt fsc 3 (fun _ => False) (q4.alloc (.cells #[.int .i64 nx, .string x2, .slice A' x4.length c'] 43)) (some ⟨q4.heap.size, 0, none⟩) [((nx, x2, x4), A', c')]) := Lib.hid (new_one q4 ((nx, x2, x4), A', c') 43 (fun h => h))
                                refine hK9.out _ _ (HS.out _ F8.out) (fun hHeld => ?_)
                                clear hK9 K9
                                try simp only [Act.put, List.setIfInBounds_toArray, List.set_cons_zero, List.set_cons_succ]
                                refine wpAnyH_ready (rs := [12]) (by kernel_rfl) (by simp) ?_
                                refine AllReadyH.cons (o := ⟨_, _, _, _, _, _⟩) rfl (fun K9 hK9 => ?_) AllReadyH.nil
                                refine step_append_ownN (f := fsc) fsc_len fsc_flat (by decide) rfl (.tmp 158) (.tmp 167) 38 rfl q2.heap.size 43 i0 zF 48 Tryd.underlying38 hi hz0 hz1 hz2 rfl v2 (0 + rs.length) ([] ++ rs) rfl O2.out (some ⟨q4.heap.size, 0, none⟩) 1 [((nx, x2, x4), A', c')] 1 rfl (fun h => by cases h) R11.out rfl (by unfold maxLen; omega) (by omega) F8.out.size ?_
                                intro v12 q5 ho hg _
                                have F9 := Lib.hid (F8.out.grown hg F8.out.size (fun q hq => (O2.out.lt hq).1))
                                have O9 := Lib.hid (OwnW.grown O9.out hg (OwnW.apart O9.out O2.out (by decide)))
                                have O12 := Lib.hid ho
                                clear ho hg
                                refine hK9.out _ _ (HS.out _ F9.out) (fun hHeld => ?_)
                                clear hK9 K9
                                try simp only [Act.put, List.setIfInBounds_toArray, List.set_cons_zero, List.set_cons_succ]
                                refine wpAnyH_take (i := 13) (oi := ⟨_, _, _, _, _, _⟩) (v := ?_) rfl (by kernel_rfl) (by kernel_rfl) (by kernel_rfl) (fun _ _ _ h => h) (Or.inl ⟨by rfl, ?_⟩) (by assumption) ?_
                                rotate_left
                                · intro w' hSw; (try dsimp only at hSw); go_simp; (try with_reducible rfl)
                                try simp only [Act.put, List.setIfInBounds_toArray, List.set_cons_zero, List.set_cons_succ]
                                refine wpAnyH_done (by kernel_rfl) ?_ _
                                clear hHeld
                                go_wp2_with fail
                                go_meet
                                exact ⟨A', c', Lib.hid (new_st I2.out SW.out.eq RK.out F9.out O12.out O9.out (by omega) HOK.out hts)⟩
                              · refine step_build0 rfl 31 rfl 29 iV 3 q2.heap.size Tryd.underlying31 hiV F1.out.size ?_
                                intro vb p2 ho hb
                                have OA := Lib.hid (OwnW.below OA.out hb)
                                have F2 := Lib.hid (F1.out.trans (hb.mono F1.out.size))
                                have OB := Lib.hid ho
                                clear ho hb
                                refine hK9.out _ _ (HS.out _ F2.out) (fun hHeld => ?_)
                                clear hK9 K9
                                try simp only [Act.put, List.setIfInBounds_toArray, List.set_cons_zero, List.set_cons_succ]
                                refine wpAnyH_ready (rs := [2]) (by kernel_rfl) (by simp) ?_
                                refine (AllReadyH.cons (o := ⟨_, _, _, _, _, _⟩) rfl (fun K9 hK9 => ?_) AllReadyH.nil)
                                refine step_append_ownN (f := fsc) fsc_len fsc_flat (by decide) rfl (.tmp 156) (.tmp 157) 38 rfl q2.heap.size 43 i0 zF 48 Tryd.underlying38 hi hz0 hz1 hz2 rfl va 0 [] rfl OA.out rA rc rs rs.length rfl HRA.out (RW0.out.below F2.out) rfl (by unfold maxLen; omega) (by omega) F2.out.size ?_
                                intro v2 q3 ho hg _
                                have F3 := Lib.hid (F2.out.grown hg F2.out.size (fun q hq => (OA.out.lt hq).1))
                                have OB := Lib.hid (OwnW.grown OB.out hg (OwnW.apart OB.out OA.out (by decide)))
                                have O2 := Lib.hid ho
                                clear ho hg
                                refine hK9.out _ _ (HS.out _ F3.out) (fun hHeld => ?_)
                                clear hK9 K9
                                try simp only [Act.put, List.setIfInBounds_toArray, List.set_cons_zero, List.set_cons_succ]
                                refine wpAnyH_ready (rs := [9]) (by kernel_rfl) (by simp) ?_
                                refine (AllReadyH.cons (o := ⟨_, _, _, _, _, _⟩) rfl (fun K9 hK9 => ?_) AllReadyH.nil)
                                refine step_append_ownN (f := v3) v3_len v3_flat (by decide) rfl (.tmp 162) (.tmp 164) 31 rfl q2.heap.size 29 iV zV 32 Tryd.underlying31 hiV hv0 hv1 hv2 rfl vb 0 [] rfl OB.out x3 x5 x4 x4.length rfl HX3.out (RV.out.below F3.out) rfl (by unfold maxLen; omega) (by omega) F3.out.size ?_
                                intro v9 q4 ho hg _
                                have F4 := Lib.hid (F3.out.grown hg F3.out.size (fun q hq => (OB.out.lt hq).1))
                                have O2 := Lib.hid (OwnW.grown O2.out hg (OwnW.apart O2.out OB.out (by decide)))
                                have O9 := Lib.hid ho
                                clear ho hg
                                obtain ⟨A', c', ev, _, _, _, _⟩ := O9.out.rows (N := fun _ => False) v3_len (by decide) (fun _ _ h => h)
                                rw [List.nil_append] at ev
                                subst ev
                                have O9 : Hid (OwnW q4 q2.heap.size 29 3 (.slice A' x4.length c') x4.length (x4.flatMap v3)) := Lib.hid (by have h := O9.out; rw [Nat.zero_add, List.nil_append] at h; exact h)
                                refine hK9.out _ _ (HS.out _ F4.out) (fun hHeld => ?_)
                                clear hK9 K9
                                try simp only [Act.put, List.setIfInBounds_toArray, List.set_cons_zero, List.set_cons_succ]
                                refine wpAnyH_take (i := 10) (oi := ⟨_, _, _, _, _, _⟩) (v := ?_) rfl (by kernel_rfl) (by kernel_rfl) (by kernel_rfl) (fun _ _ _ h => h) (Or.inl ⟨by rfl, ?_⟩) (by assumption) ?_
                                rotate_left
                                · intro w' hSw; (try dsimp only at hSw); go_simp; (try with_reducible rfl)
                                try simp only [Act.put, List.setIfInBounds_toArray, List.set_cons_zero, List.set_cons_succ]
                                refine wpAnyH_ready (rs := [11]) (by kernel_rfl) (by simp) ?_
                                refine AllReadyH.cons (o := ⟨_, _, _, _, _, _⟩) rfl (fun K9 hK9 => ?_) AllReadyH.nil
                                go_simp
                                have O2 := Lib.hid (OwnW.below O2.out ((Below.refl _ _).alloc (Nat.le_refl _) (.cells #[.int .i64 nx, .string x2, .slice A' x4.length c'] 43) : Below q4.heap.size q4 (q4.alloc (.cells #[.int .i64 nx, .string x2, .slice A' x4.length c'] 43))))
                                have O9 := Lib.hid (OwnW.below O9.out ((Below.refl _ _).alloc (Nat.le_refl _) (.cells #[.int .i64 nx, .string x2, .slice A' x4.length c'] 43) : Below q4.heap.size q4 (q4.alloc (.cells #[.int .i64 nx, .string x2, .slice A' x4.length c'] 43))))
                                have F8 := Lib.hid (F4.out.alloc F4.out.size (.cells #[.int .i64 nx, .string x2, .slice A' x4.length c'] 43))
                                have R11 : Hid (RowsAt fsc 3 (fun _ => False) (q4.alloc (.cells #[.int .i64 nx, .string x2, .slice A' x4.length c'] 43)) (some ⟨q4.heap.size, 0, none⟩) [((nx, x2, x4), A', c')]) := Lib.hid (new_one q4 ((nx, x2, x4), A', c') 43 (fun h => h))
                                refine hK9.out _ _ (HS.out _ F8.out) (fun hHeld => ?_)
                                clear hK9 K9
                                try simp only [Act.put, List.setIfInBounds_toArray, List.set_cons_zero, List.set_cons_succ]
                                refine wpAnyH_ready (rs := [12]) (by kernel_rfl) (by simp) ?_
                                refine AllReadyH.cons (o := ⟨_, _, _, _, _, _⟩) rfl (fun K9 hK9 => ?_) AllReadyH.nil
                                refine step_append_ownN (f := fsc) fsc_len fsc_flat (by decide) rfl (.tmp 158) (.tmp 167) 38 rfl q2.heap.size 43 i0 zF 48 Tryd.underlying38 hi hz0 hz1 hz2 rfl v2 (0 + rs.length) ([] ++ rs) rfl O2.out (some ⟨q4.heap.size, 0, none⟩) 1 [((nx, x2, x4), A', c')] 1 rfl (fun h => by cases h) R11.out rfl (by unfold maxLen; omega) (by omega) F8.out.size ?_
                                intro v12 q5 ho hg _
                                have F9 := Lib.hid (F8.out.grown hg F8.out.size (fun q hq => (O2.out.lt hq).1))
                                have O9 := Lib.hid (OwnW.grown O9.out hg (OwnW.apart O9.out O2.out (by decide)))
                                have O12 := Lib.hid ho
                                clear ho hg
                                refine hK9.out _ _ (HS.out _ F9.out) (fun hHeld => ?_)
                                clear hK9 K9
                                try simp only [Act.put, List.setIfInBounds_toArray, List.set_cons_zero, List.set_cons_succ]
                                refine wpAnyH_take (i := 13) (oi := ⟨_, _, _, _, _, _⟩) (v := ?_) rfl (by kernel_rfl) (by kernel_rfl) (by kernel_rfl) (fun _ _ _ h => h) (Or.inl ⟨by rfl, ?_⟩) (by assumption) ?_
                                rotate_left
                                · intro w' hSw; (try dsimp only at hSw); go_simp; (try with_reducible rfl)
                                try simp only [Act.put, List.setIfInBounds_toArray, List.set_cons_zero, List.set_cons_succ]
                                refine wpAnyH_done (by kernel_rfl) ?_ _
                                clear hHeld
                                go_wp2_with fail
                                go_meet
                                exact ⟨A', c', Lib.hid (new_st I2.out SW.out.eq RK.out F9.out O12.out O9.out (by omega) HOK.out hts)⟩
                            · refine step_build0 rfl 31 rfl 29 iV 3 q2.heap.size Tryd.underlying31 hiV E0q.out.size ?_
                              intro vb p1 ho hb
                              have F1 := Lib.hid (E0q.out.trans (hb.mono E0q.out.size))
                              have OB := Lib.hid ho
                              clear ho hb
                              refine hK9.out _ _ (HS.out _ F1.out) (fun hHeld => ?_)
                              clear hK9 K9
                              try simp only [Act.put, List.setIfInBounds_toArray, List.set_cons_zero, List.set_cons_succ]
                              refine wpAnyH_ready (rs := [0]) (by kernel_rfl) (by simp) ?_
                              refine (AllReadyH.cons (o := ⟨_, _, _, _, _, _⟩) rfl (fun K9 hK9 => ?_) AllReadyH.nil)
                              refine step_build0 rfl 38 rfl 43 i0 3 q2.heap.size Tryd.underlying38 hi F1.out.size ?_
                              intro va p2 ho hb
                              have OB := Lib.hid (OwnW.below OB.out hb)
                              have F2 := Lib.hid (F1.out.trans (hb.mono F1.out.size))
                              have OA := Lib.hid ho
                              clear ho hb
                              refine hK9.out _ _ (HS.out _ F2.out) (fun hHeld => ?_)
                              clear hK9 K9
                              try simp only [Act.put, List.setIfInBounds_toArray, List.set_cons_zero, List.set_cons_succ]
                              refine wpAnyH_ready (rs := [2]) (by kernel_rfl) (by simp) ?_
                              refine (AllReadyH.cons (o := ⟨_, _, _, _, _, _⟩) rfl (fun K9 hK9 => ?_) AllReadyH.nil)
                              refine step_append_ownN (f := fsc) fsc_len fsc_flat (by decide) rfl (.tmp 156) (.tmp 157) 38 rfl q2.heap.size 43 i0 zF 48 Tryd.underlying38 hi hz0 hz1 hz2 rfl va 0 [] rfl OA.out rA rc rs rs.length rfl HRA.out (RW0.out.below F2.out) rfl (by unfold maxLen; omega) (by omega) F2.out.size ?_
                              intro v2 q3 ho hg _
                              have F3 := Lib.hid (F2.out.grown hg F2.out.size (fun q hq => (OA.out.lt hq).1))
                              have OB := Lib.hid (OwnW.grown OB.out hg (OwnW.apart OB.out OA.out (by decide)))
                              have O2 := Lib.hid ho
                              clear ho hg
                              refine hK9.out _ _ (HS.out _ F3.out) (fun hHeld => ?_)
                              clear hK9 K9
                              try simp only [Act.put, List.setIfInBounds_toArray, List.set_cons_zero, List.set_cons_succ]
                              refine wpAnyH_ready (rs := [9]) (by kernel_rfl) (by simp) ?_
                              refine (AllReadyH.cons (o := ⟨_, _, _, _, _, _⟩) rfl (fun K9 hK9 => ?_) AllReadyH.nil)
                              refine step_append_ownN (f := v3) v3_len v3_flat (by decide) rfl (.tmp 162) (.tmp 164) 31 rfl q2.heap.size 29 iV zV 32 Tryd.underlying31 hiV hv0 hv1 hv2 rfl vb 0 [] rfl OB.out x3 x5 x4 x4.length rfl HX3.out (RV.out.below F3.out) rfl (by unfold maxLen; omega) (by omega) F3.out.size ?_
                              intro v9 q4 ho hg _
                              have F4 := Lib.hid (F3.out.grown hg F3.out.size (fun q hq => (OB.out.lt hq).1))
                              have O2 := Lib.hid (OwnW.grown O2.out hg (OwnW.apart O2.out OB.out (by decide)))
                              have O9 := Lib.hid ho
                              clear ho hg
                              obtain ⟨A', c', ev, _, _, _, _⟩ := O9.out.rows (N := fun _ => False) v3_len (by decide) (fun _ _ h => h)
                              rw [List.nil_append] at ev
                              subst ev
                              have O9 : Hid (OwnW q4 q2.heap.size 29 3 (.slice A' x4.length c') x4.length (x4.flatMap v3)) := Lib.hid (by have h := O9.out; rw [Nat.zero_add, List.nil_append] at h; exact h)
                              refine hK9.out _ _ (HS.out _ F4.out) (fun hHeld => ?_)
                              clear hK9 K9
                              try simp only [Act.put, List.setIfInBounds_toArray, List.set_cons_zero, List.set_cons_succ]
                              refine wpAnyH_take (i := 10) (oi := ⟨_, _, _, _, _, _⟩) (v := ?_) rfl (by kernel_rfl) (by kernel_rfl) (by kernel_rfl) (fun _ _ _ h => h) (Or.inl ⟨by rfl, ?_⟩) (by assumption) ?_
                              rotate_left
                              · intro w' hSw; (try dsimp only at hSw); go_simp; (try with_reducible rfl)
                              try simp only [Act.put, List.setIfInBounds_toArray, List.set_cons_zero, List.set_cons_succ]
                              refine wpAnyH_ready (rs := [11]) (by kernel_rfl) (by simp) ?_
                              refine AllReadyH.cons (o := ⟨_, _, _, _, _, _⟩) rfl (fun K9 hK9 => ?_) AllReadyH.nil
                              go_simp
                              have O2 := Lib.hid (OwnW.below O2.out ((Below.refl _ _).alloc (Nat.le_refl _) (.cells #[.int .i64 nx, .string x2, .slice A' x4.length c'] 43) : Below q4.heap.size q4 (q4.alloc (.cells #[.int .i64 nx, .string x2, .slice A' x4.length c'] 43))))
                              have O9 := Lib.hid (OwnW.below O9.out ((Below.refl _ _).alloc (Nat.le_refl _) (.cells #[.int .i64 nx, .string x2, .slice A' x4.length c'] 43) : Below q4.heap.size q4 (q4.alloc (.cells #[.int .i64 nx, .string x2, .slice A' x4.length c'] 43))))
                              have F8 := Lib.hid (F4.out.alloc F4.out.size (.cells #[.int .i64 nx, .string x2, .slice A' x4.length c'] 43))
                              have R11 : Hid (RowsAt fsc 3 (fun _ => False) (q4.alloc (.cells #[.int .i64 nx, .string x2, .slice A' x4.length c'] 43)) (some ⟨q4.heap.size, 0, none⟩) [((nx, x2, x4), A', c')]) := Lib.hid (new_one q4 ((nx, x2, x4), A', c') 43 (fun h => h))
                              refine hK9.out _ _ (HS.out _ F8.out) (fun hHeld => ?_)
                              clear hK9 K9
                              try simp only [Act.put, List.setIfInBounds_toArray, List.set_cons_zero, List.set_cons_succ]
                              refine wpAnyH_ready (rs := [12]) (by kernel_rfl) (by simp) ?_
                              refine AllReadyH.cons (o := ⟨_, _, _, _, _, _⟩) rfl (fun K9 hK9 => ?_) AllReadyH.nil
                              refine step_append_ownN (f := fsc) fsc_len fsc_flat (by decide) rfl (.tmp 158) (.tmp 167) 38 rfl q2.heap.size 43 i0 zF 48 Tryd.underlying38 hi hz0 hz1 hz2 rfl v2 (0 + rs.length) ([] ++ rs) rfl O2.out (some ⟨q4.heap.size, 0, none⟩) 1 [((nx, x2, x4), A', c')] 1 rfl (fun h => by cases h) R11.out rfl (by unfold maxLen; omega) (by omega) F8.out.size ?_
                              intro v12 q5 ho hg _
                              have F9 := Lib.hid (F8.out.grown hg F8.out.size (fun q hq => (O2.out.lt hq).1))
                              have O9 := Lib.hid (OwnW.grown O9.out hg (OwnW.apart O9.out O2.out (by decide)))
                              have O12 := Lib.hid ho
                              clear ho hg
                              refine hK9.out _ _ (HS.out _ F9.out) (fun hHeld => ?_)
                              clear hK9 K9
                              try simp only [Act.put, List.setIfInBounds_toArray, List.set_cons_zero, List.set_cons_succ]
                              refine wpAnyH_take (i := 13) (oi := ⟨_, _, _, _, _, _⟩) (v := ?_) rfl (by kernel_rfl) (by kernel_rfl) (by kernel_rfl) (fun _ _ _ h => h) (Or.inl ⟨by rfl, ?_⟩) (by assumption) ?_
                              rotate_left
                              · intro w' hSw; (try dsimp only at hSw); go_simp; (try with_reducible rfl)
                              try simp only [Act.put, List.setIfInBounds_toArray, List.set_cons_zero, List.set_cons_succ]
                              refine wpAnyH_done (by kernel_rfl) ?_ _
                              clear hHeld
                              go_wp2_with fail
                              go_meet
                              exact ⟨A', c', Lib.hid (new_st I2.out SW.out.eq RK.out F9.out O12.out O9.out (by omega) HOK.out hts)⟩
                    · as_aux_lemma =>
                        have hm2 : rs[j].1.2.1 = x2 ∧ rs[j].1.2.2 = x4 := by simpa [mt] using hm
                        have HFO := Lib.hid (find_at SW.out hj hm2.1 hm2.2)
                        obtain ⟨rA', rc', hvo, hrr, _, _⟩ := SW.out.row
                        obtain rfl : rA = rA' := by injection hvo
                        obtain ⟨rad, rfl, _, r0c, _, _⟩ := fs_at hrr hj
                        have hjI : (j : Int) < (rs.length : Int) := by omega
                        generalize rs[j].1.1 = y1 at *
                        have HR0 := Lib.hid (fun w' (h : Below wr.heap.size wr w') => (h.cell (World.block_lt_of_cell? _ _ r0c)).trans r0c)
                        clear hm hm2 hvo hrr r0c
                        go_wp2_with fail
                        refine (find_some x2 hts x3 x5 x4 y1 HFO.out SW.out.inv AV.out TW.out).mono ?_
                        rintro e q1 ⟨rfl, p1⟩
                        have P1 := Lib.hid p1
                        have d0 := block_cell (j := 0) (HFC.out _ p1) rfl
                        have d2 := block_cell (j := 2) (HFC.out _ p1) rfl
                        have d3 := block_cell (j := 3) (HFC.out _ p1) rfl
                        clear p1
                        go_wp2_with fail
                        refine (assert_old x2 hts x3 x5 x4 y1 HFO.out (SW.out.below P1.out).inv (AV.out.below P1.out) (T1.out.b (SW.out.below P1.out).inv.below)).mono ?_
                        rintro e q2 ⟨rfl, p2⟩
                        have P2 := Lib.hid (P1.out.trans (p2.mono P1.out.size))
                        have r0 := HR0.out _ P2.out
                        have SN := Lib.hid (SW.out.below P2.out)
                        clear p2 d0 d2 d3
                        go_wp2_with fail
                        go_meet
                        exact ⟨g, F, T, nx, _, rs, rfl, rfl, rfl, by omega, by omega, by omega, SN⟩
                  · have e1 : (x0 == 1) = false := by simp [ho1]
                    by_cases ho2 : x0 = 2
                    · subst ho2
                      rcases hAt.out with ⟨rfl, hno⟩ | ⟨j, hj, _, rfl, hm⟩
                      · as_aux_lemma =>
                          have HNO := Lib.hid (show ∀ t ∈ T, t.1 ≠ x1 from fun t ht => by
                            rw [← hSt.out.eq] at ht
                            obtain ⟨y, hy, rfl⟩ := List.mem_map.1 ht
                            obtain ⟨i, hi, rfl⟩ := List.getElem_of_mem hy
                            have := hno i hi hi
                            simpa [mt] using this)
                          clear hno ho1
                          go_wp2_with fail
                          refine (retract_no x1 SW.out.inv HNO.out).mono ?_
                          rintro e q1 ⟨rfl, p1⟩
                          have SN := Lib.hid (SW.out.below p1)
                          clear p1
                          go_wp2_with fail
                          go_meet
                          exact ⟨g, F, T, nx, _, rs, rfl, rfl, rfl, by omega, by omega, by omega, SN⟩
                      · as_aux_lemma =>
                          have hm2 : rs[j].1.1 = x1 := by simpa [mt] using hm
                          have HGN := Lib.hid (gone_at SW.out hj)
                          rw [hm2] at HGN
                          have HYE := Lib.hid (show ∃ t ∈ T, t.1 = x1 from ⟨rs[j].1, by rw [← hSt.out.eq]; exact List.mem_map.2 ⟨_, List.getElem_mem hj, rfl⟩, hm2⟩)
                          obtain ⟨i0, hi, hz0, hz1, hz2⟩ := info_parts infoP
                          rcases SW.out.own.2 with ⟨_, h2⟩ | ⟨gr, cap, cur, ev, hBr, hgr, hnr, hcr, _, htr⟩
                          · omega
                          obtain rfl : rA = some ⟨gr, 0, none⟩ := by injection ev
                          obtain rfl : rc = cap := by injection ev
                          have hjI : (j : Int) < (rs.length : Int) := by omega
                          have hncI : (rs.length : Int) ≤ (rc : Int) := by omega
                          have hrc : (rc : Int) ≤ 9223372036854775807 := by unfold maxLen at hcr; omega
                          have hjl := Lib.hid hj
                          clear hm hm2 ev hgr htr ho1 hcr hj
                          go_wp2_with fail
                          refine (retract_yes x1 SW.out.inv HYE.out TW.out).mono ?_
                          rintro e q1 ⟨rfl, i1, k1⟩
                          have I1 := Lib.hid i1
                          have RK := Lib.hid (SW.out.rowKeep k1 (fun k hk => .inl hk))
                          have RW0 := Lib.hid (show RowsAt fsc 3 (fun _ => False) q1 (some ⟨gr, 0, none⟩) rs by
                            obtain ⟨A', c', e, hr, _, _, _⟩ := RK.out.1.rows (N := fun _ => False) fsc_len (by decide) (fun _ _ h => h)
                            obtain rfl : some ⟨gr, 0, none⟩ = A' := by injection e
                            exact hr)
                          have DQ : Hid (Below q1.heap.size q1 q1.drew) := Lib.hid ⟨rfl, rfl, rfl, Nat.le_refl _, fun _ _ => rfl⟩
                          have DE := Lib.hid (DQ.out.alloc DQ.out.size (.cells #[] 43))
                          have OE := Lib.hid (OwnW.of (World.ownsRow_made q1.drew #[] (e := 43) (size := 3) (base := q1.heap.size) 0 (Nat.le_refl _) (by unfold maxLen; omega) rfl))
                          have RT := Lib.hid (rows_take (RW0.out.below DE.out) j)
                          have hlt1 := Lib.hid (show (rs.take j).length = j by rw [List.length_take]; have := hjl.out; omega)
                          have hld1 := Lib.hid (show (rs.drop (j + 1)).length = rs.length - (j + 1) by rw [List.length_drop])
                          have hjn : j < rs.length := hjl.out
                          have hw1 : IntKind.i64.wrap ((j : Int) + 1) = ((j + 1 : Nat) : Int) := by first | (rw [IntWalk.i64_in _ (by omega)]; omega) | (simp [IntKind.wrap, IntKind.bits, IntKind.signed]; omega)
                          have hw2 : ((j : Int) + 1).toNat = j + 1 := by omega
                          obtain ⟨A9, HA9⟩ : ∃ A9 : Option Addr, Hid (A9 = (if rc = j + 1 then some ⟨gr, 0, none⟩ else some ⟨gr, (j + 1) * 3, none⟩)) := ⟨_, Lib.hid rfl⟩
                          have hA9n : A9 = none → rc - (j + 1) = 0 := fun h => by rw [HA9.out] at h; split at h <;> cases h
                          clear i1 k1
                          go_wp2_with fail
                          refine wp_region_held_drew (S := (fun _ => True)) (by kernel_rfl) trivial (fun hHeld => ?_)
                          refine wpAnyH_take (i := 1) (oi := ⟨_, _, _, _, _, _⟩) (v := ?_) rfl (by kernel_rfl) (by kernel_rfl) (by kernel_rfl) (fun _ _ _ h => h) (Or.inl ⟨by rfl, ?_⟩) (by assumption) ?_
                          rotate_left
                          · intro w' hSw; (try dsimp only at hSw); go_simp; (try with_reducible rfl)
                          try simp only [Act.put, List.setIfInBounds_toArray, List.set_cons_zero, List.set_cons_succ]
                          refine wpAnyH_take (i := 2) (oi := ⟨_, _, _, _, _, _⟩) (v := ?_) rfl (by kernel_rfl) (by kernel_rfl) (by kernel_rfl) (fun _ _ _ h => h) (Or.inl ⟨by rfl, ?_⟩) (by assumption) ?_
                          rotate_left
                          · intro w' hSw; (try dsimp only at hSw); go_simp; (try with_reducible rfl)
                          try simp only [Act.put, List.setIfInBounds_toArray, List.set_cons_zero, List.set_cons_succ]
                          refine wpAnyH_take (i := 3) (oi := ⟨_, _, _, _, _, _⟩) (v := ?_) rfl (by kernel_rfl) (by kernel_rfl) (by kernel_rfl) (fun _ _ _ h => h) (Or.inl ⟨by rfl, ?_⟩) (by assumption) ?_
                          rotate_left
                          · intro w' hSw; (try dsimp only at hSw); go_simp; (try simp only [hw1]); (try rw [if_pos (by omega)]); (try simp only [hw2, Int.toNat_natCast]); (try (intro h; exact absurd (h (by omega)) (by omega))); (try with_reducible rfl)
                          try simp only [Act.put, List.setIfInBounds_toArray, List.set_cons_zero, List.set_cons_succ]
                          refine wpAnyH_take (i := 5) (oi := ⟨_, _, _, _, _, _⟩) (v := ?_) rfl (by kernel_rfl) (by kernel_rfl) (by kernel_rfl) (fun _ _ _ h => h) (Or.inl ⟨by rfl, ?_⟩) (by assumption) ?_
                          rotate_left
                          · intro w' hSw; (try dsimp only at hSw); go_simp; (try with_reducible rfl)
                          try simp only [Act.put, List.setIfInBounds_toArray, List.set_cons_zero, List.set_cons_succ]
                          refine wpAnyH_take (i := 6) (oi := ⟨_, _, _, _, _, _⟩) (v := ?_) rfl (by kernel_rfl) (by kernel_rfl) (by kernel_rfl) (fun _ _ _ h => h) (Or.inl ⟨by rfl, ?_⟩) (by assumption) ?_
                          rotate_left
                          · intro w' hSw; (try dsimp only at hSw); go_simp; (try with_reducible rfl)
                          try simp only [Act.put, List.setIfInBounds_toArray, List.set_cons_zero, List.set_cons_succ]
                          refine wpAnyH_take (i := 7) (oi := ⟨_, _, _, _, _, _⟩) (v := ?_) rfl (by kernel_rfl) (by kernel_rfl) (by kernel_rfl) (fun _ _ _ h => h) (Or.inl ⟨by rfl, ?_⟩) (by assumption) ?_
                          rotate_left
                          · intro w' hSw; (try dsimp only at hSw); go_simp; (try simp only [hw1]); (try rw [if_pos (by omega)]); (try simp only [hw2, Int.toNat_natCast]); (try (intro h; exact absurd (h (by omega)) (by omega))); (try with_reducible rfl)
                          try simp only [Act.put, List.setIfInBounds_toArray, List.set_cons_zero, List.set_cons_succ]
                          refine wpAnyH_take (i := 8) (oi := ⟨_, _, _, _, _, _⟩) (v := .slice A9 (rs.length - (j + 1)) (rc - (j + 1))) rfl (by kernel_rfl) (by kernel_rfl) (by kernel_rfl) (fun _ _ _ h => h) (Or.inl ⟨by rfl, ?_⟩) (by assumption) ?_
                          · intro w' hSw; rw [HA9.out]; go_simp; (try simp only [hw1]); (try rw [if_pos (by omega)]); (try simp only [hw2, Int.toNat_natCast]); (try (intro h; exact absurd (h (by omega)) (by omega))); (try with_reducible rfl)
                          try simp only [Act.put, List.setIfInBounds_toArray, List.set_cons_zero, List.set_cons_succ]
                          refine wpAnyH_ready (rs := [0]) (by kernel_rfl) (by simp) ?_
                          refine AllReadyH.cons (o := ⟨_, _, _, _, _, _⟩) rfl (fun K9 hK9 => ?_) AllReadyH.nil
                          go_simp
                          refine hK9.out _ _ trivial (fun hHeld => ?_)
                          clear hK9 K9
                          try simp only [Act.put, List.setIfInBounds_toArray, List.set_cons_zero, List.set_cons_succ]
                          refine wpAnyH_ready (rs := [4]) (by kernel_rfl) (by simp) ?_
                          refine AllReadyH.cons (o := ⟨_, _, _, _, _, _⟩) rfl (fun K9 hK9 => ?_) AllReadyH.nil
                          refine step_append_ownN (f := fsc) fsc_len fsc_flat (by decide) rfl (.tmp 192) (.tmp 195) 38 rfl q1.heap.size 43 i0 zF 48 Tryd.underlying38 hi hz0 hz1 hz2 rfl _ 0 [] rfl OE.out (some ⟨gr, 0, none⟩) rc (rs.take j) j hlt1.out (fun h => by cases h) RT.out rfl (by unfold maxLen; omega) (by omega) DE.out.size ?_
                          intro v5 q5 ho5 hg5 _
                          have E5 := Lib.hid (DE.out.grown hg5 DE.out.size (fun q hq => by injection hq with hq; subst hq; exact Nat.le_refl _))
                          have O5 := Lib.hid ho5
                          have RD := Lib.hid (show RowsAt fsc 3 (fun _ => False) q5 A9 (rs.drop (j + 1)) by
                            rw [HA9.out]
                            split
                            · rw [List.drop_of_length_le (by omega)]; exact RowsAt.nil _ _ _
                            · exact rows_drop (RW0.out.below E5.out) (j + 1))
                          clear ho5 hg5
                          refine hK9.out _ _ trivial (fun hHeld => ?_)
                          clear hK9 K9
                          try simp only [Act.put, List.setIfInBounds_toArray, List.set_cons_zero, List.set_cons_succ]
                          refine wpAnyH_ready (rs := [9]) (by kernel_rfl) (by simp) ?_
                          refine AllReadyH.cons (o := ⟨_, _, _, _, _, _⟩) rfl (fun K9 hK9 => ?_) AllReadyH.nil
                          refine step_append_ownN (f := fsc) fsc_len fsc_flat (by decide) rfl (.tmp 196) (.tmp 200) 38 rfl q1.heap.size 43 i0 zF 48 Tryd.underlying38 hi hz0 hz1 hz2 rfl v5 (0 + j) ([] ++ rs.take j) rfl O5.out A9 (rc - (j + 1)) (rs.drop (j + 1)) (rs.length - (j + 1)) hld1.out hA9n RD.out (by first | rfl | (simp [Act.eval]; done)) (by unfold maxLen; omega) (by omega) E5.out.size ?_
                          intro v6 q6 ho6 hg6 _
                          have E6 := Lib.hid (E5.out.grown hg6 E5.out.size (fun q hq => (O5.out.lt hq).1))
                          have O6 := Lib.hid ho6
                          clear ho6 hg6
                          refine hK9.out _ _ trivial (fun hHeld => ?_)
                          clear hK9 K9
                          try simp only [Act.put, List.setIfInBounds_toArray, List.set_cons_zero, List.set_cons_succ]
                          refine wpAnyH_take (i := 10) (oi := ⟨_, _, _, _, _, _⟩) (v := ?_) rfl (by kernel_rfl) (by kernel_rfl) (by kernel_rfl) (fun _ _ _ h => h) (Or.inl ⟨by rfl, ?_⟩) (by assumption) ?_
                          rotate_left
                          · intro w' hSw; (try dsimp only at hSw); go_simp; (try with_reducible rfl)
                          try simp only [Act.put, List.setIfInBounds_toArray, List.set_cons_zero, List.set_cons_succ]
                          refine wpAnyH_done (by kernel_rfl) ?_ _
                          have SN := Lib.hid (show St w1 g F (T.filter fun t => decide (t.1 ≠ x1)) nx v6 (rs.eraseIdx j) q6 from
                            have hb : Below q1.heap.size q1 q6 := E6.out
                            have hq : w1.heap.size ≤ q1.heap.size := I1.out.size
                            have hmem : ∀ y ∈ rs.eraseIdx j, y ∈ rs := fun y hy => List.mem_of_mem_eraseIdx hy
                            ⟨I1.out.grow hb hq, HGN.out.symm, by
                              have h := O6.out.mono hq
                              have e1 : 0 + j + (rs.length - (j + 1)) = (rs.eraseIdx j).length := by rw [List.length_eraseIdx_of_lt hjl.out]; have := hjl.out; omega
                              have e2 : ([] ++ rs.take j) ++ rs.drop (j + 1) = rs.eraseIdx j := by rw [List.eraseIdx_eq_take_drop_succ]; rfl
                              rw [e1, e2] at h
                              exact h, fun k hk h2 => by have h3 := (O6.out.lt hk).1; have h4 := (I1.out.lt k h2).2; omega, fun y hy => (RK.out.2.2.1 y (hmem y hy)).below hb, fun y hy => RK.out.2.2.2 y (hmem y hy)⟩)
                          clear hHeld hA9n
                          go_wp2_with fail
                          go_meet
                          have hTf : (T.filter fun t => decide (t.1 ≠ x1)).length ≤ T.length := List.length_filter_le _ _
                          exact ⟨g, F, _, nx, v6, rs.eraseIdx j, rfl, rfl, rfl, by omega, by omega, by omega, SN⟩
                    · have e2 : (x0 == 2) = false := by simp [ho2]
                      by_cases ho3 : x0 = 3
                      · as_aux_lemma =>
                          subst ho3
                          clear ho1 ho2
                          go_wp2_with fail
                          refine (twin_c SW.out.inv TW.out).mono ?_
                          rintro e q1 ⟨g', F', rfl, it⟩
                          have TK := Lib.hid (Tk.start SW.out it)
                          clear it
                          go_wp2_with fail
                          obtain ⟨wq, rfl⟩ : ∃ wq : World, wq = wr := ⟨_, rfl⟩
                          go_loopw [17] (fun i wx => ∃ j : Nat, j ≤ rs.length ∧ i = .int .i64 j ∧ Hid (Tk w1 g F g' F' T nx (.slice rA rs.length rc) rs wx)) (fun i _ => (rs.length - (RowKit.intOf i).toNat))
                          case atStart => exact ⟨0, by omega, rfl, TK⟩
                          case round =>
                            obtain ⟨j, hj, rfl, hTk⟩ := hrel
                            clear TK
                            by_cases hjl : j < rs.length
                            · have hjI : (j : Int) < (rs.length : Int) := by omega
                              obtain ⟨rA', rc', hvo, hrr, _, _⟩ := hTk.out.new.row
                              obtain rfl : rA = rA' := by injection hvo
                              obtain ⟨rad, rfl, _, r0c, _, _⟩ := fs_at hrr hjl
                              clear hvo hrr
                              generalize rs[j].1.1 = y1 at *
                              go_wp2_with fail
                              refine (retract_any y1 hTk.out (T1.out.b hTk.out.new.inv.below)).mono ?_
                              rintro e q2 ⟨⟨b, rfl⟩, hk2⟩
                              have TK2 := Lib.hid hk2
                              clear hk2
                              go_wp2_with fail
                              go_roundw
                              case rel => exact ⟨j + 1, by omega, by go_num, TK2⟩
                              case measure => first | (simp [RowKit.intOf]; done) | (simp [RowKit.intOf]; omega)
                            · obtain rfl : j = rs.length := by omega
                              clear hj hjl
                              go_wp2_with fail
                              go_meet
                              exact ⟨g', F', T, nx, _, rs, rfl, rfl, rfl, by omega, by omega, by omega, Lib.hid hTk.out.new⟩
                      · have e3 : (x0 == 3) = false := by simp [ho3]
                        by_cases ho4 : x0 = 4
                        · as_aux_lemma =>
                            subst ho4
                            clear ho1 ho2 ho3
                            go_wp2_with fail
                            refine (all_y SW.out.inv).mono ?_
                            rintro e q1 ⟨A1, ys, rfl, hys, ho, hfr, b1⟩
                            have AL := Lib.hid (Al.start b1 ho hfr)
                            have hyl : ys.length ≤ 1000 := by
                              have := SW.out.inv.few
                              rw [← hys, List.length_map] at this
                              exact this
                            have hylI : (ys.length : Int) ≤ 1000 := by omega
                            have HYC := Lib.hid (fun y (hy : y ∈ ys) => (hfr y hy).few)
                            clear hys ho hfr b1
                            go_wp2_with fail
                            obtain ⟨wq, rfl⟩ : ∃ wq : World, wq = wr := ⟨_, rfl⟩
                            go_loopw [19] (fun i wx => ∃ j : Nat, j ≤ ys.length ∧ i = .int .i64 j ∧ Hid (Al wq wx A1 ys)) (fun i _ => (ys.length - (RowKit.intOf i).toNat))
                            case atStart => exact ⟨0, by omega, rfl, AL⟩
                            case round =>
                              obtain ⟨j, hj, rfl, hAl⟩ := hrel
                              clear AL
                              by_cases hjl : j < ys.length
                              · have hjI : (j : Int) < (ys.length : Int) := by omega
                                obtain ⟨ad1, rfl, _, _, _, _⟩ := fs_at hAl.out.row hjl
                                have HY := Lib.hid (List.getElem_mem hjl)
                                have HRJ := Lib.hid (fun (W : World) (h : Al wq W (some ad1) ys) => by
                                  obtain ⟨ad2, e, _, _, _, h2⟩ := fs_at h.row hjl
                                  obtain rfl := Option.some.inj e
                                  exact h2)
                                have hn : ys[j].1.2.2.length ≤ 1000 := HYC.out _ (List.getElem_mem hjl)
                                generalize ys[j] = y at *
                                obtain ⟨⟨y1, y2, y4⟩, y3, y5⟩ := y
                                dsimp only at HRJ hn
                                have hnI : (y4.length : Int) ≤ 1000 := by omega
                                go_wp2_with fail
                                obtain ⟨wp, rfl⟩ : ∃ wp : World, wp = wr := ⟨_, rfl⟩
                                go_loopw [20] (fun i wx => ∃ m : Nat, m ≤ y4.length ∧ i = .int .i64 m ∧ Hid (Al wq wx (some ad1) ys)) (fun i _ => (y4.length - (RowKit.intOf i).toNat))
                                case atStart => exact ⟨0, by omega, rfl, hAl⟩
                                case round =>
                                  obtain ⟨m, hm, rfl, hAl2⟩ := hrel
                                  clear hAl
                                  have c2 := HRJ.out _ hAl2.out
                                  by_cases hml : m < y4.length
                                  · have hmI : (m : Int) < (y4.length : Int) := by omega
                                    obtain ⟨gr, e, hth⟩ := hAl2.out.there HY.out hml
                                    dsimp only at e
                                    subst e
                                    clear hth
                                    have HS := Lib.hid (fun w' (h : Below wr.heap.size wr w') => HRJ.out _ (hAl2.out.grow h))
                                    have D0 : Hid (Below wr.heap.size wr wr.drew) := Lib.hid ⟨rfl, rfl, rfl, Nat.le_refl _, fun _ _ => rfl⟩
                                    go_wp2_with fail
                                    refine wp_region_held_drew (S := (fun w' => w'.cell? ⟨(ad1.add (j * 3)).block, (ad1.add (j * 3)).off + 2, none⟩ = some (.slice (some ⟨gr, 0, none⟩) y4.length y5))) (by kernel_rfl) (HS.out _ D0.out) (fun hHeld => ?_)
                                    refine wpAnyH_take (i := 0) (oi := ⟨_, _, _, _, _, _⟩) (v := ?_) rfl (by kernel_rfl) (by kernel_rfl) (by kernel_rfl) (fun _ _ _ h => h) (Or.inl ⟨by rfl, ?_⟩) (by assumption) ?_
                                    rotate_left
                                    · intro w' hSw; (try dsimp only at hSw); go_simp; (try with_reducible rfl)
                                    try simp only [Act.put, List.setIfInBounds_toArray, List.set_cons_zero, List.set_cons_succ]
                                    refine wpAnyH_take (i := 1) (oi := ⟨_, _, _, _, _, _⟩) (v := ?_) rfl (by kernel_rfl) (by kernel_rfl) (by kernel_rfl) (fun _ _ _ h => h) (Or.inl ⟨by rfl, ?_⟩) (by assumption) ?_
                                    rotate_left
                                    · intro w' hSw; (try dsimp only at hSw); go_simp; (try with_reducible rfl)
                                    try simp only [Act.put, List.setIfInBounds_toArray, List.set_cons_zero, List.set_cons_succ]
                                    refine wpAnyH_take (i := 2) (oi := ⟨_, _, _, _, _, _⟩) (v := ?_) rfl (by kernel_rfl) (by kernel_rfl) (by kernel_rfl) (fun _ _ _ h => h) (Or.inl ⟨by rfl, ?_⟩) (by assumption) ?_
                                    rotate_left
                                    · intro w' hSw; (try dsimp only at hSw); go_simp; (try with_reducible rfl)
                                    try simp only [Act.put, List.setIfInBounds_toArray, List.set_cons_zero, List.set_cons_succ]
                                    refine wpAnyH_take (i := 3) (oi := ⟨_, _, _, _, _, _⟩) (v := ?_) rfl (by kernel_rfl) (by kernel_rfl) (by kernel_rfl) (fun _ _ _ h => h) (Or.inl ⟨by rfl, ?_⟩) (by assumption) ?_
                                    rotate_left
                                    · intro w' hSw; (try dsimp only at hSw); go_simp; (try with_reducible rfl)
                                    try simp only [Act.put, List.setIfInBounds_toArray, List.set_cons_zero, List.set_cons_succ]
                                    refine wpAnyH_take (i := 4) (oi := ⟨_, _, _, _, _, _⟩) (v := ?_) rfl (by kernel_rfl) (by kernel_rfl) (by kernel_rfl) (fun _ _ _ h => h) (Or.inl ⟨by rfl, ?_⟩) (by assumption) ?_
                                    rotate_left
                                    · intro w' hSw; (try dsimp only at hSw); go_simp; (try with_reducible rfl)
                                    try simp only [Act.put, List.setIfInBounds_toArray, List.set_cons_zero, List.set_cons_succ]
                                    refine wpAnyH_take (i := 5) (oi := ⟨_, _, _, _, _, _⟩) (v := ?_) rfl (by kernel_rfl) (by kernel_rfl) (by kernel_rfl) (fun _ _ _ h => h) (Or.inl ⟨by rfl, ?_⟩) (by assumption) ?_
                                    rotate_left
                                    · intro w' hSw; (try dsimp only at hSw); go_simp; (try with_reducible rfl)
                                    try simp only [Act.put, List.setIfInBounds_toArray, List.set_cons_zero, List.set_cons_succ]
                                    refine wpAnyH_ready (rs := [6]) (by kernel_rfl) (by simp) ?_
                                    refine AllReadyH.cons (o := ⟨_, _, _, _, _, _⟩) rfl (fun K9 hK9 => ?_) AllReadyH.nil
                                    go_simp
                                    (with_reducible refine (rInt_c 99 _).mono ?_)
                                    rintro e w9 ⟨rfl, b9⟩
                                    have E9 := Lib.hid (D0.out.trans (b9.mono D0.out.size))
                                    clear b9
                                    have AL9 := Lib.hid (hAl2.out.grow E9.out)
                                    obtain ⟨gr', e', hth⟩ := AL9.out.there HY.out hml
                                    obtain rfl : gr = gr' := by injection e' with e'; injection e'
                                    have HTH := Lib.hid hth
                                    clear e' hth
                                    go_wp2_with fail
                                    refine hK9.out _ _ (HS.out _ E9.out) (fun hHeld => ?_)
                                    clear hK9 K9
                                    try simp only [Act.put, List.setIfInBounds_toArray, List.set_cons_zero, List.set_cons_succ]
                                    refine wpAnyH_take (i := 7) (oi := ⟨_, _, _, _, _, _⟩) (v := ?_) rfl (by kernel_rfl) (by kernel_rfl) (by kernel_rfl) (fun _ _ _ h => h) (Or.inl ⟨by rfl, ?_⟩) (by assumption) ?_
                                    rotate_left
                                    · intro w' hSw; (try dsimp only at hSw); go_simp; (try with_reducible rfl)
                                    try simp only [Act.put, List.setIfInBounds_toArray, List.set_cons_zero, List.set_cons_succ]
                                    refine wpAnyH_ready (rs := [8]) (by kernel_rfl) (by simp) ?_
                                    refine AllReadyH.cons (o := ⟨_, _, _, _, _, _⟩) rfl (fun K9 hK9 => ?_) AllReadyH.nil
                                    refine step_store_mid rfl 29 (.tmp 249) (.tmp 248) rfl gr (m * 3) #[.int .i64 1, .int .i64 99, .string ⟨#[]⟩] (by first | rfl | (simp [Act.eval, Addr.add]; done)) rfl HTH.out (by kernel_rfl) (by simp [Value.oneCell']) ?_
                                    have AL10 := Lib.hid (AL9.out.store HY.out hml rfl (.int .i64 1) (.int .i64 99) (.string ⟨#[]⟩) (m * 3))
                                    refine hK9.out _ _ (HRJ.out _ AL10.out) (fun hHeld => ?_)
                                    clear hK9 K9
                                    try simp only [Act.put]
                                    refine wpAnyH_done (by kernel_rfl) ?_ _
                                    clear hHeld
                                    go_wp2_with fail
                                    go_roundw
                                    case rel => exact ⟨m + 1, by omega, by go_num, AL10⟩
                                    case measure => first | (simp [RowKit.intOf]; done) | (simp [RowKit.intOf]; omega)
                                  · obtain rfl : m = y4.length := by omega
                                    clear hm hml
                                    go_wp2_with fail
                                    go_roundw
                                    case rel => exact ⟨j + 1, by omega, by go_num, hAl2⟩
                                    case measure => first | (simp [RowKit.intOf]; done) | (simp [RowKit.intOf]; omega)
                              · obtain rfl : j = ys.length := by omega
                                clear hj hjl
                                go_wp2_with fail
                                go_meet
                                exact ⟨g, F, T, nx, _, rs, rfl, rfl, rfl, by omega, by omega, by omega, Lib.hid (SW.out.below hAl.out.below)⟩
                        · as_aux_lemma =>
                            have e4 : (x0 == 4) = false := by simp [ho4]
                            clear ho1 ho2 ho3 ho4
                            go_wp2_with fail
                            go_meet
                            exact ⟨g, F, T, nx, _, rs, rfl, rfl, rfl, by omega, by omega, by omega, SW⟩
                case rest =>
                  as_aux_lemma =>
                    obtain ⟨g', F', T', nx', vo', rs', rfl, rfl, rfl, hTl', hnx', hnx1', SN⟩ := hcut
                    obtain ⟨rA', rc', hvo', _, _, _⟩ := SN.out.row
                    subst hvo'
                    clear AV TW SW HFC d0 d1 d2 d3 hAt hB2
                    go_wp2_with fail
                    refine (all_y SN.out.inv).mono ?_
                    rintro e u1 ⟨A1, ys, rfl, hys, ho, hfr, b1⟩
                    have U1 := Lib.hid b1
                    have YS := Lib.hid hys
                    have FY := Lib.hid hfr
                    obtain ⟨A1', c1', e1, hr1, _, _, _⟩ := ho.rows (N := fun _ => False) fsc_len (by decide) (fun _ _ h => h)
                    obtain rfl : A1 = A1' := by injection e1
                    have R1 := Lib.hid hr1
                    have hyl : ys.length ≤ 1000 := by
                      have := SN.out.inv.few
                      rw [← YS.out, List.length_map] at this
                      exact this
                    clear e1 hys ho hfr hr1 b1
                    go_wp2_with fail
                    have OC := Lib.hid (ofP_c A1 ys.length ys u1 R1.out hyl)
                    (with_reducible refine OC.out.mono ?_)
                    rintro e u2 ⟨v2, rfl, ho2, b2⟩
                    have U12 := Lib.hid b2
                    have U2 := Lib.hid (U1.out.trans (b2.mono U1.out.size))
                    obtain ⟨A2, c2, e2, hr2, _, _, _⟩ := ho2.rows (N := fun _ => False) fsc_len (by decide) (fun _ _ h => h)
                    subst e2
                    have R2 := Lib.hid hr2
                    clear ho2 hr2 b2 OC R1
                    go_wp2_with fail
                    have SN2 := Lib.hid (SN.out.below U2.out)
                    have RR := Lib.hid (show RowsAt fsc 3 (fun _ => False) u2 rA' rs' by
                      obtain ⟨A', c', e, hr, _, _⟩ := SN2.out.row
                      obtain rfl : A' = rA' := by injection e with e; exact e.symm
                      exact hr)
                    have SC := Lib.hid (sameP_c A2 c2 ys rA' rc' rs' u2 R2.out RR.out hyl (by rw [SN2.out.len]; exact SN2.out.inv.few) (fun y hy => ⟨RowsAt.mono ((FY.out y hy).below U12.out).arg.row (fun _ h => h.elim), (FY.out y hy).few⟩) (fun y hy => ⟨RowsAt.mono (SN2.out.fr y hy).arg.row (fun _ h => h.elim), (SN2.out.fr y hy).few⟩))
                    have SD := Lib.hid (show decide (ys.map (fun y : Fs => y.1) = (rs').map (fun y : Fs => y.1)) = true by rw [YS.out, SN2.out.eq]; exact decide_eq_true rfl)
                    rw [SD.out] at SC
                    (with_reducible refine SC.out.mono ?_)
                    rintro e u3 ⟨rfl, b3⟩
                    have SN3 := Lib.hid (SN2.out.below b3)
                    clear b3 SC SD RR
                    go_wp2_with fail
                    refine (len_n SN3.out.inv SN3.out.len.symm).mono ?_
                    rintro e u4 ⟨rfl, rfl⟩
                    go_wp2_with fail
                    refine (next_c SN3.out.inv).mono ?_
                    rintro e u5 ⟨rfl, rfl⟩
                    go_wp2_with fail
                    go_roundw
                    case rel => exact ⟨k + 1, g', F', T', nx', _, rs', by omega, by go_num, rfl, rfl, rfl, by omega, by omega, by omega, SN3⟩
                    case measure => first | (simp [RowKit.intOf]; done) | (simp [RowKit.intOf]; omega)
    · obtain rfl : k = l.length := by omega
      clear hk hlt
      go_wp2_with fail
      obtain ⟨wo, rfl⟩ : ∃ wo : World, wo = wr := ⟨_, rfl⟩
      go_loopw [21] (fun i wx => ∃ d : Nat, (d : Int) ≤ nx + 1 ∧ i = .int .i64 d ∧ Hid (Below wo.heap.size wo wx)) (fun i _ => (nx + 1 - RowKit.intOf i).toNat)
      case atStart => exact ⟨0, by omega, rfl, Lib.hid (Below.refl _ _)⟩
      case round =>
        obtain ⟨d, hd, rfl, hB⟩ := hrel
        have SD := Lib.hid (hSt.out.below hB.out)
        by_cases hdl : (d : Int) ≤ nx
        · go_upto_region 65 with (fail)
          go_cut [22, 23] (fun p bv wx => ∃ (z : Fs) (b : Bool) (fb : Nat), p = .pointer (some ⟨fb, 0, none⟩) ∧ bv = .bool b ∧ Hid (wx.heap[fb]? = some (.cells #[.int .i64 z.1.1, .string z.1.2.1, .slice z.2.1 z.1.2.2.length z.2.2] 55 (0, 0))) ∧ Hid ((b = true → z.1 ∈ T ∧ z.1.1 = d) ∧ (b = false → ∀ t ∈ T, t.1 ≠ d)) ∧ Hid (ValsAt (fun _ => False) wx z.2.1 z.1.2.2) ∧ z.1.2.2.length ≤ 1000 ∧ Hid (Below wo.heap.size wo wx))
          case rest =>
            as_aux_lemma =>
              obtain ⟨z, b, fb, rfl, rfl, HFB, HZ, HV, hz4, hBc⟩ := hcut
              have SC := Lib.hid (hSt.out.below hBc.out)
              clear SD hB
              obtain ⟨⟨z1, z2, z4⟩, z3, z5⟩ := z
              dsimp only at HFB HV hz4
              go_wp2_with fail
              obtain ⟨wp, rfl⟩ : ∃ wp : World, wp = wc := ⟨_, rfl⟩
              go_loopw [24, 25] (fun cv i wx => ∃ (j : Nat) (cc : Bool), j ≤ rs.length ∧ i = .int .i64 j ∧ cv = .bool cc ∧ Hid (InK rs d j cc) ∧ Hid (Below wp.heap.size wp wx)) (fun _ i _ => (rs.length - (RowKit.intOf i).toNat))
              case atStart => exact ⟨0, false, by omega, rfl, rfl, Lib.hid ⟨fun h => (by cases h), fun ⟨m, hm, h1, _⟩ => by omega⟩, Lib.hid (Below.refl _ _)⟩
              case round =>
                obtain ⟨j, cc, hj, rfl, rfl, hIn, hB2⟩ := hrel
                have SW := Lib.hid (SC.out.below hB2.out)
                by_cases hjl : j < rs.length
                · have hjI : (j : Int) < (rs.length : Int) := by omega
                  have D0 : Hid (Below wr.heap.size wr wr.drew) := Lib.hid ⟨rfl, rfl, rfl, Nat.le_refl _, fun _ _ => rfl⟩
                  have ED := Lib.hid (hB2.out.trans (D0.out.mono hB2.out.size))
                  cases cc with
                  | true =>
                    have PF := Lib.hid (inK_true hIn.out)
                    go_wp2_with fail
                    refine wp_region_held_drew (S := (fun _ => True)) (by kernel_rfl) trivial (fun hHeld => ?_)
                    refine wpAnyH_take (i := 0) (oi := ⟨_, _, _, _, _, _⟩) (v := ?_) rfl (by kernel_rfl) (by kernel_rfl) (by kernel_rfl) (fun _ _ _ h => h) (Or.inl ⟨by rfl, ?_⟩) (by assumption) ?_
                    rotate_left
                    · intro w' hSw; (try dsimp only at hSw); go_simp; (try with_reducible rfl)
                    try simp only [Act.put, List.setIfInBounds_toArray, List.set_cons_zero, List.set_cons_succ]
                    refine wpAnyH_take (i := 1) (oi := ⟨_, _, _, _, _, _⟩) (v := ?_) rfl (by kernel_rfl) (by kernel_rfl) (by kernel_rfl) (fun _ _ _ h => h) (Or.inl ⟨by rfl, ?_⟩) (by assumption) ?_
                    rotate_left
                    · intro w' hSw; (try dsimp only at hSw); go_simp; (try with_reducible rfl)
                    try simp only [Act.put, List.setIfInBounds_toArray, List.set_cons_zero, List.set_cons_succ]
                    refine wpAnyH_take (i := 2) (oi := ⟨_, _, _, _, _, _⟩) (v := undef) rfl (by kernel_rfl) (by kernel_rfl) (by kernel_rfl) (fun _ _ _ h => h) (Or.inr ⟨by rfl, rfl⟩) (by assumption) ?_
                    try simp only [Act.put, List.setIfInBounds_toArray, List.set_cons_zero, List.set_cons_succ]
                    refine wpAnyH_take (i := 3) (oi := ⟨_, _, _, _, _, _⟩) (v := undef) rfl (by kernel_rfl) (by kernel_rfl) (by kernel_rfl) (fun _ _ _ h => h) (Or.inr ⟨by rfl, rfl⟩) (by assumption) ?_
                    try simp only [Act.put, List.setIfInBounds_toArray, List.set_cons_zero, List.set_cons_succ]
                    refine wpAnyH_take (i := 4) (oi := ⟨_, _, _, _, _, _⟩) (v := undef) rfl (by kernel_rfl) (by kernel_rfl) (by kernel_rfl) (fun _ _ _ h => h) (Or.inr ⟨by rfl, rfl⟩) (by assumption) ?_
                    try simp only [Act.put, List.setIfInBounds_toArray, List.set_cons_zero, List.set_cons_succ]
                    refine wpAnyH_take (i := 5) (oi := ⟨_, _, _, _, _, _⟩) (v := undef) rfl (by kernel_rfl) (by kernel_rfl) (by kernel_rfl) (fun _ _ _ h => h) (Or.inr ⟨by rfl, rfl⟩) (by assumption) ?_
                    try simp only [Act.put, List.setIfInBounds_toArray, List.set_cons_zero, List.set_cons_succ]
                    refine wpAnyH_take (i := 6) (oi := ⟨_, _, _, _, _, _⟩) (v := undef) rfl (by kernel_rfl) (by kernel_rfl) (by kernel_rfl) (fun _ _ _ h => h) (Or.inr ⟨by rfl, rfl⟩) (by assumption) ?_
                    try simp only [Act.put, List.setIfInBounds_toArray, List.set_cons_zero, List.set_cons_succ]
                    refine wpAnyH_take (i := 7) (oi := ⟨_, _, _, _, _, _⟩) (v := undef) rfl (by kernel_rfl) (by kernel_rfl) (by kernel_rfl) (fun _ _ _ h => h) (Or.inr ⟨by rfl, rfl⟩) (by assumption) ?_
                    try simp only [Act.put, List.setIfInBounds_toArray, List.set_cons_zero, List.set_cons_succ]
                    refine wpAnyH_take (i := 8) (oi := ⟨_, _, _, _, _, _⟩) (v := undef) rfl (by kernel_rfl) (by kernel_rfl) (by kernel_rfl) (fun _ _ _ h => h) (Or.inr ⟨by rfl, rfl⟩) (by assumption) ?_
                    try simp only [Act.put, List.setIfInBounds_toArray, List.set_cons_zero, List.set_cons_succ]
                    refine wpAnyH_take (i := 9) (oi := ⟨_, _, _, _, _, _⟩) (v := undef) rfl (by kernel_rfl) (by kernel_rfl) (by kernel_rfl) (fun _ _ _ h => h) (Or.inr ⟨by rfl, rfl⟩) (by assumption) ?_
                    try simp only [Act.put, List.setIfInBounds_toArray, List.set_cons_zero, List.set_cons_succ]
                    refine wpAnyH_take (i := 10) (oi := ⟨_, _, _, _, _, _⟩) (v := undef) rfl (by kernel_rfl) (by kernel_rfl) (by kernel_rfl) (fun _ _ _ h => h) (Or.inr ⟨by rfl, rfl⟩) (by assumption) ?_
                    try simp only [Act.put, List.setIfInBounds_toArray, List.set_cons_zero, List.set_cons_succ]
                    refine wpAnyH_take (i := 11) (oi := ⟨_, _, _, _, _, _⟩) (v := undef) rfl (by kernel_rfl) (by kernel_rfl) (by kernel_rfl) (fun _ _ _ h => h) (Or.inr ⟨by rfl, rfl⟩) (by assumption) ?_
                    try simp only [Act.put, List.setIfInBounds_toArray, List.set_cons_zero, List.set_cons_succ]
                    refine wpAnyH_take (i := 12) (oi := ⟨_, _, _, _, _, _⟩) (v := undef) rfl (by kernel_rfl) (by kernel_rfl) (by kernel_rfl) (fun _ _ _ h => h) (Or.inr ⟨by rfl, rfl⟩) (by assumption) ?_
                    try simp only [Act.put, List.setIfInBounds_toArray, List.set_cons_zero, List.set_cons_succ]
                    refine wpAnyH_take (i := 13) (oi := ⟨_, _, _, _, _, _⟩) (v := undef) rfl (by kernel_rfl) (by kernel_rfl) (by kernel_rfl) (fun _ _ _ h => h) (Or.inr ⟨by rfl, rfl⟩) (by assumption) ?_
                    try simp only [Act.put, List.setIfInBounds_toArray, List.set_cons_zero, List.set_cons_succ]
                    refine wpAnyH_take (i := 14) (oi := ⟨_, _, _, _, _, _⟩) (v := undef) rfl (by kernel_rfl) (by kernel_rfl) (by kernel_rfl) (fun _ _ _ h => h) (Or.inr ⟨by rfl, rfl⟩) (by assumption) ?_
                    try simp only [Act.put, List.setIfInBounds_toArray, List.set_cons_zero, List.set_cons_succ]
                    refine wpAnyH_take (i := 15) (oi := ⟨_, _, _, _, _, _⟩) (v := undef) rfl (by kernel_rfl) (by kernel_rfl) (by kernel_rfl) (fun _ _ _ h => h) (Or.inr ⟨by rfl, rfl⟩) (by assumption) ?_
                    try simp only [Act.put, List.setIfInBounds_toArray, List.set_cons_zero, List.set_cons_succ]
                    refine wpAnyH_take (i := 16) (oi := ⟨_, _, _, _, _, _⟩) (v := undef) rfl (by kernel_rfl) (by kernel_rfl) (by kernel_rfl) (fun _ _ _ h => h) (Or.inr ⟨by rfl, rfl⟩) (by assumption) ?_
                    try simp only [Act.put, List.setIfInBounds_toArray, List.set_cons_zero, List.set_cons_succ]
                    refine wpAnyH_take (i := 17) (oi := ⟨_, _, _, _, _, _⟩) (v := undef) rfl (by kernel_rfl) (by kernel_rfl) (by kernel_rfl) (fun _ _ _ h => h) (Or.inr ⟨by rfl, rfl⟩) (by assumption) ?_
                    try simp only [Act.put, List.setIfInBounds_toArray, List.set_cons_zero, List.set_cons_succ]
                    refine wpAnyH_take (i := 18) (oi := ⟨_, _, _, _, _, _⟩) (v := undef) rfl (by kernel_rfl) (by kernel_rfl) (by kernel_rfl) (fun _ _ _ h => h) (Or.inr ⟨by rfl, rfl⟩) (by assumption) ?_
                    try simp only [Act.put, List.setIfInBounds_toArray, List.set_cons_zero, List.set_cons_succ]
                    refine wpAnyH_take (i := 19) (oi := ⟨_, _, _, _, _, _⟩) (v := undef) rfl (by kernel_rfl) (by kernel_rfl) (by kernel_rfl) (fun _ _ _ h => h) (Or.inr ⟨by rfl, rfl⟩) (by assumption) ?_
                    try simp only [Act.put, List.setIfInBounds_toArray, List.set_cons_zero, List.set_cons_succ]
                    refine wpAnyH_take (i := 20) (oi := ⟨_, _, _, _, _, _⟩) (v := ?_) rfl (by kernel_rfl) (by kernel_rfl) (by kernel_rfl) (fun _ _ _ h => h) (Or.inl ⟨by rfl, ?_⟩) (by assumption) ?_
                    rotate_left
                    · intro w' hSw; (try dsimp only at hSw); go_simp; (try with_reducible rfl)
                    try simp only [Act.put, List.setIfInBounds_toArray, List.set_cons_zero, List.set_cons_succ]
                    refine wpAnyH_take (i := 21) (oi := ⟨_, _, _, _, _, _⟩) (v := ?_) rfl (by kernel_rfl) (by kernel_rfl) (by kernel_rfl) (fun _ _ _ h => h) (Or.inl ⟨by rfl, ?_⟩) (by assumption) ?_
                    rotate_left
                    · intro w' hSw; (try dsimp only at hSw); go_simp; (try with_reducible rfl)
                    try simp only [Act.put, List.setIfInBounds_toArray, List.set_cons_zero, List.set_cons_succ]
                    refine wpAnyH_done (by kernel_rfl) ?_ _
                    clear hHeld
                    go_wp2_with fail
                    go_roundw
                    case rel => exact ⟨j + 1, true, by omega, by go_num, rfl, PF, ED⟩
                    case measure => first | (simp [RowKit.intOf]; done) | (simp [RowKit.intOf]; omega)
                  | false =>
                    rcases SW.out.own.2 with ⟨_, h2⟩ | ⟨gr, cap, cur, ev, hBr, hgr, hnr, hcr, _, htr⟩
                    · omega
                    obtain rfl : rA = some ⟨gr, 0, none⟩ := by injection ev
                    obtain rfl : rc = cap := by injection ev
                    have hncI : (rs.length : Int) ≤ (rc : Int) := by omega
                    have hrcj : ¬ rc = j := by omega
                    clear ev hgr htr hBr
                    obtain ⟨rA', rc', hvo, hrr, _, _⟩ := SW.out.row
                    obtain rfl : some ⟨gr, 0, none⟩ = rA' := by injection hvo
                    obtain ⟨rad, e, _, r0c, _, _⟩ := fs_at hrr hjl
                    obtain rfl := Option.some.inj e
                    have hmem := List.getElem_mem hjl
                    have r0d : wr.cell? ⟨gr, j * 3, none⟩ = some (.int .i64 rs[j].1.1) := by
                      have h := r0c
                      rw [Addr.add_mid, Nat.zero_add] at h
                      exact h
                    have HC := Lib.hid (fun w' (h : Below wr.heap.size wr w') => (And.intro ((h.cell (World.block_lt_of_cell? _ _ r0c)).trans r0c) ((h.cell (World.block_lt_of_cell? _ _ r0d)).trans r0d) : w'.cell? ((⟨gr, 0, none⟩ : Addr).add (j * 3)) = some (.int .i64 rs[j].1.1) ∧ w'.cell? ⟨gr, j * 3, none⟩ = some (.int .i64 rs[j].1.1)))
                    by_cases he : rs[j].1.1 = (d : Int)
                    · have PF := Lib.hid (inK_yes hjl he)
                      have hbt : b = true := by
                        cases b with
                        | true => rfl
                        | false => exact absurd he (HZ.out.2 rfl _ (by rw [← SW.out.eq]; exact List.mem_map.2 ⟨_, hmem, rfl⟩))
                      have hzy : ((z1, z2, z4) : Ft) = rs[j].1 := id_uniq SW.out.inv (HZ.out.1 hbt).1 (by rw [← SW.out.eq]; exact List.mem_map.2 ⟨_, hmem, rfl⟩) ((HZ.out.1 hbt).2.trans he.symm)
                      have SDC := Lib.hid (show decide ([(((z1, z2, z4), z3, z5) : Fs)].map (fun y : Fs => y.1) = [rs[j]].map (fun y : Fs => y.1)) = true by simp [← hzy])
                      have HYF := Lib.hid (fun w' (h : Below wr.heap.size wr w') => (And.intro (RowsAt.mono (((SW.out.fr _ hmem).below h).arg.row) (fun _ h => h.elim)) (SW.out.fr _ hmem).few : ValsAt (fun _ => False) w' rs[j].2.1 rs[j].1.2.2 ∧ rs[j].1.2.2.length ≤ 1000))
                      have HZF := Lib.hid (fun w' (h : Below wr.heap.size wr w') => RowsAt.below HV.out (hB2.out.trans (h.mono hB2.out.size)))
                      have HRW := Lib.hid (fun w' (h : Below wr.heap.size wr w') => (show RowsAt fsc 3 (fun _ => False) w' (some ⟨gr, j * 3, none⟩) [rs[j]] by
                        have h2 := rows_take (rows_drop (hrr.below h) j) 1
                        rw [List.drop_eq_getElem_cons hjl] at h2
                        exact h2))
                      have HFC := Lib.hid (fun w' (h : Below wr.heap.size wr w') => keepB (keepB HFB.out hB2.out) h)
                      have e3 : (rs[j].1.1 == (d : Int)) = true := by simp [he]
                      clear hvo hrr r0c r0d hzy hbt he hmem
                      generalize rs[j] = y at *
                      obtain ⟨⟨y1, y2, y4⟩, y3, y5⟩ := y
                      dsimp only at HC HYF e3
                      have HS := Lib.hid (show ∀ w', Below wr.heap.size wr w' → w'.cell? ((⟨gr, 0, none⟩ : Addr).add (j * 3)) = some (.int .i64 y1) ∧ w'.cell? ⟨gr, j * 3, none⟩ = some (.int .i64 y1) ∧ w'.cell? ⟨fb, 0, none⟩ = some (.int .i64 z1) ∧ w'.cell? ⟨fb, 1, none⟩ = some (.string z2) ∧ w'.cell? ⟨fb, 2, none⟩ = some (.slice z3 z4.length z5) from fun w' h => ⟨(HC.out _ h).1, (HC.out _ h).2, block_cell (HFC.out _ h) rfl, block_cell (HFC.out _ h) rfl, block_cell (HFC.out _ h) rfl⟩)
                      have hw1 : IntKind.i64.wrap ((j : Int) + 1) = ((j + 1 : Nat) : Int) := by first | (rw [IntWalk.i64_in _ (by omega)]; omega) | (simp [IntKind.wrap, IntKind.bits, IntKind.signed]; omega)
                      go_wp2_with fail
                      refine wp_region_held_drew (S := (fun w' => w'.cell? ((⟨gr, 0, none⟩ : Addr).add (j * 3)) = some (.int .i64 y1) ∧ w'.cell? ⟨gr, j * 3, none⟩ = some (.int .i64 y1) ∧ w'.cell? ⟨fb, 0, none⟩ = some (.int .i64 z1) ∧ w'.cell? ⟨fb, 1, none⟩ = some (.string z2) ∧ w'.cell? ⟨fb, 2, none⟩ = some (.slice z3 z4.length z5))) (by kernel_rfl) (HS.out _ D0.out) (fun hHeld => ?_)
                      refine wpAnyH_take (i := 0) (oi := ⟨_, _, _, _, _, _⟩) (v := ?_) rfl (by kernel_rfl) (by kernel_rfl) (by kernel_rfl) (fun _ _ _ h => h) (Or.inl ⟨by rfl, ?_⟩) (by assumption) ?_
                      rotate_left
                      · intro w' hSw; (try dsimp only at hSw); go_simp; (try with_reducible rfl)
                      try simp only [Act.put, List.setIfInBounds_toArray, List.set_cons_zero, List.set_cons_succ]
                      refine wpAnyH_take (i := 1) (oi := ⟨_, _, _, _, _, _⟩) (v := ?_) rfl (by kernel_rfl) (by kernel_rfl) (by kernel_rfl) (fun _ _ _ h => h) (Or.inl ⟨by rfl, ?_⟩) (by assumption) ?_
                      rotate_left
                      · intro w' hSw; (try dsimp only at hSw); go_simp; (try with_reducible rfl)
                      try simp only [Act.put, List.setIfInBounds_toArray, List.set_cons_zero, List.set_cons_succ]
                      refine wpAnyH_take (i := 2) (oi := ⟨_, _, _, _, _, _⟩) (v := ?_) rfl (by kernel_rfl) (by kernel_rfl) (by kernel_rfl) (fun _ _ _ h => h) (Or.inl ⟨by rfl, ?_⟩) (by assumption) ?_
                      rotate_left
                      · intro w' hSw; (try dsimp only at hSw); go_simp; (try with_reducible rfl)
                      try simp only [Act.put, List.setIfInBounds_toArray, List.set_cons_zero, List.set_cons_succ]
                      refine wpAnyH_take (i := 3) (oi := ⟨_, _, _, _, _, _⟩) (v := ?_) rfl (by kernel_rfl) (by kernel_rfl) (by kernel_rfl) (fun _ _ _ h => h) (Or.inl ⟨by rfl, ?_⟩) (by assumption) ?_
                      rotate_left
                      · intro w' hSw; (try dsimp only at hSw); go_simp; (try with_reducible rfl)
                      try simp only [Act.put, List.setIfInBounds_toArray, List.set_cons_zero, List.set_cons_succ]
                      refine wpAnyH_take (i := 4) (oi := ⟨_, _, _, _, _, _⟩) (v := ?_) rfl (by kernel_rfl) (by kernel_rfl) (by kernel_rfl) (fun _ _ _ h => h) (Or.inl ⟨by rfl, ?_⟩) (by assumption) ?_
                      rotate_left
                      · intro w' hSw; (try dsimp only at hSw); go_simp; (try with_reducible rfl)
                      try simp only [Act.put, List.setIfInBounds_toArray, List.set_cons_zero, List.set_cons_succ]
                      refine wpAnyH_take (i := 5) (oi := ⟨_, _, _, _, _, _⟩) (v := ?_) rfl (by kernel_rfl) (by kernel_rfl) (by kernel_rfl) (fun _ _ _ h => h) (Or.inl ⟨by rfl, ?_⟩) (by assumption) ?_
                      rotate_left
                      · intro w' hSw; (try dsimp only at hSw); go_simp; (try with_reducible rfl)
                      try simp only [Act.put, List.setIfInBounds_toArray, List.set_cons_zero, List.set_cons_succ]
                      refine wpAnyH_take (i := 6) (oi := ⟨_, _, _, _, _, _⟩) (v := ?_) rfl (by kernel_rfl) (by kernel_rfl) (by kernel_rfl) (fun _ _ _ h => h) (Or.inl ⟨by rfl, ?_⟩) (by assumption) ?_
                      rotate_left
                      · intro w' hSw; (try dsimp only at hSw); go_simp; (try with_reducible rfl)
                      try simp only [Act.put, List.setIfInBounds_toArray, List.set_cons_zero, List.set_cons_succ]
                      refine wpAnyH_take (i := 7) (oi := ⟨_, _, _, _, _, _⟩) (v := ?_) rfl (by kernel_rfl) (by kernel_rfl) (by kernel_rfl) (fun _ _ _ h => h) (Or.inl ⟨by rfl, ?_⟩) (by assumption) ?_
                      rotate_left
                      · intro w' hSw; (try dsimp only at hSw); go_simp; (try with_reducible rfl)
                      try simp only [Act.put, List.setIfInBounds_toArray, List.set_cons_zero, List.set_cons_succ]
                      refine wpAnyH_take (i := 8) (oi := ⟨_, _, _, _, _, _⟩) (v := ?_) rfl (by kernel_rfl) (by kernel_rfl) (by kernel_rfl) (fun _ _ _ h => h) (Or.inl ⟨by rfl, ?_⟩) (by assumption) ?_
                      rotate_left
                      · intro w' hSw; (try dsimp only at hSw); go_simp; (try with_reducible rfl)
                      try simp only [Act.put, List.setIfInBounds_toArray, List.set_cons_zero, List.set_cons_succ]
                      refine wpAnyH_take (i := 9) (oi := ⟨_, _, _, _, _, _⟩) (v := ?_) rfl (by kernel_rfl) (by kernel_rfl) (by kernel_rfl) (fun _ _ _ h => h) (Or.inl ⟨by rfl, ?_⟩) (by assumption) ?_
                      rotate_left
                      · intro w' hSw; (try dsimp only at hSw); go_simp; (try with_reducible rfl)
                      try simp only [Act.put, List.setIfInBounds_toArray, List.set_cons_zero, List.set_cons_succ]
                      refine wpAnyH_take (i := 10) (oi := ⟨_, _, _, _, _, _⟩) (v := ?_) rfl (by kernel_rfl) (by kernel_rfl) (by kernel_rfl) (fun _ _ _ h => h) (Or.inl ⟨by rfl, ?_⟩) (by assumption) ?_
                      rotate_left
                      · intro w' hSw; (try dsimp only at hSw); go_simp; (try with_reducible rfl)
                      try simp only [Act.put, List.setIfInBounds_toArray, List.set_cons_zero, List.set_cons_succ]
                      refine wpAnyH_take (i := 13) (oi := ⟨_, _, _, _, _, _⟩) (v := ?_) rfl (by kernel_rfl) (by kernel_rfl) (by kernel_rfl) (fun _ _ _ h => h) (Or.inl ⟨by rfl, ?_⟩) (by assumption) ?_
                      rotate_left
                      · intro w' hSw; (try dsimp only at hSw); go_simp; (try with_reducible rfl)
                      try simp only [Act.put, List.setIfInBounds_toArray, List.set_cons_zero, List.set_cons_succ]
                      refine wpAnyH_take (i := 14) (oi := ⟨_, _, _, _, _, _⟩) (v := ?_) rfl (by kernel_rfl) (by kernel_rfl) (by kernel_rfl) (fun _ _ _ h => h) (Or.inl ⟨by rfl, ?_⟩) (by assumption) ?_
                      rotate_left
                      · intro w' hSw; (try dsimp only at hSw); go_simp; (try with_reducible rfl)
                      try simp only [Act.put, List.setIfInBounds_toArray, List.set_cons_zero, List.set_cons_succ]
                      refine wpAnyH_take (i := 15) (oi := ⟨_, _, _, _, _, _⟩) (v := ?_) rfl (by kernel_rfl) (by kernel_rfl) (by kernel_rfl) (fun _ _ _ h => h) (Or.inl ⟨by rfl, ?_⟩) (by assumption) ?_
                      rotate_left
                      · intro w' hSw; (try dsimp only at hSw); go_simp; (try with_reducible rfl)
                      try simp only [Act.put, List.setIfInBounds_toArray, List.set_cons_zero, List.set_cons_succ]
                      refine wpAnyH_take (i := 16) (oi := ⟨_, _, _, _, _, _⟩) (v := ?_) rfl (by kernel_rfl) (by kernel_rfl) (by kernel_rfl) (fun _ _ _ h => h) (Or.inl ⟨by rfl, ?_⟩) (by assumption) ?_
                      rotate_left
                      · intro w' hSw; (try dsimp only at hSw); go_simp; (try simp only [hw1]); (try with_reducible rfl)
                      try simp only [Act.put, List.setIfInBounds_toArray, List.set_cons_zero, List.set_cons_succ]
                      refine wpAnyH_take (i := 17) (oi := ⟨_, _, _, _, _, _⟩) (v := .slice (some ⟨gr, j * 3, none⟩) 1 (rc - j)) rfl (by kernel_rfl) (by kernel_rfl) (by kernel_rfl) (fun _ _ _ h => h) (Or.inl ⟨by rfl, ?_⟩) (by assumption) ?_
                      · intro w' hSw; (try dsimp only at hSw); go_simp; (try simp only [hw1]); (try rw [if_pos (by omega)]); (try rw [if_neg hrcj]); (try simp only [Nat.add_sub_cancel_left]); (try (intro h; exact absurd (h (by omega)) (by omega))); (try with_reducible rfl)
                      try simp only [Act.put, List.setIfInBounds_toArray, List.set_cons_zero, List.set_cons_succ]
                      refine wpAnyH_ready (rs := [11]) (by kernel_rfl) (by simp) ?_
                      refine AllReadyH.cons (o := ⟨_, _, _, _, _, _⟩) rfl (fun K9 hK9 => ?_) AllReadyH.nil
                      go_simp
                      have D1 := Lib.hid (D0.out.alloc D0.out.size (.cells #[.int .i64 z1, .string z2, .slice z3 z4.length z5] 55))
                      have OC : Hid (Calls Tryd.prog 13 #[.slice (some ⟨wr.drew.heap.size, 0, none⟩) 1 1] (wr.drew.alloc (.cells #[.int .i64 z1, .string z2, .slice z3 z4.length z5] 55)) (ToldP (wr.drew.alloc (.cells #[.int .i64 z1, .string z2, .slice z3 z4.length z5] 55)) [((z1, z2, z4), z3, z5)])) := Lib.hid (ofP_c (some ⟨wr.drew.heap.size, 0, none⟩) 1 [((z1, z2, z4), z3, z5)] _ (new_one wr.drew ((z1, z2, z4), z3, z5) 55 (fun h => h)) (by simp))
                      refine hK9.out _ _ (HS.out _ D1.out) (fun hHeld => ?_)
                      clear hK9 K9
                      try simp only [Act.put, List.setIfInBounds_toArray, List.set_cons_zero, List.set_cons_succ]
                      refine wpAnyH_ready (rs := [12]) (by kernel_rfl) (by simp) ?_
                      refine AllReadyH.cons (o := ⟨_, _, _, _, _, _⟩) rfl (fun K9 hK9 => ?_) AllReadyH.nil
                      go_simp
                      refine (OC.out).mono ?_
                      rintro e u2 ⟨v2, rfl, ho2, b2⟩
                      have D2 := Lib.hid (D1.out.trans (b2.mono D1.out.size))
                      obtain ⟨A2, c2, e2, hr2, _, _, _⟩ := ho2.rows (N := fun _ => False) fsc_len (by decide) (fun _ _ h => h)
                      simp only [List.length_cons, List.length_nil, Nat.zero_add] at e2
                      subst e2
                      have SCC : Hid (Calls Tryd.prog 15 #[.slice A2 1 c2, .slice (some ⟨gr, j * 3, none⟩) 1 (rc - j)] u2 (fun e w' => e = .returned (.bool true) ∧ Below u2.heap.size u2 w')) := Lib.hid (by
                        have h := sameP_c A2 c2 [((z1, z2, z4), z3, z5)] (some ⟨gr, j * 3, none⟩) (rc - j) [((y1, y2, y4), y3, y5)] u2 hr2 (HRW.out _ D2.out) (by simp) (by simp) (fun x hx => by rw [List.mem_singleton.1 hx]; exact ⟨HZF.out _ D2.out, hz4⟩) (fun x hx => by rw [List.mem_singleton.1 hx]; exact HYF.out _ D2.out)
                        rw [SDC.out] at h
                        exact h)
                      clear ho2 hr2 b2 OC
                      go_wp2_with fail
                      refine hK9.out _ _ (HS.out _ D2.out) (fun hHeld => ?_)
                      clear hK9 K9
                      try simp only [Act.put, List.setIfInBounds_toArray, List.set_cons_zero, List.set_cons_succ]
                      refine wpAnyH_ready (rs := [18]) (by kernel_rfl) (by simp) ?_
                      refine AllReadyH.cons (o := ⟨_, _, _, _, _, _⟩) rfl (fun K9 hK9 => ?_) AllReadyH.nil
                      go_simp
                      (with_reducible refine (SCC.out).mono ?_)
                      rintro e u3 ⟨rfl, b3⟩
                      have D3 := Lib.hid (D2.out.trans (b3.mono D2.out.size))
                      clear b3 SCC
                      go_wp2_with fail
                      refine hK9.out _ _ (HS.out _ D3.out) (fun hHeld => ?_)
                      clear hK9 K9
                      try simp only [Act.put, List.setIfInBounds_toArray, List.set_cons_zero, List.set_cons_succ]
                      refine wpAnyH_take (i := 19) (oi := ⟨_, _, _, _, _, _⟩) (v := ?_) rfl (by kernel_rfl) (by kernel_rfl) (by kernel_rfl) (fun _ _ _ h => h) (Or.inl ⟨by rfl, ?_⟩) (by assumption) ?_
                      rotate_left
                      · intro w' hSw; (try dsimp only at hSw); go_simp; (try with_reducible rfl)
                      try simp only [Act.put, List.setIfInBounds_toArray, List.set_cons_zero, List.set_cons_succ]
                      refine wpAnyH_take (i := 20) (oi := ⟨_, _, _, _, _, _⟩) (v := ?_) rfl (by kernel_rfl) (by kernel_rfl) (by kernel_rfl) (fun _ _ _ h => h) (Or.inl ⟨by rfl, ?_⟩) (by assumption) ?_
                      rotate_left
                      · intro w' hSw; (try dsimp only at hSw); go_simp; (try with_reducible rfl)
                      try simp only [Act.put, List.setIfInBounds_toArray, List.set_cons_zero, List.set_cons_succ]
                      refine wpAnyH_take (i := 21) (oi := ⟨_, _, _, _, _, _⟩) (v := ?_) rfl (by kernel_rfl) (by kernel_rfl) (by kernel_rfl) (fun _ _ _ h => h) (Or.inl ⟨by rfl, ?_⟩) (by assumption) ?_
                      rotate_left
                      · intro w' hSw; (try dsimp only at hSw); go_simp; (try with_reducible rfl)
                      try simp only [Act.put, List.setIfInBounds_toArray, List.set_cons_zero, List.set_cons_succ]
                      refine wpAnyH_done (by kernel_rfl) ?_ _
                      have E4 := Lib.hid (hB2.out.trans (D3.out.mono hB2.out.size))
                      clear hHeld
                      go_wp2_with fail
                      go_roundw
                      case rel => exact ⟨j + 1, true, by omega, by go_num, rfl, PF, E4⟩
                      case measure => first | (simp [RowKit.intOf]; done) | (simp [RowKit.intOf]; omega)
                    · have PF := Lib.hid (inK_no hIn.out hjl he)
                      have e3 : (rs[j].1.1 == (d : Int)) = false := by simp [he]
                      clear hvo hrr r0c r0d he hmem
                      generalize rs[j] = y at *
                      obtain ⟨⟨y1, y2, y4⟩, y3, y5⟩ := y
                      dsimp only at HC e3
                      go_wp2_with fail
                      refine wp_region_held_drew (S := (fun w' => w'.cell? ((⟨gr, 0, none⟩ : Addr).add (j * 3)) = some (.int .i64 y1) ∧ w'.cell? ⟨gr, j * 3, none⟩ = some (.int .i64 y1))) (by kernel_rfl) (HC.out _ D0.out) (fun hHeld => ?_)
                      refine wpAnyH_take (i := 0) (oi := ⟨_, _, _, _, _, _⟩) (v := ?_) rfl (by kernel_rfl) (by kernel_rfl) (by kernel_rfl) (fun _ _ _ h => h) (Or.inl ⟨by rfl, ?_⟩) (by assumption) ?_
                      rotate_left
                      · intro w' hSw; (try dsimp only at hSw); go_simp; (try with_reducible rfl)
                      try simp only [Act.put, List.setIfInBounds_toArray, List.set_cons_zero, List.set_cons_succ]
                      refine wpAnyH_take (i := 1) (oi := ⟨_, _, _, _, _, _⟩) (v := ?_) rfl (by kernel_rfl) (by kernel_rfl) (by kernel_rfl) (fun _ _ _ h => h) (Or.inl ⟨by rfl, ?_⟩) (by assumption) ?_
                      rotate_left
                      · intro w' hSw; (try dsimp only at hSw); go_simp; (try with_reducible rfl)
                      try simp only [Act.put, List.setIfInBounds_toArray, List.set_cons_zero, List.set_cons_succ]
                      refine wpAnyH_take (i := 2) (oi := ⟨_, _, _, _, _, _⟩) (v := ?_) rfl (by kernel_rfl) (by kernel_rfl) (by kernel_rfl) (fun _ _ _ h => h) (Or.inl ⟨by rfl, ?_⟩) (by assumption) ?_
                      rotate_left
                      · intro w' hSw; (try dsimp only at hSw); go_simp; (try with_reducible rfl)
                      try simp only [Act.put, List.setIfInBounds_toArray, List.set_cons_zero, List.set_cons_succ]
                      refine wpAnyH_take (i := 3) (oi := ⟨_, _, _, _, _, _⟩) (v := ?_) rfl (by kernel_rfl) (by kernel_rfl) (by kernel_rfl) (fun _ _ _ h => h) (Or.inl ⟨by rfl, ?_⟩) (by assumption) ?_
                      rotate_left
                      · intro w' hSw; (try dsimp only at hSw); go_simp; (try with_reducible rfl)
                      try simp only [Act.put, List.setIfInBounds_toArray, List.set_cons_zero, List.set_cons_succ]
                      refine wpAnyH_take (i := 4) (oi := ⟨_, _, _, _, _, _⟩) (v := ?_) rfl (by kernel_rfl) (by kernel_rfl) (by kernel_rfl) (fun _ _ _ h => h) (Or.inl ⟨by rfl, ?_⟩) (by assumption) ?_
                      rotate_left
                      · intro w' hSw; (try dsimp only at hSw); go_simp; (try with_reducible rfl)
                      try simp only [Act.put, List.setIfInBounds_toArray, List.set_cons_zero, List.set_cons_succ]
                      refine wpAnyH_take (i := 5) (oi := ⟨_, _, _, _, _, _⟩) (v := ?_) rfl (by kernel_rfl) (by kernel_rfl) (by kernel_rfl) (fun _ _ _ h => h) (Or.inl ⟨by rfl, ?_⟩) (by assumption) ?_
                      rotate_left
                      · intro w' hSw; (try dsimp only at hSw); go_simp; (try with_reducible rfl)
                      try simp only [Act.put, List.setIfInBounds_toArray, List.set_cons_zero, List.set_cons_succ]
                      refine wpAnyH_take (i := 6) (oi := ⟨_, _, _, _, _, _⟩) (v := ?_) rfl (by kernel_rfl) (by kernel_rfl) (by kernel_rfl) (fun _ _ _ h => h) (Or.inl ⟨by rfl, ?_⟩) (by assumption) ?_
                      rotate_left
                      · intro w' hSw; (try dsimp only at hSw); go_simp; (try with_reducible rfl)
                      try simp only [Act.put, List.setIfInBounds_toArray, List.set_cons_zero, List.set_cons_succ]
                      refine wpAnyH_take (i := 7) (oi := ⟨_, _, _, _, _, _⟩) (v := ?_) rfl (by kernel_rfl) (by kernel_rfl) (by kernel_rfl) (fun _ _ _ h => h) (Or.inl ⟨by rfl, ?_⟩) (by assumption) ?_
                      rotate_left
                      · intro w' hSw; (try dsimp only at hSw); go_simp; (try with_reducible rfl)
                      try simp only [Act.put, List.setIfInBounds_toArray, List.set_cons_zero, List.set_cons_succ]
                      refine wpAnyH_take (i := 8) (oi := ⟨_, _, _, _, _, _⟩) (v := ?_) rfl (by kernel_rfl) (by kernel_rfl) (by kernel_rfl) (fun _ _ _ h => h) (Or.inl ⟨by rfl, ?_⟩) (by assumption) ?_
                      rotate_left
                      · intro w' hSw; (try dsimp only at hSw); go_simp; (try with_reducible rfl)
                      try simp only [Act.put, List.setIfInBounds_toArray, List.set_cons_zero, List.set_cons_succ]
                      refine wpAnyH_take (i := 9) (oi := ⟨_, _, _, _, _, _⟩) (v := ?_) rfl (by kernel_rfl) (by kernel_rfl) (by kernel_rfl) (fun _ _ _ h => h) (Or.inl ⟨by rfl, ?_⟩) (by assumption) ?_
                      rotate_left
                      · intro w' hSw; (try dsimp only at hSw); go_simp; (try with_reducible rfl)
                      try simp only [Act.put, List.setIfInBounds_toArray, List.set_cons_zero, List.set_cons_succ]
                      refine wpAnyH_take (i := 10) (oi := ⟨_, _, _, _, _, _⟩) (v := undef) rfl (by kernel_rfl) (by kernel_rfl) (by kernel_rfl) (fun _ _ _ h => h) (Or.inr ⟨by rfl, rfl⟩) (by assumption) ?_
                      try simp only [Act.put, List.setIfInBounds_toArray, List.set_cons_zero, List.set_cons_succ]
                      refine wpAnyH_take (i := 11) (oi := ⟨_, _, _, _, _, _⟩) (v := undef) rfl (by kernel_rfl) (by kernel_rfl) (by kernel_rfl) (fun _ _ _ h => h) (Or.inr ⟨by rfl, rfl⟩) (by assumption) ?_
                      try simp only [Act.put, List.setIfInBounds_toArray, List.set_cons_zero, List.set_cons_succ]
                      refine wpAnyH_take (i := 12) (oi := ⟨_, _, _, _, _, _⟩) (v := undef) rfl (by kernel_rfl) (by kernel_rfl) (by kernel_rfl) (fun _ _ _ h => h) (Or.inr ⟨by rfl, rfl⟩) (by assumption) ?_
                      try simp only [Act.put, List.setIfInBounds_toArray, List.set_cons_zero, List.set_cons_succ]
                      refine wpAnyH_take (i := 13) (oi := ⟨_, _, _, _, _, _⟩) (v := undef) rfl (by kernel_rfl) (by kernel_rfl) (by kernel_rfl) (fun _ _ _ h => h) (Or.inr ⟨by rfl, rfl⟩) (by assumption) ?_
                      try simp only [Act.put, List.setIfInBounds_toArray, List.set_cons_zero, List.set_cons_succ]
                      refine wpAnyH_take (i := 14) (oi := ⟨_, _, _, _, _, _⟩) (v := undef) rfl (by kernel_rfl) (by kernel_rfl) (by kernel_rfl) (fun _ _ _ h => h) (Or.inr ⟨by rfl, rfl⟩) (by assumption) ?_
                      try simp only [Act.put, List.setIfInBounds_toArray, List.set_cons_zero, List.set_cons_succ]
                      refine wpAnyH_take (i := 15) (oi := ⟨_, _, _, _, _, _⟩) (v := undef) rfl (by kernel_rfl) (by kernel_rfl) (by kernel_rfl) (fun _ _ _ h => h) (Or.inr ⟨by rfl, rfl⟩) (by assumption) ?_
                      try simp only [Act.put, List.setIfInBounds_toArray, List.set_cons_zero, List.set_cons_succ]
                      refine wpAnyH_take (i := 16) (oi := ⟨_, _, _, _, _, _⟩) (v := undef) rfl (by kernel_rfl) (by kernel_rfl) (by kernel_rfl) (fun _ _ _ h => h) (Or.inr ⟨by rfl, rfl⟩) (by assumption) ?_
                      try simp only [Act.put, List.setIfInBounds_toArray, List.set_cons_zero, List.set_cons_succ]
                      refine wpAnyH_take (i := 17) (oi := ⟨_, _, _, _, _, _⟩) (v := undef) rfl (by kernel_rfl) (by kernel_rfl) (by kernel_rfl) (fun _ _ _ h => h) (Or.inr ⟨by rfl, rfl⟩) (by assumption) ?_
                      try simp only [Act.put, List.setIfInBounds_toArray, List.set_cons_zero, List.set_cons_succ]
                      refine wpAnyH_take (i := 18) (oi := ⟨_, _, _, _, _, _⟩) (v := undef) rfl (by kernel_rfl) (by kernel_rfl) (by kernel_rfl) (fun _ _ _ h => h) (Or.inr ⟨by rfl, rfl⟩) (by assumption) ?_
                      try simp only [Act.put, List.setIfInBounds_toArray, List.set_cons_zero, List.set_cons_succ]
                      refine wpAnyH_take (i := 19) (oi := ⟨_, _, _, _, _, _⟩) (v := ?_) rfl (by kernel_rfl) (by kernel_rfl) (by kernel_rfl) (fun _ _ _ h => h) (Or.inl ⟨by rfl, ?_⟩) (by assumption) ?_
                      rotate_left
                      · intro w' hSw; (try dsimp only at hSw); go_simp; (try with_reducible rfl)
                      try simp only [Act.put, List.setIfInBounds_toArray, List.set_cons_zero, List.set_cons_succ]
                      refine wpAnyH_take (i := 20) (oi := ⟨_, _, _, _, _, _⟩) (v := ?_) rfl (by kernel_rfl) (by kernel_rfl) (by kernel_rfl) (fun _ _ _ h => h) (Or.inl ⟨by rfl, ?_⟩) (by assumption) ?_
                      rotate_left
                      · intro w' hSw; (try dsimp only at hSw); go_simp; (try with_reducible rfl)
                      try simp only [Act.put, List.setIfInBounds_toArray, List.set_cons_zero, List.set_cons_succ]
                      refine wpAnyH_take (i := 21) (oi := ⟨_, _, _, _, _, _⟩) (v := ?_) rfl (by kernel_rfl) (by kernel_rfl) (by kernel_rfl) (fun _ _ _ h => h) (Or.inl ⟨by rfl, ?_⟩) (by assumption) ?_
                      rotate_left
                      · intro w' hSw; (try dsimp only at hSw); go_simp; (try with_reducible rfl)
                      try simp only [Act.put, List.setIfInBounds_toArray, List.set_cons_zero, List.set_cons_succ]
                      refine wpAnyH_done (by kernel_rfl) ?_ _
                      clear hHeld
                      go_wp2_with fail
                      go_roundw
                      case rel => exact ⟨j + 1, false, by omega, by go_num, rfl, PF, ED⟩
                      case measure => first | (simp [RowKit.intOf]; done) | (simp [RowKit.intOf]; omega)
                · obtain rfl : j = rs.length := by omega
                  obtain rfl : b = cc := inK_end SW.out hIn.out HZ.out
                  have hBe := Lib.hid (hBc.out.trans (hB2.out.mono hBc.out.size))
                  clear hj hjl
                  go_wp2_with fail
                  go_roundw
                  case rel => exact ⟨d + 1, by omega, by go_num, hBe⟩
                  case measure => first | (simp [RowKit.intOf]; done) | (simp [RowKit.intOf]; omega)
          case first =>
            go_wp2_with fail
            refine (get_any (d : Int) SD.out.inv).mono ?_
            rintro e q1 ⟨z, b, rfl, hz, hv, hz4, b1⟩
            have B1 := Lib.hid (hB.out.trans (b1.mono hB.out.size))
            have HZ := Lib.hid hz
            have HV := Lib.hid (fun w' (h : Below q1.heap.size q1 w') => RowsAt.below hv h)
            clear hz hv b1
            go_wp2_with fail
            go_meet
            exact ⟨z, b, q1.heap.size, rfl, rfl, Lib.hid (heap_alloc_new _ _), HZ, Lib.hid (HV.out _ ((Below.refl _ _).alloc (Nat.le_refl _) _)), hz4, Lib.hid (B1.out.alloc B1.out.size _)⟩
        · have hBe := Lib.hid (EW.out.trans (hB.out.mono EW.out.size))
          go_wp2_with fail
          go_ret
          exact ⟨rfl, hBe.out⟩
end Go.Proofs.YtoaepnidlddmjaaDoor
