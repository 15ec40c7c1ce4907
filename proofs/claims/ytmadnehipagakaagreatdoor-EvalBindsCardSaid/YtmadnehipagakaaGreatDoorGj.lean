/- EvalGlobs: globals keep what was set, those that are none are not made. -/
import Derived.Test.YtmadnehipagakaaGreatDoorGi
import Derived.Test.YtmadnehipagakaaGreatDoorOa
import Derived.Test.YtmadnehipagakaaGreatDoorNe
namespace Go.Proofs.YtmadnehipagakaaGreatDoor
open Go.ChangeShapes Go.WideShapes Go.RowKit Go.Lib Go.Sort Go.Shelf KP
/-! ### Binds among a law's arguments, opened -/
section
open Go.Deep
theorem cB : Tryz.prog.cellsOf 73 = 4 := by kernel_rfl
variable {H : Type} {enc : TypeId × Value → H} {w : World}
structure cameB (b : Bd) : Prop where
  n : b.1.size ≤ 9223372036854775807
  v : cameV b.2
theorem open_bind {n : Nat} {cs : List Value} {x : DataW H × List MemPlace} (h : DataW.trod enc Tryz.prog w 0 (fun _ => true) true n 73 cs = some x) :
    ∃ b : Bd, (cs[0]? = some (.string b.1) ∧ cs[1]? = some (.int .i64 b.2.1) ∧ cs[2]? = some (.int .i64 b.2.2.1) ∧ cs[3]? = some (.string b.2.2.2)) ∧ cs.length = 4 ∧ cameB b := by
  obtain ⟨xs, n', _, _, hlen, hxl, hfs⟩ := DataW.trod_struct Tryz.underlying73 h
  have hx : ∀ i (h : i < 2), ∃ x, xs[i]? = some x := fun i h => ⟨xs[i]'(by rw [hxl]; exact h), List.getElem?_eq_getElem _⟩
  obtain ⟨x0, e0⟩ := hx 0 (by omega)
  obtain ⟨x1, e1⟩ := hx 1 (by omega)
  have h0 : DataW.trod enc Tryz.prog w 0 (fun _ => true) true n' 9 ((cs.drop 0).take (Tryz.prog.cellsOf 9)) = xs[0]? := hfs 0 _ rfl
  have h1 : DataW.trod enc Tryz.prog w 0 (fun _ => true) true n' 26 ((cs.drop 1).take (Tryz.prog.cellsOf 26)) = xs[1]? := hfs 1 _ rfl
  rw [e0, cS] at h0
  rw [e1, cV] at h1
  obtain ⟨s, hs, _, ws⟩ := DataW.trod_string Tryz.underlying9 h0
  obtain ⟨a, ⟨a0, a1, a2⟩, _, ha⟩ := open_cells h1
  have get : ∀ j v, ((cs.drop 1).take 3)[j]? = some v → cs[j + 1]? = some v := by
    intro j v hv
    rw [List.getElem?_take] at hv
    split at hv
    · rw [List.getElem?_drop] at hv; rwa [Nat.add_comm]
    · cases hv
  exact ⟨(s, a), ⟨take_one hs, get 0 _ a0, get 1 _ a1, get 2 _ a2⟩, by rw [hlen, cB], ws, ha⟩
theorem open_binds {v : Value} {d : DataW H} {p : List MemPlace} (hv : ∃ a len cap, v = .slice a len cap) (h : DataW.Trod enc Tryz.prog w 0 (fun _ => true) true 38 v d p) :
    ∃ A ls c, v = .slice A ls.length c ∧ BindsAt (fun _ => False) w A ls ∧ (∀ x ∈ ls, cameB x) ∧ (A = none → c = 0) := by
  obtain ⟨a0, len0, cap0, rfl⟩ := hv
  obtain ⟨fuel, hf⟩ := h
  rcases open_slice Tryz.underlying38 hf with ⟨hcs, _⟩ | ⟨a, len, cap, m, n, D, Pl, hcs, _, hl, hm, hmm, _, hel⟩
  · have : (Value.slice a0 len0 cap0) = .slice none 0 0 := by simpa [Value.cells] using hcs
    exact ⟨none, [], 0, this, BindsAt.nil _ _ _, by simp, fun _ => rfl⟩
  · have hv : (Value.slice a0 len0 cap0) = .slice (some a) len cap := by simpa [Value.cells] using hcs
    rw [cB] at hel
    have hone : ∀ i, i < len → ∃ x : Bd, (∀ j v, x.cs[j]? = some v → w.cell? ((a.add (i * 4)).add j) = some v) ∧ cameB x := by
      intro i hi
      obtain ⟨cs, h1, h2⟩ := hel i (by rw [hmm]; split <;> omega)
      obtain ⟨hlen, hcell⟩ := cells_at h1
      obtain ⟨x, ⟨e0, e1, e2, e3⟩, _, hr⟩ := open_bind h2
      refine ⟨x, ?_, hr⟩
      intro j v hj
      refine hcell j v ?_
      rw [← hj]
      match j with
      | 0 => exact e0
      | 1 => exact e1
      | 2 => exact e2
      | 3 => exact e3
      | j + 4 => rw [List.getElem?_eq_none (by omega)]; rfl
    obtain ⟨ls, hlen, has⟩ := exists_list len hone
    refine ⟨some a, ls, cap, by rw [hv, hlen], fun k hk => ⟨a, rfl, fun h => h, (has k hk).1⟩, ?_, fun h => by cases h⟩
    intro x hx
    obtain ⟨k, hk, rfl⟩ := List.getElem_of_mem hx
    exact (has k hk).2
end
/-- Binds as the laws let them in. -/
structure RightBs (l : List Bd) : Prop where
  few : l.length ≤ 30
  apart : ∀ i j (hi : i < l.length) (hj : j < l.length), i < j → l[i].1 ≠ l[j].1
  right : ∀ i (hi : i < l.length), rightB l[i].2 = true
theorem rright_b (a : Vl) (r : Bool) (h : rightB a = r) (hs : cameV a) (W : World) : Calls Tryz.prog 12 #[a.val] W fun e w' => e = .returned (.bool r) ∧ Below W.heap.size W w' := by
  rw [← h]; exact rright_c a W hs.s
set_option maxRecDepth 100000 in
set_option maxHeartbeats 4000000 in
theorem right8_c (A : Option Addr) (c : Nat) (l : List Bd) (w : World) (hI : BindsAt (fun _ => False) w A l) (hx : ∀ x ∈ l, cameB x) :
    Calls Tryz.prog 21 #[.slice A l.length c] w fun e w' => ∃ b, e = .returned (.bool b) ∧ (b = true → RightBs l) ∧ Below w.heap.size w w' := by
  by_cases h30 : 30 < l.length
  · have hI2 : (30 : Int) < (l.length : Int) := by omega
    clear hI hx h30
    go_enter Tryz.func21, Tryz.ntmps21
    go_wp2_with fail
    go_ret
    exact ⟨false, rfl, fun h => (by cases h), Below.refl _ _⟩
  have hlI : (l.length : Int) ≤ 30 := by omega
  have V := Lib.hid (fun W (h : Below w.heap.size w W) => hI.below h)
  have HX := Lib.hid hx
  have H30 := Lib.hid h30
  clear hI hx h30
  go_enter Tryz.func21, Tryz.ntmps21
  go_wp2_with fail
  go_loopw [3] (fun i wr => ∃ k : Nat, k ≤ l.length ∧ i = .int .i64 k ∧ Hid (Below w.heap.size w wr) ∧ Hid (∀ j (h : j < l.length), j < k → rightB l[j].2 = true) ∧ Hid (∀ i j (hi : i < l.length) (hj : j < l.length), i < j → j < k → l[i].1 ≠ l[j].1)) (fun i _ => l.length - (intOf i).toNat)
  case atStart => exact ⟨0, by omega, rfl, Lib.hid (Below.refl _ _), Lib.hid (fun _ _ h => by omega), Lib.hid (fun _ _ _ _ _ h => by omega)⟩
  case round =>
    obtain ⟨k, hk, rfl, hB, hR, hP⟩ := hrel
    by_cases hlt : k < l.length
    · have hltI : (k : Int) < (l.length : Int) := by omega
      obtain ⟨ad, rfl, _, c0, c1, c2, c3⟩ := (V.out _ hB.out).at hlt
      have hc := Lib.hid (HX.out l[k] (List.getElem_mem hlt))
      have hRn : Hid (rightB l[k].2 = true → ∀ j (h : j < l.length), j < k + 1 → rightB l[j].2 = true) := Lib.hid (fun e j h h2 => by
        by_cases e2 : j = k
        · subst e2; exact e
        · exact hR.out j h (by omega))
      have hPn : Hid ((∀ i (hi : i < l.length), i < k → l[i].1 ≠ l[k].1) → ∀ i j (hi : i < l.length) (hj : j < l.length), i < j → j < k + 1 → l[i].1 ≠ l[j].1) := Lib.hid (fun e i j hi hj hij hjk => by
        by_cases e2 : j = k
        · subst e2; exact e i hi hij
        · exact hP.out i j hi hj hij (by omega))
      generalize l[k] = b at *
      obtain ⟨b1, b2, b3, b4⟩ := b
      dsimp only at c0 c1 c2 c3
      cases hr : rightB (b2, b3, b4) with
      | false =>
        have RC := Lib.hid (rright_b (b2, b3, b4) false hr hc.out.v)
        clear hr
        go_wp2_with fail
        refine (RC.out _).mono ?_
        rintro e w2 ⟨rfl, q2⟩
        have E2 := Lib.hid (hB.out.trans (q2.mono hB.out.size))
        clear q2 c0 c1 c2 c3
        go_wp2_with fail
        go_ret
        exact ⟨false, rfl, fun h => (by cases h), E2.out⟩
      | true =>
        have RC := Lib.hid (rright_b (b2, b3, b4) true hr hc.out.v)
        have hRk := Lib.hid (hRn.out hr)
        clear hr hRn
        by_cases h100 : 100 < b1.size
        · have hbI : (100 : Int) < (b1.size : Int) := by omega
          go_wp2_with fail
          refine (RC.out _).mono ?_
          rintro e w2 ⟨rfl, q2⟩
          have E2 := Lib.hid (hB.out.trans (q2.mono hB.out.size))
          have d0 := (q2.cell (p := ad.add (k * 4)) (World.block_lt_of_cell? _ _ c0)).trans c0
          clear q2 c0 c1 c2 c3
          go_wp2_with fail
          go_ret
          exact ⟨false, rfl, fun h => (by cases h), E2.out⟩
        · have hbI : (b1.size : Int) ≤ 100 := by omega
          go_wp2_with fail
          refine (RC.out _).mono ?_
          rintro e w2 ⟨rfl, q2⟩
          have E2 := Lib.hid (hB.out.trans (q2.mono hB.out.size))
          have d0 := (q2.cell (p := ad.add (k * 4)) (World.block_lt_of_cell? _ _ c0)).trans c0
          clear q2 c0 c1 c2 c3
          go_wp2_with fail
          go_loopw [4] (fun i wr => ∃ j : Nat, j ≤ k ∧ i = .int .i64 j ∧ Hid (Below w.heap.size w wr) ∧ Hid (Below w2.heap.size w2 wr) ∧ Hid (∀ i (hi : i < l.length), i < j → l[i].1 ≠ b1)) (fun i _ => k - (intOf i).toNat)
          case atStart => exact ⟨0, by omega, rfl, E2, Lib.hid (Below.refl _ _), Lib.hid (fun _ _ h => by omega)⟩
          case round =>
            obtain ⟨j, hj, rfl, hB3, hB4, hQ⟩ := hrel
            by_cases hjk : j < k
            · have hjkI : (j : Int) < (k : Int) := by omega
              have hjl : j < l.length := by omega
              have hjlI : (j : Int) < (l.length : Int) := by omega
              obtain ⟨ad2, had2, _, e0, _, _, _⟩ := (V.out _ hB3.out).at hjl
              obtain rfl := Option.some.inj had2
              have d1 := (hB4.out.cell (p := ad.add (k * 4)) (World.block_lt_of_cell? _ _ d0)).trans d0
              have hQ2 : Hid (l[j].1 ≠ b1 → ∀ i (hi : i < l.length), i < j + 1 → l[i].1 ≠ b1) := Lib.hid (fun e i hi hij => by
                by_cases e2 : i = j
                · subst e2; exact e
                · exact hQ.out i hi (by omega))
              generalize l[j].1 = x at *
              have HS : Hid (∀ W, Below wr.heap.size wr W → (fun W => Below wr.heap.size wr W ∧ W.cell? (ad.add (j * 4)) = some (.string x) ∧ W.cell? (ad.add (k * 4)) = some (.string b1)) W) := Lib.hid (fun W h => ⟨h, (h.cell (p := ad.add (j * 4)) (World.block_lt_of_cell? _ _ e0)).trans e0, (h.cell (p := ad.add (k * 4)) (World.block_lt_of_cell? _ _ d1)).trans d1⟩)
              have D4 : Hid (Below wr.heap.size wr wr.drew) := Lib.hid ⟨rfl, rfl, rfl, Nat.le_refl _, fun _ _ => rfl⟩
              by_cases hxb : x = b1
              · have hq := str_eq hxb
                clear hxb
                go_wp2_with fail
                refine wp_region_held_drew (S := (fun W => Below wr.heap.size wr W ∧ W.cell? (ad.add (j * 4)) = some (.string x) ∧ W.cell? (ad.add (k * 4)) = some (.string b1))) (by kernel_rfl) (HS.out _ D4.out) (fun hHeld => ?_)
                refine wpAnyH_take (i := 0) (oi := ⟨_, _, _, _, _, _⟩) (v := ?_) rfl (by kernel_rfl) (by kernel_rfl) (by kernel_rfl) (fun _ _ _ h => h) (Or.inl ⟨by rfl, ?_⟩) (by assumption) ?_
                rotate_left
                · intro w' hSw; (try dsimp only at hSw); go_simp; (try with_reducible rfl)
                try simp only [Act.put, List.setIfInBounds_toArray, List.set_cons_zero, List.set_cons_succ]
                refine wpAnyH_take (i := 1) (oi := ⟨_, _, _, _, _, _⟩) (v := ?_) rfl (by kernel_rfl) (by kernel_rfl) (by kernel_rfl) (fun _ _ _ h => h) (Or.inl ⟨by rfl, ?_⟩) (by assumption) ?_
                rotate_left
                · intro w' hSw; (try dsimp only at hSw); go_simp; (try with_reducible rfl)
                try simp only [Act.put, List.setIfInBounds_toArray, List.set_cons_zero, List.set_cons_succ]
                refine wpAnyH_take (i := 2) (oi := ⟨_, _, _, _, _, _⟩) (v := ?_) rfl (by kernel_rfl) (by kernel_rfl) (by kernel_rfl) (fun _ _ _ h => h) (Or.inl ⟨by rfl, ?_⟩) (by assumption) ?_
                rotate_left
                · intro w' hSw; (try dsimp only at hSw); go_simp; (try with_reducible rfl)
                try simp only [Act.put, List.setIfInBounds_toArray, List.set_cons_zero, List.set_cons_succ]
                refine wpAnyH_take (i := 3) (oi := ⟨_, _, _, _, _, _⟩) (v := ?_) rfl (by kernel_rfl) (by kernel_rfl) (by kernel_rfl) (fun _ _ _ h => h) (Or.inl ⟨by rfl, ?_⟩) (by assumption) ?_
                rotate_left
                · intro w' hSw; (try dsimp only at hSw); go_simp; (try with_reducible rfl)
                try simp only [Act.put, List.setIfInBounds_toArray, List.set_cons_zero, List.set_cons_succ]
                refine wpAnyH_take (i := 4) (oi := ⟨_, _, _, _, _, _⟩) (v := ?_) rfl (by kernel_rfl) (by kernel_rfl) (by kernel_rfl) (fun _ _ _ h => h) (Or.inl ⟨by rfl, ?_⟩) (by assumption) ?_
                rotate_left
                · intro w' hSw; (try dsimp only at hSw); go_simp; (try with_reducible rfl)
                try simp only [Act.put, List.setIfInBounds_toArray, List.set_cons_zero, List.set_cons_succ]
                refine wpAnyH_take (i := 5) (oi := ⟨_, _, _, _, _, _⟩) (v := ?_) rfl (by kernel_rfl) (by kernel_rfl) (by kernel_rfl) (fun _ _ _ h => h) (Or.inl ⟨by rfl, ?_⟩) (by assumption) ?_
                rotate_left
                · intro w' hSw; (try dsimp only at hSw); go_simp; (try with_reducible rfl)
                try simp only [Act.put, List.setIfInBounds_toArray, List.set_cons_zero, List.set_cons_succ]
                refine wpAnyH_take (i := 6) (oi := ⟨_, _, _, _, _, _⟩) (v := ?_) rfl (by kernel_rfl) (by kernel_rfl) (by kernel_rfl) (fun _ _ _ h => h) (Or.inl ⟨by rfl, ?_⟩) (by assumption) ?_
                rotate_left
                · intro w' hSw; (try dsimp only at hSw); go_simp; (try with_reducible rfl)
                try simp only [Act.put, List.setIfInBounds_toArray, List.set_cons_zero, List.set_cons_succ]
                refine wpAnyH_take (i := 7) (oi := ⟨_, _, _, _, _, _⟩) (v := ?_) rfl (by kernel_rfl) (by kernel_rfl) (by kernel_rfl) (fun _ _ _ h => h) (Or.inl ⟨by rfl, ?_⟩) (by assumption) ?_
                rotate_left
                · intro w' hSw; (try dsimp only at hSw); go_simp; (try with_reducible rfl)
                try simp only [Act.put, List.setIfInBounds_toArray, List.set_cons_zero, List.set_cons_succ]
                refine wpAnyH_take (i := 8) (oi := ⟨_, _, _, _, _, _⟩) (v := ?_) rfl (by kernel_rfl) (by kernel_rfl) (by kernel_rfl) (fun _ _ _ h => h) (Or.inl ⟨by rfl, ?_⟩) (by assumption) ?_
                rotate_left
                · intro w' hSw; (try dsimp only at hSw); go_simp; (try with_reducible rfl)
                try simp only [Act.put, List.setIfInBounds_toArray, List.set_cons_zero, List.set_cons_succ]
                refine wpAnyH_take (i := 9) (oi := ⟨_, _, _, _, _, _⟩) (v := ?_) rfl (by kernel_rfl) (by kernel_rfl) (by kernel_rfl) (fun _ _ _ h => h) (Or.inl ⟨by rfl, ?_⟩) (by assumption) ?_
                rotate_left
                · intro w' hSw; (try dsimp only at hSw); go_simp; (try with_reducible rfl)
                try simp only [Act.put, List.setIfInBounds_toArray, List.set_cons_zero, List.set_cons_succ]
                refine wpAnyH_take (i := 10) (oi := ⟨_, _, _, _, _, _⟩) (v := ?_) rfl (by kernel_rfl) (by kernel_rfl) (by kernel_rfl) (fun _ _ _ h => h) (Or.inl ⟨by rfl, ?_⟩) (by assumption) ?_
                rotate_left
                · intro w' hSw; (try dsimp only at hSw); go_simp; (try with_reducible rfl)
                try simp only [Act.put, List.setIfInBounds_toArray, List.set_cons_zero, List.set_cons_succ]
                refine wpAnyH_done (by kernel_rfl) ?_ _
                have EM := Lib.hid (hB3.out.trans (hHeld.1.mono hB3.out.size))
                clear hHeld
                go_wp2_with fail
                go_ret
                exact ⟨false, rfl, fun h => (by cases h), EM.out⟩
              · have hq := str_ne hxb
                have hQ3 := Lib.hid (hQ2.out hxb)
                clear hxb hQ2
                go_wp2_with fail
                refine wp_region_held_drew (S := (fun W => Below wr.heap.size wr W ∧ W.cell? (ad.add (j * 4)) = some (.string x) ∧ W.cell? (ad.add (k * 4)) = some (.string b1))) (by kernel_rfl) (HS.out _ D4.out) (fun hHeld => ?_)
                refine wpAnyH_take (i := 0) (oi := ⟨_, _, _, _, _, _⟩) (v := ?_) rfl (by kernel_rfl) (by kernel_rfl) (by kernel_rfl) (fun _ _ _ h => h) (Or.inl ⟨by rfl, ?_⟩) (by assumption) ?_
                rotate_left
                · intro w' hSw; (try dsimp only at hSw); go_simp; (try with_reducible rfl)
                try simp only [Act.put, List.setIfInBounds_toArray, List.set_cons_zero, List.set_cons_succ]
                refine wpAnyH_take (i := 1) (oi := ⟨_, _, _, _, _, _⟩) (v := ?_) rfl (by kernel_rfl) (by kernel_rfl) (by kernel_rfl) (fun _ _ _ h => h) (Or.inl ⟨by rfl, ?_⟩) (by assumption) ?_
                rotate_left
                · intro w' hSw; (try dsimp only at hSw); go_simp; (try with_reducible rfl)
                try simp only [Act.put, List.setIfInBounds_toArray, List.set_cons_zero, List.set_cons_succ]
                refine wpAnyH_take (i := 2) (oi := ⟨_, _, _, _, _, _⟩) (v := ?_) rfl (by kernel_rfl) (by kernel_rfl) (by kernel_rfl) (fun _ _ _ h => h) (Or.inl ⟨by rfl, ?_⟩) (by assumption) ?_
                rotate_left
                · intro w' hSw; (try dsimp only at hSw); go_simp; (try with_reducible rfl)
                try simp only [Act.put, List.setIfInBounds_toArray, List.set_cons_zero, List.set_cons_succ]
                refine wpAnyH_take (i := 3) (oi := ⟨_, _, _, _, _, _⟩) (v := ?_) rfl (by kernel_rfl) (by kernel_rfl) (by kernel_rfl) (fun _ _ _ h => h) (Or.inl ⟨by rfl, ?_⟩) (by assumption) ?_
                rotate_left
                · intro w' hSw; (try dsimp only at hSw); go_simp; (try with_reducible rfl)
                try simp only [Act.put, List.setIfInBounds_toArray, List.set_cons_zero, List.set_cons_succ]
                refine wpAnyH_take (i := 4) (oi := ⟨_, _, _, _, _, _⟩) (v := ?_) rfl (by kernel_rfl) (by kernel_rfl) (by kernel_rfl) (fun _ _ _ h => h) (Or.inl ⟨by rfl, ?_⟩) (by assumption) ?_
                rotate_left
                · intro w' hSw; (try dsimp only at hSw); go_simp; (try with_reducible rfl)
                try simp only [Act.put, List.setIfInBounds_toArray, List.set_cons_zero, List.set_cons_succ]
                refine wpAnyH_take (i := 5) (oi := ⟨_, _, _, _, _, _⟩) (v := ?_) rfl (by kernel_rfl) (by kernel_rfl) (by kernel_rfl) (fun _ _ _ h => h) (Or.inl ⟨by rfl, ?_⟩) (by assumption) ?_
                rotate_left
                · intro w' hSw; (try dsimp only at hSw); go_simp; (try with_reducible rfl)
                try simp only [Act.put, List.setIfInBounds_toArray, List.set_cons_zero, List.set_cons_succ]
                refine wpAnyH_take (i := 6) (oi := ⟨_, _, _, _, _, _⟩) (v := ?_) rfl (by kernel_rfl) (by kernel_rfl) (by kernel_rfl) (fun _ _ _ h => h) (Or.inl ⟨by rfl, ?_⟩) (by assumption) ?_
                rotate_left
                · intro w' hSw; (try dsimp only at hSw); go_simp; (try with_reducible rfl)
                try simp only [Act.put, List.setIfInBounds_toArray, List.set_cons_zero, List.set_cons_succ]
                refine wpAnyH_take (i := 7) (oi := ⟨_, _, _, _, _, _⟩) (v := ?_) rfl (by kernel_rfl) (by kernel_rfl) (by kernel_rfl) (fun _ _ _ h => h) (Or.inl ⟨by rfl, ?_⟩) (by assumption) ?_
                rotate_left
                · intro w' hSw; (try dsimp only at hSw); go_simp; (try with_reducible rfl)
                try simp only [Act.put, List.setIfInBounds_toArray, List.set_cons_zero, List.set_cons_succ]
                refine wpAnyH_take (i := 8) (oi := ⟨_, _, _, _, _, _⟩) (v := ?_) rfl (by kernel_rfl) (by kernel_rfl) (by kernel_rfl) (fun _ _ _ h => h) (Or.inl ⟨by rfl, ?_⟩) (by assumption) ?_
                rotate_left
                · intro w' hSw; (try dsimp only at hSw); go_simp; (try with_reducible rfl)
                try simp only [Act.put, List.setIfInBounds_toArray, List.set_cons_zero, List.set_cons_succ]
                refine wpAnyH_take (i := 9) (oi := ⟨_, _, _, _, _, _⟩) (v := ?_) rfl (by kernel_rfl) (by kernel_rfl) (by kernel_rfl) (fun _ _ _ h => h) (Or.inl ⟨by rfl, ?_⟩) (by assumption) ?_
                rotate_left
                · intro w' hSw; (try dsimp only at hSw); go_simp; (try with_reducible rfl)
                try simp only [Act.put, List.setIfInBounds_toArray, List.set_cons_zero, List.set_cons_succ]
                refine wpAnyH_take (i := 10) (oi := ⟨_, _, _, _, _, _⟩) (v := ?_) rfl (by kernel_rfl) (by kernel_rfl) (by kernel_rfl) (fun _ _ _ h => h) (Or.inl ⟨by rfl, ?_⟩) (by assumption) ?_
                rotate_left
                · intro w' hSw; (try dsimp only at hSw); go_simp; (try with_reducible rfl)
                try simp only [Act.put, List.setIfInBounds_toArray, List.set_cons_zero, List.set_cons_succ]
                refine wpAnyH_done (by kernel_rfl) ?_ _
                have EM := Lib.hid (hB3.out.trans (hHeld.1.mono hB3.out.size))
                have EN := Lib.hid (hB4.out.trans (hHeld.1.mono hB4.out.size))
                clear hHeld
                go_wp2_with fail
                exact ⟨⟨j + 1, by omega, by go_num, EM, EN, hQ3⟩, by simp [intOf]; omega⟩
            · obtain rfl : j = k := by omega
              have hPk := Lib.hid (hPn.out hQ.out)
              go_wp2_with fail
              exact ⟨⟨j + 1, by omega, by go_num, hB3, hRk, hPk⟩, by simp [intOf]; omega⟩
    · obtain rfl : k = l.length := by omega
      go_wp2_with fail
      go_ret
      exact ⟨true, rfl, fun _ => ⟨by have := H30.out; omega, fun i j hi hj hij => hP.out i j hi hj hij hj, fun i hi => hR.out i hi hi⟩, hB.out⟩
end Go.Proofs.YtmadnehipagakaaGreatDoor
