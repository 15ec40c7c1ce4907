/- EvalBinds: binds put one after the other: each name has its last value; the row that it was is not changed. -/
import Derived.Test.YtmadnehipagakaaGreatDoorGt
import Derived.Test.YtmadnehipagakaaGreatDoorGj
namespace Go.Proofs.YtmadnehipagakaaGreatDoor
open Go.RowKit Go.Lib Go.Sort Go.Shelf KP
def putAll (l : List Bd) : List Bd := l.foldl (fun e b => putO e b.1 b.2) []
theorem putO_len (l : List Bd) (s : ByteArray) (v : Vl) : (putO l s v).length ≤ l.length + 1 := by
  unfold putO
  split
  · rw [List.length_set]; omega
  · simp
theorem putAll_take {l : List Bd} {k : Nat} (hk : k < l.length) : putAll (l.take (k + 1)) = putO (putAll (l.take k)) l[k].1 l[k].2 := by
  unfold putAll
  rw [List.take_succ_eq_append_getElem hk, List.foldl_append]
  rfl
theorem putAll_len (l : List Bd) : (putAll l).length ≤ l.length := by
  have : ∀ (l e : List Bd), (l.foldl (fun e b => putO e b.1 b.2) e).length ≤ e.length + l.length := by
    intro l
    induction l with
    | nil => intro e; simp
    | cons b l ih =>
      intro e
      have h1 := ih (putO e b.1 b.2)
      have h2 := putO_len e b.1 b.2
      rw [List.foldl_cons]
      simp
      omega
  have h := this l []
  unfold putAll
  simpa using h
theorem binds_none {W : World} {N : Nat → Prop} {l : List Bd} (h : BindsAt N W none l) : l = [] := by
  cases l with
  | nil => rfl
  | cons b l => obtain ⟨ad, e, _⟩ := h 0 (by simp); cases e
theorem append_binds_any {ops : Array Oper} {rest : List Oper} {o : Oper} {a : Act} {Q : Exit → Act → World → Prop} {w : World} (i0 : TypeInfo) (hi : Tryz.prog.info? 73 = some i0) (hz0 : i0.zero = some zB) (hz1 : i0.size = 4) (hz2 : i0.bytes = 48) (hgd : o.guard = none) (s x : Operand)
    (ho : o.op = .call { callee := .builtin .append, args := #[s, x], argTypes := #[38, 38] }) (base : Nat) (hs : a.eval s = .slice (some ⟨base, 0, none⟩) 0 0) (hown : w.ownsRow base 73 4 (.slice (some ⟨base, 0, none⟩) 0 0) 0 []) (hb : base ≤ w.heap.size)
    (A : Option Addr) (c : Nat) (p : List Bd) (hA : A = none → c = 0) (hI : BindsAt (fun _ => False) w A p) (hx : a.eval x = .slice A p.length c) (hp : p.length ≤ 900000)
    (h : ∀ WA wc w', BindsAt (fun _ => False) w' WA p → Below base w w' → wpList Tryz.prog ops Q rest (a.put o.dst (.slice WA p.length wc)) w') : wpList Tryz.prog ops Q (o :: rest) a w := by
  cases A with
  | none =>
    have hp0 := binds_none hI
    subst hp0
    obtain rfl : c = 0 := hA rfl
    exact wpList_append_own_none hgd s x 38 ho base 73 i0 4 Tryz.underlying38 hi _ 0 [] hs hown hx (h _ 0 w (BindsAt.nil _ _ _) (Below.refl _ _))
  | some ead =>
    have HN := Lib.hid (binds_news hI)
    refine wpList_append_own w hgd s x 38 ho base 73 i0 zB 4 48 Tryz.underlying38 hi hz0 hz1 hz2 rfl (by decide) _ 0 [] hs hown ead p.length c (p.flatMap b4) hx (flat_len b4_len p) HN.out (b4_flat p) (by unfold maxLen; omega) (by omega) hb ?_
    intro v' w3 hown2 hgr hnil
    have hB3 := (Below.refl base w).grown hgr hb (fun k h => by simp [Value.ownBlock] at h; omega)
    obtain ⟨WA, wc, rfl, hW, _, _, _⟩ := owns_binds (N := fun _ => False) (by simpa using hown2) (fun _ h => h.elim)
    exact h WA wc w3 hW hB3
set_option maxHeartbeats 1000000 in
theorem binds_long (A : Option Addr) (c : Nat) (l : List Bd) (s : ByteArray) (w : World) (ht : Tab w) (h : 40 < l.length ∨ 100 < s.size) :
    Calls Tryz.prog 5 #[.slice A l.length c, .string s] w fun e w' => e = .returned (.bool true) ∧ Below w.heap.size w w' := by
  have KN := Lib.hid (known8 w ht)
  clear ht
  by_cases h1 : 40 < l.length
  · have hI : (40 : Int) < (l.length : Int) := by omega
    clear h h1
    go_enter Tryz.func5, Tryz.ntmps5
    go_wp2_with fail
    refine KN.out.mono ?_
    rintro e w1 ⟨rfl, q1⟩
    have E1 := Lib.hid q1
    clear q1
    go_wp2_with fail
    go_ret
    exact ⟨rfl, E1.out⟩
  · have hI : (l.length : Int) ≤ 40 := by omega
    have hI2 : (100 : Int) < (s.size : Int) := by omega
    clear h h1
    go_enter Tryz.func5, Tryz.ntmps5
    go_wp2_with fail
    refine KN.out.mono ?_
    rintro e w1 ⟨rfl, q1⟩
    have E1 := Lib.hid q1
    clear q1
    go_wp2_with fail
    go_ret
    exact ⟨rfl, E1.out⟩
set_option maxRecDepth 100000 in
set_option maxHeartbeats 8000000 in
theorem binds_main (A : Option Addr) (c : Nat) (l : List Bd) (s : ByteArray) (w : World) (ht : Tab w) (hI : BindsAt (fun _ => False) w A l) (hx : ∀ x ∈ l, cameB x) (h40 : l.length ≤ 40) (h100 : s.size ≤ 100) :
    Calls Tryz.prog 5 #[.slice A l.length c, .string s] w fun e w' => e = .returned (.bool true) ∧ Below w.heap.size w w' := by
  obtain ⟨i0, hi, hz0, hz1, hz2⟩ := info_parts infoB
  have HT := Lib.hid ht
  have VL := Lib.hid (fun W (h : Below w.heap.size w W) => hI.below h)
  have HX := Lib.hid hx
  have hlI : (l.length : Int) ≤ 40 := by omega
  have hsI : (s.size : Int) ≤ 100 := by omega
  have H40 := Lib.hid h40
  clear ht hI hx h40 h100
  go_enter Tryz.func5, Tryz.ntmps5
  go_wp2_with fail
  refine (known8 w HT.out).mono ?_
  rintro e w1 ⟨rfl, q1⟩
  have B1 := Lib.hid q1
  clear q1
  go_wp2_with fail
  go_loopw [5, 6, 7] (fun en em i wr => ∃ k : Nat, k ≤ l.length ∧ i = .int .i64 k ∧ ∃ EA ec MA mc, en = .slice EA (putAll (l.take k)).length ec ∧ em = .slice MA (putAll (l.take k)).length mc ∧ Hid (BindsAt (fun _ => False) wr EA (putAll (l.take k))) ∧ Hid (BindsAt (fun _ => False) wr MA (putAll (l.take k))) ∧ Hid (EA = none → ec = 0) ∧ Hid (MA = none → mc = 0) ∧ Hid (Below w.heap.size w wr)) (fun _ _ i _ => l.length - (intOf i).toNat)
  case atStart => exact ⟨0, by omega, rfl, none, 0, none, 0, rfl, rfl, Lib.hid (BindsAt.nil _ _ _), Lib.hid (BindsAt.nil _ _ _), Lib.hid (fun _ => rfl), Lib.hid (fun _ => rfl), B1⟩
  case round =>
    obtain ⟨k, hk, rfl, EA, ec, MA, mc, rfl, rfl, hBE, hBM, HEA, HMA, hB⟩ := hrel
    have hpl := putAll_len (l.take k)
    have hpl2 : (putAll (l.take k)).length ≤ 40 := by
      have := H40.out
      rw [List.length_take] at hpl
      omega
    have HPL0 := Lib.hid hpl2
    clear hpl hpl2
    by_cases hlt : k < l.length
    · have hltI : (k : Int) < (l.length : Int) := by omega
      have HTK := Lib.hid (putAll_take hlt)
      have HL0 := Lib.hid (fun W (h : Below w.heap.size w W) => (VL.out W h).at hlt)
      have hcm := Lib.hid (HX.out l[k] (List.getElem_mem hlt))
      obtain ⟨ad, rfl, _, c0, c1, c2, c3⟩ := HL0.out _ hB.out
      generalize l[k] = b at *
      obtain ⟨b1, b2, b3, b5⟩ := b
      have HL : Hid (∀ W, Below w.heap.size w W → W.cell? (ad.add (k * 4)) = some (.string b1) ∧ W.cell? ⟨(ad.add (k * 4)).block, (ad.add (k * 4)).off + 1, none⟩ = some (.int .i64 b2) ∧ W.cell? ⟨(ad.add (k * 4)).block, (ad.add (k * 4)).off + 2, none⟩ = some (.int .i64 b3) ∧ W.cell? ⟨(ad.add (k * 4)).block, (ad.add (k * 4)).off + 3, none⟩ = some (.string b5)) := Lib.hid (fun W h => by
        obtain ⟨ad2, h2, _, y0, y1, y2, y3⟩ := HL0.out W h
        obtain rfl := Option.some.inj h2
        exact ⟨y0, y1, y2, y3⟩)
      clear HL0
      dsimp only at c0 c1 c2 c3
      cases hr : rightB (b2, b3, b5) with
      | false =>
        have RC := Lib.hid (rright_b (b2, b3, b5) false hr hcm.out.v)
        clear hr
        go_wp2_with fail
        refine (RC.out _).mono ?_
        rintro e w2 ⟨rfl, q2⟩
        have E2 := Lib.hid (hB.out.trans (q2.mono hB.out.size))
        clear q2 c0 c1 c2 c3
        go_wp2_with fail
        go_ret
        exact ⟨rfl, E2.out⟩
      | true =>
        have RC := Lib.hid (rright_b (b2, b3, b5) true hr hcm.out.v)
        clear hr
        by_cases hb100 : 100 < b1.size
        · have hbI : (100 : Int) < (b1.size : Int) := by omega
          clear hb100
          go_wp2_with fail
          refine (RC.out _).mono ?_
          rintro e w2 ⟨rfl, q2⟩
          have E2 := Lib.hid (hB.out.trans (q2.mono hB.out.size))
          clear q2 c0 c1 c2 c3
          obtain ⟨d0, _, _, _⟩ := HL.out _ E2.out
          go_wp2_with fail
          go_ret
          exact ⟨rfl, E2.out⟩
        · have hbI : (b1.size : Int) ≤ 100 := by omega
          clear hb100
          go_wp2_with fail
          refine (RC.out _).mono ?_
          rintro e w2 ⟨rfl, q2⟩
          have E2 := Lib.hid (hB.out.trans (q2.mono hB.out.size))
          have BE2 := Lib.hid (hBE.out.below q2)
          have BM2 := Lib.hid (hBM.out.below q2)
          clear q2 c0 c1 c2 c3
          obtain ⟨d0, _, _, _⟩ := HL.out _ E2.out
          have hp2l := Lib.hid (putO_len (putAll (l.take k)) b1 (b2, b3, b5))
          generalize hpp : putAll (l.take k) = p at *
          have HPL : Hid (p.length ≤ 900000) := Lib.hid (by have := HPL0.out; omega)
          have HP2 : Hid ((putO p b1 (b2, b3, b5)).length ≤ 900000) := Lib.hid (by have := HPL0.out; have := hp2l.out; omega)
          have hE3 := (Below.refl w2.heap.size w2).alloc (Nat.le_refl _) (.cells #[] 73)
          have H0 : Hid ((w2.alloc (.cells #[] 73)).ownsRow w2.heap.size 73 4 (.slice (some ⟨w2.heap.size, 0, none⟩) 0 0) 0 []) := Lib.hid (World.ownsRow_made w2 #[] (e := 73) (size := 4) (base := w2.heap.size) 0 (Nat.le_refl _) (by unfold maxLen; omega) rfl)
          have HE3 := Lib.hid hE3
          clear hE3
          go_wp2_with (at_builtin; refine append_binds_any i0 hi hz0 hz1 hz2 rfl (.tmp 47) (.tmp 48) rfl w2.heap.size rfl H0.out HE3.out.size EA ec p HEA.out (BE2.out.below HE3.out) rfl (by have := HPL.out; omega) ?_)
          intro WA wc w3 hW hB3
          have hB3 := HE3.out.trans hB3
          have E3 := Lib.hid (E2.out.trans (hB3.mono E2.out.size))
          have BE := Lib.hid (BE2.out.below hB3)
          have BM := Lib.hid (BM2.out.below hB3)
          have WAS := Lib.hid hW
          clear hW hB3 HE3 H0 d0
          go_wp2_with fail
          have EW3 := Lib.hid (E3.out)
          obtain ⟨x0, x1, x2, x3⟩ := HL.out _ E3.out
          have PU := Lib.hid (fun W (h : Below w3.heap.size w3 W) => put_c EA ec p b1 (b2, b3, b5) W HEA.out (BE.out.below h) HPL.out)
          have HS : Hid (∀ W, Below w3.heap.size w3 W → (fun W => Below w3.heap.size w3 W ∧ W.cell? (ad.add (k * 4)) = some (.string b1) ∧ W.cell? ⟨(ad.add (k * 4)).block, (ad.add (k * 4)).off + 1, none⟩ = some (.int .i64 b2) ∧ W.cell? ⟨(ad.add (k * 4)).block, (ad.add (k * 4)).off + 2, none⟩ = some (.int .i64 b3) ∧ W.cell? ⟨(ad.add (k * 4)).block, (ad.add (k * 4)).off + 3, none⟩ = some (.string b5)) W) := Lib.hid (fun W h => ⟨h, (h.cell (p := (ad.add (k * 4))) (World.block_lt_of_cell? _ _ x0)).trans x0, (h.cell (p := ⟨(ad.add (k * 4)).block, (ad.add (k * 4)).off + 1, none⟩) (World.block_lt_of_cell? _ _ x1)).trans x1, (h.cell (p := ⟨(ad.add (k * 4)).block, (ad.add (k * 4)).off + 2, none⟩) (World.block_lt_of_cell? _ _ x2)).trans x2, (h.cell (p := ⟨(ad.add (k * 4)).block, (ad.add (k * 4)).off + 3, none⟩) (World.block_lt_of_cell? _ _ x3)).trans x3⟩)
          have D4 : Hid (Below w3.heap.size w3 w3.drew) := Lib.hid ⟨rfl, rfl, rfl, Nat.le_refl _, fun _ _ => rfl⟩
          clear x0 x1 x2 x3
          go_wp2_with fail
          refine wp_region_held_drew (S := (fun W => Below w3.heap.size w3 W ∧ W.cell? (ad.add (k * 4)) = some (.string b1) ∧ W.cell? ⟨(ad.add (k * 4)).block, (ad.add (k * 4)).off + 1, none⟩ = some (.int .i64 b2) ∧ W.cell? ⟨(ad.add (k * 4)).block, (ad.add (k * 4)).off + 2, none⟩ = some (.int .i64 b3) ∧ W.cell? ⟨(ad.add (k * 4)).block, (ad.add (k * 4)).off + 3, none⟩ = some (.string b5))) (by kernel_rfl) (HS.out _ D4.out) (fun hHeld => ?_)
          refine wpAnyH_take (i := 0) (oi := ⟨_, _, _, _, _, _⟩) (v := ?_) rfl (by kernel_rfl) (by kernel_rfl) (by kernel_rfl) (fun _ _ _ h => h) (Or.inl ⟨by rfl, ?_⟩) (by assumption) ?_
          rotate_left
          · intro w' hSw; (try dsimp only at hSw); go_simp; (try with_reducible rfl)
          try simp only [Act.put, List.setIfInBounds_toArray, List.set_cons_zero, List.set_cons_succ]
          refine wpAnyH_take (i := 1) (oi := ⟨_, _, _, _, _, _⟩) (v := ?_) rfl (by kernel_rfl) (by kernel_rfl) (by kernel_rfl) (fun _ _ _ h => h) (Or.inl ⟨by rfl, ?_⟩) (by assumption) ?_
          rotate_left
          · intro w' hSw; (try dsimp only at hSw); go_simp; (try with_reducible rfl)
          try simp only [Act.put, List.setIfInBounds_toArray, List.set_cons_zero, List.set_cons_succ]
          refine wpAnyH_take (i := 2) (oi := ⟨_, _, _, _, _, _⟩) (v := ?_) rfl (by kernel_rfl) (by kernel_rfl) (by kernel_rfl) (fun _ _ _ h => h) (Or.inl ⟨by rfl, ?_⟩) (by assumption) ?_
          rotate_left
          · intro w' hSw; (try dsimp only at hSw); go_simp; (try with_reducible rfl)
          try simp only [Act.put, List.setIfInBounds_toArray, List.set_cons_zero, List.set_cons_succ]
          refine wpAnyH_take (i := 3) (oi := ⟨_, _, _, _, _, _⟩) (v := ?_) rfl (by kernel_rfl) (by kernel_rfl) (by kernel_rfl) (fun _ _ _ h => h) (Or.inl ⟨by rfl, ?_⟩) (by assumption) ?_
          rotate_left
          · intro w' hSw; (try dsimp only at hSw); go_simp; (try with_reducible rfl)
          try simp only [Act.put, List.setIfInBounds_toArray, List.set_cons_zero, List.set_cons_succ]
          refine wpAnyH_take (i := 4) (oi := ⟨_, _, _, _, _, _⟩) (v := ?_) rfl (by kernel_rfl) (by kernel_rfl) (by kernel_rfl) (fun _ _ _ h => h) (Or.inl ⟨by rfl, ?_⟩) (by assumption) ?_
          rotate_left
          · intro w' hSw; (try dsimp only at hSw); go_simp; (try with_reducible rfl)
          try simp only [Act.put, List.setIfInBounds_toArray, List.set_cons_zero, List.set_cons_succ]
          refine wpAnyH_take (i := 5) (oi := ⟨_, _, _, _, _, _⟩) (v := ?_) rfl (by kernel_rfl) (by kernel_rfl) (by kernel_rfl) (fun _ _ _ h => h) (Or.inl ⟨by rfl, ?_⟩) (by assumption) ?_
          rotate_left
          · intro w' hSw; (try dsimp only at hSw); go_simp; (try with_reducible rfl)
          try simp only [Act.put, List.setIfInBounds_toArray, List.set_cons_zero, List.set_cons_succ]
          refine wpAnyH_take (i := 6) (oi := ⟨_, _, _, _, _, _⟩) (v := ?_) rfl (by kernel_rfl) (by kernel_rfl) (by kernel_rfl) (fun _ _ _ h => h) (Or.inl ⟨by rfl, ?_⟩) (by assumption) ?_
          rotate_left
          · intro w' hSw; (try dsimp only at hSw); go_simp; (try with_reducible rfl)
          try simp only [Act.put, List.setIfInBounds_toArray, List.set_cons_zero, List.set_cons_succ]
          refine wpAnyH_take (i := 7) (oi := ⟨_, _, _, _, _, _⟩) (v := ?_) rfl (by kernel_rfl) (by kernel_rfl) (by kernel_rfl) (fun _ _ _ h => h) (Or.inl ⟨by rfl, ?_⟩) (by assumption) ?_
          rotate_left
          · intro w' hSw; (try dsimp only at hSw); go_simp; (try with_reducible rfl)
          try simp only [Act.put, List.setIfInBounds_toArray, List.set_cons_zero, List.set_cons_succ]
          refine wpAnyH_take (i := 8) (oi := ⟨_, _, _, _, _, _⟩) (v := ?_) rfl (by kernel_rfl) (by kernel_rfl) (by kernel_rfl) (fun _ _ _ h => h) (Or.inl ⟨by rfl, ?_⟩) (by assumption) ?_
          rotate_left
          · intro w' hSw; (try dsimp only at hSw); go_simp; (try with_reducible rfl)
          try simp only [Act.put, List.setIfInBounds_toArray, List.set_cons_zero, List.set_cons_succ]
          refine wpAnyH_take (i := 9) (oi := ⟨_, _, _, _, _, _⟩) (v := ?_) rfl (by kernel_rfl) (by kernel_rfl) (by kernel_rfl) (fun _ _ _ h => h) (Or.inl ⟨by rfl, ?_⟩) (by assumption) ?_
          rotate_left
          · intro w' hSw; (try dsimp only at hSw); go_simp; (try with_reducible rfl)
          try simp only [Act.put, List.setIfInBounds_toArray, List.set_cons_zero, List.set_cons_succ]
          refine wpAnyH_take (i := 10) (oi := ⟨_, _, _, _, _, _⟩) (v := ?_) rfl (by kernel_rfl) (by kernel_rfl) (by kernel_rfl) (fun _ _ _ h => h) (Or.inl ⟨by rfl, ?_⟩) (by assumption) ?_
          rotate_left
          · intro w' hSw; (try dsimp only at hSw); go_simp; (try with_reducible rfl)
          try simp only [Act.put, List.setIfInBounds_toArray, List.set_cons_zero, List.set_cons_succ]
          refine wpAnyH_ready (rs := [11]) (by kernel_rfl) (by simp) ?_
          refine AllReadyH.cons (o := ⟨_, _, _, _, _, _⟩) rfl (fun K9 hK9 => ?_) AllReadyH.nil
          go_simp
          (with_reducible refine (PU.out _ hHeld.1).mono ?_)
          rintro e w4 ⟨A4, rfl, hb4, hn4, q4⟩
          have M4 := Lib.hid (hHeld.1.trans (q4.mono hHeld.1.size))
          have BN4 := Lib.hid (hb4.mono (M := fun _ => False) (fun _ h => h.elim))
          have HN4 := Lib.hid hn4
          clear hb4 hn4 q4
          go_wp2_with fail
          refine hK9.out _ _ (HS.out _ M4.out) (fun hHeld => ?_)
          clear hK9 K9
          try simp only [Act.put, List.setIfInBounds_toArray, List.set_cons_zero, List.set_cons_succ]
          refine wpAnyH_take (i := 12) (oi := ⟨_, _, _, _, _, _⟩) (v := ?_) rfl (by kernel_rfl) (by kernel_rfl) (by kernel_rfl) (fun _ _ _ h => h) (Or.inl ⟨by rfl, ?_⟩) (by assumption) ?_
          rotate_left
          · intro w' hSw; (try dsimp only at hSw); go_simp; (try with_reducible rfl)
          try simp only [Act.put, List.setIfInBounds_toArray, List.set_cons_zero, List.set_cons_succ]
          refine wpAnyH_done (by kernel_rfl) ?_ _
          have E5 := Lib.hid (E3.out.trans (hHeld.1.mono E3.out.size))
          have F5 := Lib.hid hHeld.1
          clear hHeld HS D4
          obtain ⟨x0, x1, x2, x3⟩ := HL.out _ E5.out
          generalize hp2 : putO p b1 (b2, b3, b5) = p2 at *
          have RPU := Lib.hid (fun W (h : Below w4.heap.size w4 W) => rput_c MA mc p b1 (b2, b3, b5) W HMA.out ((BM.out.below F5.out).below h) HPL.out)
          rw [hp2] at RPU
          have HS : Hid (∀ W, Below w4.heap.size w4 W → (fun W => Below w4.heap.size w4 W ∧ W.cell? (ad.add (k * 4)) = some (.string b1) ∧ W.cell? ⟨(ad.add (k * 4)).block, (ad.add (k * 4)).off + 1, none⟩ = some (.int .i64 b2) ∧ W.cell? ⟨(ad.add (k * 4)).block, (ad.add (k * 4)).off + 2, none⟩ = some (.int .i64 b3) ∧ W.cell? ⟨(ad.add (k * 4)).block, (ad.add (k * 4)).off + 3, none⟩ = some (.string b5)) W) := Lib.hid (fun W h => ⟨h, (h.cell (p := (ad.add (k * 4))) (World.block_lt_of_cell? _ _ x0)).trans x0, (h.cell (p := ⟨(ad.add (k * 4)).block, (ad.add (k * 4)).off + 1, none⟩) (World.block_lt_of_cell? _ _ x1)).trans x1, (h.cell (p := ⟨(ad.add (k * 4)).block, (ad.add (k * 4)).off + 2, none⟩) (World.block_lt_of_cell? _ _ x2)).trans x2, (h.cell (p := ⟨(ad.add (k * 4)).block, (ad.add (k * 4)).off + 3, none⟩) (World.block_lt_of_cell? _ _ x3)).trans x3⟩)
          have D4 : Hid (Below w4.heap.size w4 w4.drew) := Lib.hid ⟨rfl, rfl, rfl, Nat.le_refl _, fun _ _ => rfl⟩
          clear x0 x1 x2 x3
          go_wp2_with fail
          refine wp_region_held_drew (S := (fun W => Below w4.heap.size w4 W ∧ W.cell? (ad.add (k * 4)) = some (.string b1) ∧ W.cell? ⟨(ad.add (k * 4)).block, (ad.add (k * 4)).off + 1, none⟩ = some (.int .i64 b2) ∧ W.cell? ⟨(ad.add (k * 4)).block, (ad.add (k * 4)).off + 2, none⟩ = some (.int .i64 b3) ∧ W.cell? ⟨(ad.add (k * 4)).block, (ad.add (k * 4)).off + 3, none⟩ = some (.string b5))) (by kernel_rfl) (HS.out _ D4.out) (fun hHeld => ?_)
          refine wpAnyH_take (i := 0) (oi := ⟨_, _, _, _, _, _⟩) (v := ?_) rfl (by kernel_rfl) (by kernel_rfl) (by kernel_rfl) (fun _ _ _ h => h) (Or.inl ⟨by rfl, ?_⟩) (by assumption) ?_
          rotate_left
          · intro w' hSw; (try dsimp only at hSw); go_simp; (try with_reducible rfl)
          try simp only [Act.put, List.setIfInBounds_toArray, List.set_cons_zero, List.set_cons_succ]
          refine wpAnyH_take (i := 1) (oi := ⟨_, _, _, _, _, _⟩) (v := ?_) rfl (by kernel_rfl) (by kernel_rfl) (by kernel_rfl) (fun _ _ _ h => h) (Or.inl ⟨by rfl, ?_⟩) (by assumption) ?_
          rotate_left
          · intro w' hSw; (try dsimp only at hSw); go_simp; (try with_reducible rfl)
          try simp only [Act.put, List.setIfInBounds_toArray, List.set_cons_zero, List.set_cons_succ]
          refine wpAnyH_take (i := 2) (oi := ⟨_, _, _, _, _, _⟩) (v := ?_) rfl (by kernel_rfl) (by kernel_rfl) (by kernel_rfl) (fun _ _ _ h => h) (Or.inl ⟨by rfl, ?_⟩) (by assumption) ?_
          rotate_left
          · intro w' hSw; (try dsimp only at hSw); go_simp; (try with_reducible rfl)
          try simp only [Act.put, List.setIfInBounds_toArray, List.set_cons_zero, List.set_cons_succ]
          refine wpAnyH_take (i := 3) (oi := ⟨_, _, _, _, _, _⟩) (v := ?_) rfl (by kernel_rfl) (by kernel_rfl) (by kernel_rfl) (fun _ _ _ h => h) (Or.inl ⟨by rfl, ?_⟩) (by assumption) ?_
          rotate_left
          · intro w' hSw; (try dsimp only at hSw); go_simp; (try with_reducible rfl)
          try simp only [Act.put, List.setIfInBounds_toArray, List.set_cons_zero, List.set_cons_succ]
          refine wpAnyH_take (i := 4) (oi := ⟨_, _, _, _, _, _⟩) (v := ?_) rfl (by kernel_rfl) (by kernel_rfl) (by kernel_rfl) (fun _ _ _ h => h) (Or.inl ⟨by rfl, ?_⟩) (by assumption) ?_
          rotate_left
          · intro w' hSw; (try dsimp only at hSw); go_simp; (try with_reducible rfl)
          try simp only [Act.put, List.setIfInBounds_toArray, List.set_cons_zero, List.set_cons_succ]
          refine wpAnyH_take (i := 5) (oi := ⟨_, _, _, _, _, _⟩) (v := ?_) rfl (by kernel_rfl) (by kernel_rfl) (by kernel_rfl) (fun _ _ _ h => h) (Or.inl ⟨by rfl, ?_⟩) (by assumption) ?_
          rotate_left
          · intro w' hSw; (try dsimp only at hSw); go_simp; (try with_reducible rfl)
          try simp only [Act.put, List.setIfInBounds_toArray, List.set_cons_zero, List.set_cons_succ]
          refine wpAnyH_take (i := 6) (oi := ⟨_, _, _, _, _, _⟩) (v := ?_) rfl (by kernel_rfl) (by kernel_rfl) (by kernel_rfl) (fun _ _ _ h => h) (Or.inl ⟨by rfl, ?_⟩) (by assumption) ?_
          rotate_left
          · intro w' hSw; (try dsimp only at hSw); go_simp; (try with_reducible rfl)
          try simp only [Act.put, List.setIfInBounds_toArray, List.set_cons_zero, List.set_cons_succ]
          refine wpAnyH_take (i := 7) (oi := ⟨_, _, _, _, _, _⟩) (v := ?_) rfl (by kernel_rfl) (by kernel_rfl) (by kernel_rfl) (fun _ _ _ h => h) (Or.inl ⟨by rfl, ?_⟩) (by assumption) ?_
          rotate_left
          · intro w' hSw; (try dsimp only at hSw); go_simp; (try with_reducible rfl)
          try simp only [Act.put, List.setIfInBounds_toArray, List.set_cons_zero, List.set_cons_succ]
          refine wpAnyH_take (i := 8) (oi := ⟨_, _, _, _, _, _⟩) (v := ?_) rfl (by kernel_rfl) (by kernel_rfl) (by kernel_rfl) (fun _ _ _ h => h) (Or.inl ⟨by rfl, ?_⟩) (by assumption) ?_
          rotate_left
          · intro w' hSw; (try dsimp only at hSw); go_simp; (try with_reducible rfl)
          try simp only [Act.put, List.setIfInBounds_toArray, List.set_cons_zero, List.set_cons_succ]
          refine wpAnyH_take (i := 9) (oi := ⟨_, _, _, _, _, _⟩) (v := ?_) rfl (by kernel_rfl) (by kernel_rfl) (by kernel_rfl) (fun _ _ _ h => h) (Or.inl ⟨by rfl, ?_⟩) (by assumption) ?_
          rotate_left
          · intro w' hSw; (try dsimp only at hSw); go_simp; (try with_reducible rfl)
          try simp only [Act.put, List.setIfInBounds_toArray, List.set_cons_zero, List.set_cons_succ]
          refine wpAnyH_take (i := 10) (oi := ⟨_, _, _, _, _, _⟩) (v := ?_) rfl (by kernel_rfl) (by kernel_rfl) (by kernel_rfl) (fun _ _ _ h => h) (Or.inl ⟨by rfl, ?_⟩) (by assumption) ?_
          rotate_left
          · intro w' hSw; (try dsimp only at hSw); go_simp; (try with_reducible rfl)
          try simp only [Act.put, List.setIfInBounds_toArray, List.set_cons_zero, List.set_cons_succ]
          refine wpAnyH_ready (rs := [11]) (by kernel_rfl) (by simp) ?_
          refine AllReadyH.cons (o := ⟨_, _, _, _, _, _⟩) rfl (fun K9 hK9 => ?_) AllReadyH.nil
          go_simp
          (with_reducible refine (RPU.out _ hHeld.1).mono ?_)
          rintro e w6 ⟨A6, c6, rfl, hb6, hn6, q6⟩
          have M6 := Lib.hid (hHeld.1.trans (q6.mono hHeld.1.size))
          have BM6 := Lib.hid (hb6.mono (M := fun _ => False) (fun _ h => h.elim))
          have HN6 := Lib.hid hn6
          clear hb6 hn6 q6
          go_wp2_with fail
          refine hK9.out _ _ (HS.out _ M6.out) (fun hHeld => ?_)
          clear hK9 K9
          try simp only [Act.put, List.setIfInBounds_toArray, List.set_cons_zero, List.set_cons_succ]
          refine wpAnyH_take (i := 12) (oi := ⟨_, _, _, _, _, _⟩) (v := ?_) rfl (by kernel_rfl) (by kernel_rfl) (by kernel_rfl) (fun _ _ _ h => h) (Or.inl ⟨by rfl, ?_⟩) (by assumption) ?_
          rotate_left
          · intro w' hSw; (try dsimp only at hSw); go_simp; (try with_reducible rfl)
          try simp only [Act.put, List.setIfInBounds_toArray, List.set_cons_zero, List.set_cons_succ]
          refine wpAnyH_done (by kernel_rfl) ?_ _
          have E6 := Lib.hid (E5.out.trans (hHeld.1.mono E5.out.size))
          have F6 := Lib.hid hHeld.1
          clear hHeld HS D4
          have SM := Lib.hid (same8_c A4 p2.length A6 c6 p2 (by have := HP2.out; omega) w6 (BN4.out.below F6.out) BM6.out)
          have hp2I : (p2.length : Int) ≤ 900001 := by have := HP2.out; omega
          have hpI : (p.length : Int) ≤ 900000 := by have := HPL.out; omega
          go_wp2_with fail
          refine SM.out.mono ?_
          rintro e w7 ⟨rfl, q7⟩
          have E7 := Lib.hid (E6.out.trans (q7.mono E6.out.size))
          have F7 := Lib.hid (F5.out.trans ((F6.out.trans (q7.mono F6.out.size)).mono F5.out.size))
          have G7 := Lib.hid (F6.out.trans (q7.mono F6.out.size))
          have H7 := Lib.hid q7
          clear q7
          go_wp2_with fail
          go_loopw [10] (fun i wi => ∃ j : Nat, j ≤ p.length ∧ i = .int .i64 j ∧ Hid (Below w7.heap.size w7 wi)) (fun i _ => p.length - (intOf i).toNat)
          case atStart => exact ⟨0, by omega, rfl, Lib.hid (Below.refl _ _)⟩
          case round =>
            obtain ⟨j, hj, rfl, hBi⟩ := hrel
            by_cases hjp : j < p.length
            · have hjI : (j : Int) < (p.length : Int) := by omega
              have HW0 := Lib.hid (fun W (h : Below w7.heap.size w7 W) => ((WAS.out.below F7.out).below h).at hjp)
              have HE0 := Lib.hid (fun W (h : Below w7.heap.size w7 W) => ((BE.out.below F7.out).below h).at hjp)
              generalize p[j] = q at HW0 HE0
              obtain ⟨a1, a2, a3, a4⟩ := q
              obtain ⟨wd, rfl, _, y0, y1, y2, y3⟩ := HW0.out _ hBi.out
              obtain ⟨ed, rfl, _, z0, z1, z2, z3⟩ := HE0.out _ hBi.out
              dsimp only at y0 y1 y2 y3 z0 z1 z2 z3
              have HS : Hid (∀ W, Below wr.heap.size wr W → (fun W => Below wr.heap.size wr W ∧ W.cell? (wd.add (j * 4)) = some (.string a1) ∧ W.cell? ⟨(wd.add (j * 4)).block, (wd.add (j * 4)).off + 1, none⟩ = some (.int .i64 a2) ∧ W.cell? ⟨(wd.add (j * 4)).block, (wd.add (j * 4)).off + 2, none⟩ = some (.int .i64 a3) ∧ W.cell? ⟨(wd.add (j * 4)).block, (wd.add (j * 4)).off + 3, none⟩ = some (.string a4) ∧ W.cell? (ed.add (j * 4)) = some (.string a1) ∧ W.cell? ⟨(ed.add (j * 4)).block, (ed.add (j * 4)).off + 1, none⟩ = some (.int .i64 a2) ∧ W.cell? ⟨(ed.add (j * 4)).block, (ed.add (j * 4)).off + 2, none⟩ = some (.int .i64 a3) ∧ W.cell? ⟨(ed.add (j * 4)).block, (ed.add (j * 4)).off + 3, none⟩ = some (.string a4)) W) := Lib.hid (fun W h => ⟨h, (h.cell (p := (wd.add (j * 4))) (World.block_lt_of_cell? _ _ y0)).trans y0, (h.cell (p := ⟨(wd.add (j * 4)).block, (wd.add (j * 4)).off + 1, none⟩) (World.block_lt_of_cell? _ _ y1)).trans y1, (h.cell (p := ⟨(wd.add (j * 4)).block, (wd.add (j * 4)).off + 2, none⟩) (World.block_lt_of_cell? _ _ y2)).trans y2, (h.cell (p := ⟨(wd.add (j * 4)).block, (wd.add (j * 4)).off + 3, none⟩) (World.block_lt_of_cell? _ _ y3)).trans y3, (h.cell (p := (ed.add (j * 4))) (World.block_lt_of_cell? _ _ z0)).trans z0, (h.cell (p := ⟨(ed.add (j * 4)).block, (ed.add (j * 4)).off + 1, none⟩) (World.block_lt_of_cell? _ _ z1)).trans z1, (h.cell (p := ⟨(ed.add (j * 4)).block, (ed.add (j * 4)).off + 2, none⟩) (World.block_lt_of_cell? _ _ z2)).trans z2, (h.cell (p := ⟨(ed.add (j * 4)).block, (ed.add (j * 4)).off + 3, none⟩) (World.block_lt_of_cell? _ _ z3)).trans z3⟩)
              have D4 : Hid (Below wr.heap.size wr wr.drew) := Lib.hid ⟨rfl, rfl, rfl, Nat.le_refl _, fun _ _ => rfl⟩
              clear y0 y1 y2 y3 z0 z1 z2 z3
              go_wp2_with fail
              refine wp_region_held_drew (S := (fun W => Below wr.heap.size wr W ∧ W.cell? (wd.add (j * 4)) = some (.string a1) ∧ W.cell? ⟨(wd.add (j * 4)).block, (wd.add (j * 4)).off + 1, none⟩ = some (.int .i64 a2) ∧ W.cell? ⟨(wd.add (j * 4)).block, (wd.add (j * 4)).off + 2, none⟩ = some (.int .i64 a3) ∧ W.cell? ⟨(wd.add (j * 4)).block, (wd.add (j * 4)).off + 3, none⟩ = some (.string a4) ∧ W.cell? (ed.add (j * 4)) = some (.string a1) ∧ W.cell? ⟨(ed.add (j * 4)).block, (ed.add (j * 4)).off + 1, none⟩ = some (.int .i64 a2) ∧ W.cell? ⟨(ed.add (j * 4)).block, (ed.add (j * 4)).off + 2, none⟩ = some (.int .i64 a3) ∧ W.cell? ⟨(ed.add (j * 4)).block, (ed.add (j * 4)).off + 3, none⟩ = some (.string a4))) (by kernel_rfl) (HS.out _ D4.out) (fun hHeld => ?_)
              refine wpAnyH_take (i := 0) (oi := ⟨_, _, _, _, _, _⟩) (v := ?_) rfl (by kernel_rfl) (by kernel_rfl) (by kernel_rfl) (fun _ _ _ h => h) (Or.inl ⟨by rfl, ?_⟩) (by assumption) ?_
              rotate_left
              · intro w' hSw; (try dsimp only at hSw); go_simp; (try with_reducible rfl)
              try simp only [Act.put, List.setIfInBounds_toArray, List.set_cons_zero, List.set_cons_succ]
              refine wpAnyH_take (i := 1) (oi := ⟨_, _, _, _, _, _⟩) (v := ?_) rfl (by kernel_rfl) (by kernel_rfl) (by kernel_rfl) (fun _ _ _ h => h) (Or.inl ⟨by rfl, ?_⟩) (by assumption) ?_
              rotate_left
              · intro w' hSw; (try dsimp only at hSw); go_simp; (try with_reducible rfl)
              try simp only [Act.put, List.setIfInBounds_toArray, List.set_cons_zero, List.set_cons_succ]
              refine wpAnyH_take (i := 2) (oi := ⟨_, _, _, _, _, _⟩) (v := ?_) rfl (by kernel_rfl) (by kernel_rfl) (by kernel_rfl) (fun _ _ _ h => h) (Or.inl ⟨by rfl, ?_⟩) (by assumption) ?_
              rotate_left
              · intro w' hSw; (try dsimp only at hSw); go_simp; (try with_reducible rfl)
              try simp only [Act.put, List.setIfInBounds_toArray, List.set_cons_zero, List.set_cons_succ]
              refine wpAnyH_take (i := 3) (oi := ⟨_, _, _, _, _, _⟩) (v := ?_) rfl (by kernel_rfl) (by kernel_rfl) (by kernel_rfl) (fun _ _ _ h => h) (Or.inl ⟨by rfl, ?_⟩) (by assumption) ?_
              rotate_left
              · intro w' hSw; (try dsimp only at hSw); go_simp; (try with_reducible rfl)
              try simp only [Act.put, List.setIfInBounds_toArray, List.set_cons_zero, List.set_cons_succ]
              refine wpAnyH_take (i := 4) (oi := ⟨_, _, _, _, _, _⟩) (v := ?_) rfl (by kernel_rfl) (by kernel_rfl) (by kernel_rfl) (fun _ _ _ h => h) (Or.inl ⟨by rfl, ?_⟩) (by assumption) ?_
              rotate_left
              · intro w' hSw; (try dsimp only at hSw); go_simp; (try with_reducible rfl)
              try simp only [Act.put, List.setIfInBounds_toArray, List.set_cons_zero, List.set_cons_succ]
              refine wpAnyH_take (i := 5) (oi := ⟨_, _, _, _, _, _⟩) (v := ?_) rfl (by kernel_rfl) (by kernel_rfl) (by kernel_rfl) (fun _ _ _ h => h) (Or.inl ⟨by rfl, ?_⟩) (by assumption) ?_
              rotate_left
              · intro w' hSw; (try dsimp only at hSw); go_simp; (try with_reducible rfl)
              try simp only [Act.put, List.setIfInBounds_toArray, List.set_cons_zero, List.set_cons_succ]
              refine wpAnyH_take (i := 6) (oi := ⟨_, _, _, _, _, _⟩) (v := ?_) rfl (by kernel_rfl) (by kernel_rfl) (by kernel_rfl) (fun _ _ _ h => h) (Or.inl ⟨by rfl, ?_⟩) (by assumption) ?_
              rotate_left
              · intro w' hSw; (try dsimp only at hSw); go_simp; (try with_reducible rfl)
              try simp only [Act.put, List.setIfInBounds_toArray, List.set_cons_zero, List.set_cons_succ]
              refine wpAnyH_take (i := 7) (oi := ⟨_, _, _, _, _, _⟩) (v := ?_) rfl (by kernel_rfl) (by kernel_rfl) (by kernel_rfl) (fun _ _ _ h => h) (Or.inl ⟨by rfl, ?_⟩) (by assumption) ?_
              rotate_left
              · intro w' hSw; (try dsimp only at hSw); go_simp; (try with_reducible rfl)
              try simp only [Act.put, List.setIfInBounds_toArray, List.set_cons_zero, List.set_cons_succ]
              refine wpAnyH_take (i := 8) (oi := ⟨_, _, _, _, _, _⟩) (v := ?_) rfl (by kernel_rfl) (by kernel_rfl) (by kernel_rfl) (fun _ _ _ h => h) (Or.inl ⟨by rfl, ?_⟩) (by assumption) ?_
              rotate_left
              · intro w' hSw; (try dsimp only at hSw); go_simp; (try with_reducible rfl)
              try simp only [Act.put, List.setIfInBounds_toArray, List.set_cons_zero, List.set_cons_succ]
              refine wpAnyH_done (by kernel_rfl) ?_ _
              have EW := Lib.hid (hBi.out.trans (hHeld.1.mono hBi.out.size))
              clear hHeld HS D4
              go_wp2_with fail
              exact ⟨⟨j + 1, by omega, by go_num, EW⟩, by simp [intOf]; omega⟩
            · obtain rfl : j = p.length := by omega
              go_wp2_with fail
              exact ⟨⟨k + 1, by omega, by go_num, A4, p2.length, A6, c6, by rw [HTK.out], by rw [HTK.out], by rw [HTK.out]; exact Lib.hid (BN4.out.below (G7.out.trans (hBi.out.mono G7.out.size))), by rw [HTK.out]; exact Lib.hid (BM6.out.below (H7.out.trans (hBi.out.mono H7.out.size))), Lib.hid (fun h => (HN4.out h).elim), HN6, Lib.hid (E7.out.trans (hBi.out.mono E7.out.size))⟩, by simp [intOf]; omega⟩
    · obtain rfl : k = l.length := by omega
      rw [List.take_length] at HPL0 hBE hBM
      rw [List.take_length]
      have GC := Lib.hid (fun W (h : Below wr.heap.size wr W) => get_c EA ec (putAll l) s (by have := HPL0.out; omega) W (hBE.out.below h))
      have RC := Lib.hid (fun W (h : Below wr.heap.size wr W) => rget_c MA mc (putAll l) s (by have := HPL0.out; omega) W (hBM.out.below h))
      generalize putAll l = p at *
      cases hg : (getO p s).2 with
      | false =>
        rw [hg] at GC RC
        generalize (getO p s).1 = g at GC RC
        obtain ⟨g1, g2, g3⟩ := g
        go_wp2_with fail
        refine (GC.out _ (Below.refl _ _)).mono ?_
        rintro e w2 ⟨rfl, q2⟩
        have E2 := Lib.hid q2
        have F2 := Lib.hid (hB.out.trans (q2.mono hB.out.size))
        clear q2
        go_wp2_with fail
        have hA3 := (Below.refl w2.heap.size w2).alloc (Nat.le_refl _) (.cells #[.int .i64 g1, .int .i64 g2, .string g3] 26)
        have hn3 := heap_alloc_new w2 (.cells #[.int .i64 g1, .int .i64 g2, .string g3] 26)
        have G3 := Lib.hid (E2.out.trans (hA3.mono E2.out.size))
        have F3 := Lib.hid (F2.out.trans (hA3.mono F2.out.size))
        refine (RC.out _ G3.out).mono ?_
        rintro e w3 ⟨rfl, q3⟩
        have hc := (q3.block w2.heap.size (by simp)).trans hn3
        have HC := Lib.hid hc
        clear hc
        have F4 := Lib.hid (F3.out.trans (q3.mono F3.out.size))
        clear q3 hn3 hA3
        go_wp2_with fail
        go_ret
        exact ⟨rfl, F4.out.alloc F4.out.size _⟩
      | true =>
        rw [hg] at GC RC
        generalize (getO p s).1 = g at GC RC
        obtain ⟨g1, g2, g3⟩ := g
        go_wp2_with fail
        refine (GC.out _ (Below.refl _ _)).mono ?_
        rintro e w2 ⟨rfl, q2⟩
        have E2 := Lib.hid q2
        have F2 := Lib.hid (hB.out.trans (q2.mono hB.out.size))
        clear q2
        go_wp2_with fail
        have hA3 := (Below.refl w2.heap.size w2).alloc (Nat.le_refl _) (.cells #[.int .i64 g1, .int .i64 g2, .string g3] 26)
        have hn3 := heap_alloc_new w2 (.cells #[.int .i64 g1, .int .i64 g2, .string g3] 26)
        have G3 := Lib.hid (E2.out.trans (hA3.mono E2.out.size))
        have F3 := Lib.hid (F2.out.trans (hA3.mono F2.out.size))
        refine (RC.out _ G3.out).mono ?_
        rintro e w3 ⟨rfl, q3⟩
        have hc := (q3.block w2.heap.size (by simp)).trans hn3
        have HC := Lib.hid hc
        clear hc
        have F4 := Lib.hid (F3.out.trans (q3.mono F3.out.size))
        clear q3 hn3 hA3
        have d0 := block_cell (j := 0) HC.out rfl
        have d1 := block_cell (j := 1) HC.out rfl
        have d2 := block_cell (j := 2) HC.out rfl
        have hn4 := heap_alloc_new w3 (.cells #[.int .i64 g1, .int .i64 g2, .string g3] 26)
        have hA4 := (Below.refl w3.heap.size w3).alloc (Nat.le_refl _) (.cells #[.int .i64 g1, .int .i64 g2, .string g3] 26)
        have hlt3 : w2.heap.size < w3.heap.size := World.block_lt_of_cell? _ _ d0
        have e0 := (hA4.cell (p := ⟨w2.heap.size, 0, none⟩) hlt3).trans d0
        have e1 := (hA4.cell (p := ⟨w2.heap.size, 1, none⟩) hlt3).trans d1
        have e2 := (hA4.cell (p := ⟨w2.heap.size, 2, none⟩) hlt3).trans d2
        have f0 := block_cell (j := 0) hn4 rfl
        have f1 := block_cell (j := 1) hn4 rfl
        have f2 := block_cell (j := 2) hn4 rfl
        have SM := Lib.hid (fun W => by have := rsame_c (g1, g2, g3) (g1, g2, g3) W; rwa [decide_eq_true rfl] at this)
        clear hlt3 hn4 hA4 d0 d1 d2
        have F5 := Lib.hid (F4.out.alloc F4.out.size (.cells #[.int .i64 g1, .int .i64 g2, .string g3] 26))
        go_wp2_with fail
        refine (SM.out _).mono ?_
        rintro e w5 ⟨rfl, q5⟩
        have F6 := Lib.hid (F5.out.trans (q5.mono F5.out.size))
        clear q5 e0 e1 e2 f0 f1 f2
        go_wp2_with fail
        go_ret
        exact ⟨rfl, F6.out⟩
theorem evalBinds_any (A : Option Addr) (c : Nat) (l : List Bd) (s : ByteArray) (w : World) (ht : Tab w) (hI : BindsAt (fun _ => False) w A l) (hx : ∀ x ∈ l, cameB x) (_hA : A = none → c = 0) :
    Calls Tryz.prog 5 #[.slice A l.length c, .string s] w fun e w' => e = .returned (.bool true) ∧ Below w.heap.size w w' := by
  by_cases h : 40 < l.length ∨ 100 < s.size
  · exact binds_long A c l s w ht h
  · exact binds_main A c l s w ht hI hx (by omega) (by omega)
end Go.Proofs.YtmadnehipagakaaGreatDoor
