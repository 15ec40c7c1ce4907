/- tms.Table: used. -/
import Derived.Test.YtonflknnlfffhaaUi
namespace Go.Proofs.Ytonflknnlfffhaa
open Go.RowKit Go.Lib KP MR RW
/-- A table's rows, told without what came. -/
structure TR (g m : Nat) (N : Tb) (W : World) : Prop where
  gc : W.cell? ⟨g, 0, none⟩ = some (.map (some m))
  map : IsMap W m (Value.int .i64) Rd.val N
  row : ∀ p ∈ N, ∃ A c, W.cell? ⟨p.2.b, 1, none⟩ = some (.slice A p.2.ls.length c) ∧ RowsAt whyc 3 (fun _ => False) W A p.2.ls
  arg : ∀ p ∈ N, ∀ y ∈ p.2.ls, ArgY W y
  len : ∀ p ∈ N, p.2.ls.length ≤ 10000
section
variable {B : Nat} {F : Nat → Prop} {g m : Nat} {cv : Value} {cs : List Wf} {N : Tb} {W W' : World}
theorem TR.below (h : TR g m N W) (hb : Below W.heap.size W W') : TR g m N W' :=
  ⟨(hb.cell (World.block_lt_of_cell? _ _ h.gc)).trans h.gc, h.map.move (hb.block m h.map.lt), fun p hp => by
    obtain ⟨A, c, h1, h2⟩ := h.row p hp
    exact ⟨A, c, (hb.cell (World.block_lt_of_cell? _ _ h1)).trans h1, h2.below hb⟩, fun p hp y hy => (h.arg p hp y hy).below hb, h.len⟩
theorem TS.trk (h : TS B F g m cv cs N W) (hk : Keep (fun k => cv.ownBlock = some k) W W') : TR g m N W' :=
  ⟨block_cell (j := 0) ((hk.block g (h.lt g h.Fg).2 h.cg).trans h.blk) rfl, h.map.move (hk.block m (h.lt m h.Fm).2 h.cm), fun p hp => by
    obtain ⟨A, c, e, hr, _, _⟩ := OwnY.row ((h.own p hp).keep hk (fun k hk2 e => h.nc p hp k hk2 e))
    have hn := (hk.block p.2.b (h.lt _ (h.Fb p hp)).2 (h.cb hp)).trans (h.node p hp)
    rw [e] at hn
    exact ⟨A, c, block_cell (j := 1) hn rfl, hr⟩, fun p hp y hy => by
    have hf := h.facts y (.inr ⟨p, hp, hy⟩)
    exact (hf.keep hk (fun k hk2 e => (h.fx hf).2.2.2 k hk2 e)).arg, h.lf⟩
theorem TS.tr (h : TS B F g m cv cs N W) : TR g m N W := h.trk (Keep.refl _ W)
theorem TS.argk (h : TS B F g m cv cs N W) (hk : Keep (fun k => cv.ownBlock = some k) W W') {y : Wf} (hy : y ∈ cs) : ArgY W' y := by
  have hf := h.facts y (.inl hy)
  exact (hf.keep hk (fun k hk2 e => (h.fx hf).2.2.2 k hk2 e)).arg
end
section
variable {w : World} {r m : Nat} {l todo : Tb} {ops : Array Oper} {rest' : List Oper} {o : Oper} {a : Act} {Q : Exit → Act → World → Prop}
def but (t : Tb) (k : Int) : Tb := t.filter fun q => decide (q.1 ≠ k)
theorem tms_next (hg : o.guard = none) (it : Operand) (hop : o.op = Op.next it false) (h : Iter w r m (Value.int .i64) Rd.val l todo) (hit : a.eval it = .pointer (some ⟨r, 0, none⟩))
    (hDone : todo = [] → wpList Try.prog ops Q rest' (a.put o.dst (.tuple #[.bool false])) w)
    (hMore : ∀ k (nd : Rd) w', (k, nd) ∈ todo → Iter w' r m (Value.int .i64) Rd.val l (but todo k) → w.grownBy w' (some r) → w'.heap.size = w.heap.size →
      (Instr.entry (.pointer (some ⟨r, 0, none⟩))).run Try.prog w' = .ok (.tuple #[.int .i64 k, .pointer (some ⟨nd.b, 0, none⟩)]) w' → wpList Try.prog ops Q rest' (a.put o.dst (.tuple #[.bool true, .int .i64 k, .pointer (some ⟨nd.b, 0, none⟩)])) w') : wpList Try.prog ops Q (o :: rest') a w :=
  wp_next hg it hop inj_int h hit hDone (fun p w' hp h1 h2 h3 h4 => hMore p.1 p.2 w' hp h1 h2 h3 h4)
end
/-- Does a fact have the support? -/
def usedB (N : Tb) (y : Wy) : Bool := N.any fun p => decide (y ∈ p.2.ls.map (·.1))
section
variable {g m : Nat} {N : Tb} {W : World}
set_option maxRecDepth 100000 in
set_option maxHeartbeats 8000000 in
theorem used_c (y : Wf) (h : TR g m N W) (hy : ArgY W y) : Calls Try.prog 62 #[.pointer (some ⟨g, 0, none⟩), y.val] W fun e w' => e = .returned (.bool (usedB N y.1)) ∧ Below W.heap.size W w' := by
  obtain ⟨⟨y1, y2, y3⟩, yA, yc⟩ := y
  have DA := Lib.hid ((Below.refl W.heap.size W).alloc (Nat.le_refl _) (.cells (whyc ((y1, y2, y3), yA, yc)).toArray 50))
  have HT : Hid (∀ w', Below W.heap.size W w' → TR g m N w') := Lib.hid (fun w' hb => h.below hb)
  have HARG : Hid (∀ w', Below W.heap.size W w' → ArgY w' ((y1, y2, y3), yA, yc)) := Lib.hid (fun w' hb => hy.below hb)
  have HBX := heap_alloc_new W (.cells (whyc ((y1, y2, y3), yA, yc)).toArray 50)
  have HX0 : Hid ((fun w' : World => w'.cell? ⟨W.heap.size, 0, none⟩ = some (.int .i64 y1) ∧ w'.cell? ⟨W.heap.size, 1, none⟩ = some (.int .i64 y2) ∧ w'.cell? ⟨W.heap.size, 2, none⟩ = some (.slice yA y3.length yc)) (W.alloc (.cells (whyc ((y1, y2, y3), yA, yc)).toArray 50))) := Lib.hid ⟨block_cell (j := 0) HBX rfl, block_cell (j := 1) HBX rfl, block_cell (j := 2) HBX rfl⟩
  have hgc := (HT.out _ DA.out).gc
  have hI := (HT.out _ DA.out).map
  have HYES : Hid (∀ p ∈ N, ((y1, y2, y3), yA, yc).1 ∈ p.2.ls.map (·.1) → true = usedB N ((y1, y2, y3), yA, yc).1) := Lib.hid (fun p hp hm => by
    unfold usedB; symm; rw [List.any_eq_true]; exact ⟨p, hp, by simpa using hm⟩)
  have HNON : Hid ((∀ p ∈ N, ¬ ((y1, y2, y3), yA, yc).1 ∈ p.2.ls.map (·.1)) → false = usedB N ((y1, y2, y3), yA, yc).1) := Lib.hid (fun hn => by
    unfold usedB; symm; rw [List.any_eq_false]; exact fun p hp => by simpa using hn p hp)
  clear h hy HBX
  go_enter Try.func62, Try.ntmps62
  go_wp2_with (at_range; refine wp_range rfl (.tmp 10) 85 rfl Try.underlying85 hI rfl ?_; intro w0 hi0 hg0 hs0)
  (try go_frame)
  have hw0 : Below W.heap.size W w0 := DA.out.grown hg0 (by simp) (fun k hk => by cases hk)
  have hx0 : (fun w' : World => w'.cell? ⟨W.heap.size, 0, none⟩ = some (.int .i64 y1) ∧ w'.cell? ⟨W.heap.size, 1, none⟩ = some (.int .i64 y2) ∧ w'.cell? ⟨W.heap.size, 2, none⟩ = some (.slice yA y3.length yc)) w0 := by
    have kb : Below (W.alloc (.cells (whyc ((y1, y2, y3), yA, yc)).toArray 50)).heap.size (W.alloc (.cells (whyc ((y1, y2, y3), yA, yc)).toArray 50)) w0 := (Below.refl _ _).grown hg0 (Nat.le_refl _) (fun k hk => by cases hk)
    exact ⟨(kb.cell (World.block_lt_of_cell? _ _ HX0.out.1)).trans HX0.out.1, (kb.cell (World.block_lt_of_cell? _ _ HX0.out.2.1)).trans HX0.out.2.1, (kb.cell (World.block_lt_of_cell? _ _ HX0.out.2.2)).trans HX0.out.2.2⟩
  have hsz : (W.alloc (.cells (whyc ((y1, y2, y3), yA, yc)).toArray 50)).heap.size = W.heap.size + 1 := by simp
  rw [hsz] at hi0
  clear hI hgc HX0 hg0 hs0 hsz DA
  go_loopw [4] (fun _ wr => ∃ todo, Hid (Iter wr (W.heap.size + 1) m (Value.int .i64) Rd.val N todo) ∧ Hid (∀ p ∈ todo, p ∈ N) ∧ Hid (∀ p ∈ N, p ∈ todo ∨ ¬ ((y1, y2, y3), yA, yc).1 ∈ p.2.ls.map (·.1)) ∧ Hid (Below W.heap.size W wr) ∧ Hid ((fun w' : World => w'.cell? ⟨W.heap.size, 0, none⟩ = some (.int .i64 y1) ∧ w'.cell? ⟨W.heap.size, 1, none⟩ = some (.int .i64 y2) ∧ w'.cell? ⟨W.heap.size, 2, none⟩ = some (.slice yA y3.length yc)) wr)) (fun _ wr => leftN wr (W.heap.size + 1) m)
  case atStart => exact ⟨N, Lib.hid hi0, Lib.hid (fun _ h => h), Lib.hid (fun p hp => .inl hp), Lib.hid hw0, Lib.hid hx0⟩
  case round =>
    obtain ⟨todo, hi, hsub, hno, hbe, hx⟩ := hrel
    have hm0 := Lib.hid (hi.out.left)
    clear hi0 hw0 hx0
    go_wp2_with (at_next; refine tms_next rfl (.tmp 11) rfl hi.out rfl ?_ ?_)
    · intro ht
      have HD := Lib.hid (HNON.out (fun p hp => (hno.out p hp).resolve_left (by rw [ht]; exact List.not_mem_nil)))
      clear ht
      go_wp2
      go_ret
      exact ⟨ret_bool HD.out, hbe.out⟩
    · intro k ⟨b, f, v, ls⟩ w1 hp hi1 hg1 hs1 hen
      have hb1 : Below W.heap.size W w1 := hbe.out.grown hg1 hbe.out.size (fun k hk => by injection hk with hk; omega)
      have k1 : Keep (fun k => k = W.heap.size + 1) wr w1 := (Keep.refl _ wr).grown hg1 (fun k hk => .inl (by injection hk with hk; exact hk.symm))
      have HX : Hid ((fun w' : World => w'.cell? ⟨W.heap.size, 0, none⟩ = some (.int .i64 y1) ∧ w'.cell? ⟨W.heap.size, 1, none⟩ = some (.int .i64 y2) ∧ w'.cell? ⟨W.heap.size, 2, none⟩ = some (.slice yA y3.length yc)) w1) := Lib.hid ⟨k1.cell hx.out.1 (by show ¬ W.heap.size = W.heap.size + 1; omega), k1.cell hx.out.2.1 (by show ¬ W.heap.size = W.heap.size + 1; omega), k1.cell hx.out.2.2 (by show ¬ W.heap.size = W.heap.size + 1; omega)⟩
      have t1 := HT.out _ hb1
      have hpN := hsub.out _ hp
      obtain ⟨A, c, hc0, -⟩ := t1.row _ hpN
      have hlen := t1.len _ hpN
      have T1 := Lib.hid t1
      have HARG2 : Hid (∀ w', Below w1.heap.size w1 w' → ArgY w' ((y1, y2, y3), yA, yc)) := Lib.hid (fun w' hb => HARG.out w' (hb1.trans (hb.mono hb1.size)))
      have HARGS : Hid (∀ w', Below w1.heap.size w1 w' → ∀ x ∈ ls, ArgY w' x) := Lib.hid (fun w' hb x hx => (T1.out.below hb).arg _ hpN x hx)
      dsimp only at hc0 hlen
      have HC0 := Lib.hid hc0
      have HROW : Hid (∀ w', Below w1.heap.size w1 w' → RowsAt whyc 3 (fun _ => False) w' A ls) := Lib.hid (fun w' hb => by
        obtain ⟨A', c', h1, h2⟩ := (T1.out.below hb).row _ hpN
        dsimp only at h1 h2
        rw [(hb.cell (World.block_lt_of_cell? _ _ HC0.out)).trans HC0.out] at h1
        injection h1 with h1
        injection h1 with e1 _ _
        rw [e1]; exact h2)
      have HL := Lib.hid (todo_less hp)
      have HS : Hid (∀ q ∈ but todo k, q ∈ N) := Lib.hid (fun q hq => hsub.out q (List.mem_filter.1 hq).1)
      have HI1 := Lib.hid hi1
      have HBE := Lib.hid hb1
      have HP := Lib.hid hpN
      obtain ⟨r1, HR⟩ : ∃ r, Hid (r = decide (((y1, y2, y3), yA, yc).1 ∈ ls.map (·.1))) := ⟨_, Lib.hid rfl⟩
      have HNO : Hid (r1 = false → ∀ q ∈ N, q ∈ but todo k ∨ ¬ ((y1, y2, y3), yA, yc).1 ∈ q.2.ls.map (·.1)) := Lib.hid (fun hr q hq => by
        rcases hno.out q hq with h | h
        · by_cases e : q.1 = k
          · right
            have hq2 : q = (k, ⟨b, f, v, ls⟩) := same_pair T1.out.map.nodup hpN hq e
            subst hq2
            exact of_decide_eq_false (HR.out.symm.trans hr)
          · exact .inl (List.mem_filter.2 ⟨h, by simpa using e⟩)
        · exact .inr h)
      clear hp hi1 hg1 hs1 k1 t1 hpN hc0 hi hsub hno hbe hx hb1
      go_wp2_with fail
      have HS2 : Hid (∀ w', Below w1.heap.size w1 w' → (fun w' : World => w'.cell? ⟨b, 1, none⟩ = some (.slice A ls.length c) ∧ w'.cell? ⟨W.heap.size, 0, none⟩ = some (.int .i64 y1) ∧ w'.cell? ⟨W.heap.size, 1, none⟩ = some (.int .i64 y2) ∧ w'.cell? ⟨W.heap.size, 2, none⟩ = some (.slice yA y3.length yc)) w') := Lib.hid (fun w' hb => ⟨(hb.cell (World.block_lt_of_cell? _ _ HC0.out)).trans HC0.out, (hb.cell (World.block_lt_of_cell? _ _ HX.out.1)).trans HX.out.1, (hb.cell (World.block_lt_of_cell? _ _ HX.out.2.1)).trans HX.out.2.1, (hb.cell (World.block_lt_of_cell? _ _ HX.out.2.2)).trans HX.out.2.2⟩)
      have ED := Lib.hid ((Below.refl w1.heap.size w1).drew)
      refine wp_region_held_drew (S := (fun w' : World => w'.cell? ⟨b, 1, none⟩ = some (.slice A ls.length c) ∧ w'.cell? ⟨W.heap.size, 0, none⟩ = some (.int .i64 y1) ∧ w'.cell? ⟨W.heap.size, 1, none⟩ = some (.int .i64 y2) ∧ w'.cell? ⟨W.heap.size, 2, none⟩ = some (.slice yA y3.length yc))) (by kernel_rfl) (HS2.out _ ED.out) (fun hHeld => ?_)
      refine wpAnyH_take (i := 0) (oi := ⟨_, _, _, _, _, _⟩) (v := ?_) rfl (by kernel_rfl) (by kernel_rfl) (by kernel_rfl) (fun _ _ _ h => h) (Or.inl ⟨by rfl, ?_⟩) (by assumption) ?_
      rotate_left
      · intro w' hSw; (try dsimp only at hSw); go_simp; (try with_reducible rfl)
      try simp only [Act.put, List.setIfInBounds_toArray, List.set_cons_zero, List.set_cons_succ]
      refine wpAnyH_take (i := 1) (oi := ⟨_, _, _, _, _, _⟩) (v := ?_) rfl (by kernel_rfl) (by kernel_rfl) (by kernel_rfl) (fun _ _ _ h => h) (Or.inl ⟨by rfl, ?_⟩) (by assumption) ?_
      rotate_left
      · intro w' hSw; (try dsimp only at hSw); go_simp; (try with_reducible rfl)
      try simp only [Act.put, List.setIfInBounds_toArray, List.set_cons_zero, List.set_cons_succ]
      refine wpAnyH_take (i := 2) (oi := ⟨_, _, _, _, _, _⟩) (v := ?_) rfl (by kernel_rfl) (by kernel_rfl) (by kernel_rfl) (fun _ _ _ h => h) (Or.inl ⟨by rfl, ?_⟩) (by assumption) ?_
      rotate_left
      · intro w' hSw; (try dsimp only at hSw); go_simp; (try with_reducible rfl)
      try simp only [Act.put, List.setIfInBounds_toArray, List.set_cons_zero, List.set_cons_succ]
      refine wpAnyH_take (i := 3) (oi := ⟨_, _, _, _, _, _⟩) (v := ?_) rfl (by kernel_rfl) (by kernel_rfl) (by kernel_rfl) (fun _ _ _ h => h) (Or.inl ⟨by rfl, ?_⟩) (by assumption) ?_
      rotate_left
      · intro w' hSw; (try dsimp only at hSw); go_simp; (try with_reducible rfl)
      try simp only [Act.put, List.setIfInBounds_toArray, List.set_cons_zero, List.set_cons_succ]
      refine wpAnyH_take (i := 4) (oi := ⟨_, _, _, _, _, _⟩) (v := ?_) rfl (by kernel_rfl) (by kernel_rfl) (by kernel_rfl) (fun _ _ _ h => h) (Or.inl ⟨by rfl, ?_⟩) (by assumption) ?_
      rotate_left
      · intro w' hSw; (try dsimp only at hSw); go_simp; (try with_reducible rfl)
      try simp only [Act.put, List.setIfInBounds_toArray, List.set_cons_zero, List.set_cons_succ]
      refine wpAnyH_ready (rs := [5]) (by kernel_rfl) (by simp) ?_
      refine AllReadyH.cons (o := ⟨_, _, _, _, _, _⟩) rfl (fun K9 hK9 => ?_) AllReadyH.nil
      go_simp
      (with_reducible refine (is_o ((y1, y2, y3), yA, yc) _).mono ?_)
      rintro e p1 ⟨b1, rfl, hb1, bb1⟩
      have E1 := Lib.hid (ED.out.trans (bb1.mono ED.out.size))
      have HB1 := Lib.hid hb1
      clear bb1 hb1
      go_wp2_with fail
      refine hK9.out _ _ (HS2.out _ E1.out) (fun hHeld => ?_)
      clear hK9 K9
      try simp only [Act.put, List.setIfInBounds_toArray, List.set_cons_zero, List.set_cons_succ]
      refine wpAnyH_ready (rs := [6]) (by kernel_rfl) (by simp) ?_
      refine AllReadyH.cons (o := ⟨_, _, _, _, _, _⟩) rfl (fun K9 hK9 => ?_) AllReadyH.nil
      go_simp
      (with_reducible refine (has_r r1 A c b1 ls ((y1, y2, y3), yA, yc) p1 HR.out (HROW.out _ E1.out) (HARGS.out _ E1.out) (HARG2.out _ E1.out) HB1.out (by omega)).mono ?_)
      rintro e p2 ⟨rfl, bb2⟩
      have E2 := Lib.hid (E1.out.trans (bb2.mono E1.out.size))
      clear bb2
      go_wp2_with fail
      refine hK9.out _ _ (HS2.out _ E2.out) (fun hHeld => ?_)
      clear hK9 K9
      try simp only [Act.put, List.setIfInBounds_toArray, List.set_cons_zero, List.set_cons_succ]
      refine wpAnyH_done (by kernel_rfl) ?_ _
      clear hHeld
      have E3 := Lib.hid (HBE.out.trans (E2.out.mono HBE.out.size))
      cases r1 with
      | true =>
        have HD := Lib.hid (HYES.out _ HP.out (of_decide_eq_true HR.out.symm))
        clear HS2
        go_wp2_with fail
        go_ret
        exact ⟨ret_bool HD.out, E3.out⟩
      | false =>
        have HN2 := Lib.hid (HNO.out rfl)
        have HX2 := Lib.hid (HS2.out _ E2.out).2
        have HI2 := Lib.hid (HI1.out.move (E2.out.block m HI1.out.isMap.lt) (E2.out.block _ HI1.out.lt))
        clear HS2 HNO
        go_wp2_with fail
        go_roundw
        case rel => exact ⟨_, HI2, HS, HN2, E3, HX2⟩
        case measure => rw [HI2.out.left, hm0.out]; exact HL.out
end
end Go.Proofs.Ytonflknnlfffhaa
