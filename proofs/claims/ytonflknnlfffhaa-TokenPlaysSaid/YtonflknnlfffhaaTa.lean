/- token.Tree: Add. -/
import Derived.Test.YtonflknnlfffhaaTe
namespace Go.Proofs.Ytonflknnlfffhaa
open Go.RowKit Go.Lib KP MR RW
theorem step_update {P : Program} {ops : Array Oper} {o : Oper} {a : Act} {K : Act → World → Prop} {Q : Exit → Act → World → Prop} {E : Prop} {w w' : World} {mty : TypeId} {vx vy vz : Value} (hg : o.guard = none) (x y z : Operand) (ho : o.op = .mapUpdate mty x y z) (hx : a.eval x = vx) (hy : a.eval y = vy) (hz : a.eval z = vz)
    (hr : (Instr.mapUpdate mty vx vy vz).run P w = .ok () w') (h : K (a.put o.dst undef) w') : if Region.wanted o (yielded ops a.tmps) = true then Oper.wp P o a w K Q else E := by
  have hw : Region.wanted o (yielded ops a.tmps) = true := by simp [Region.wanted, hg]
  rw [if_pos hw]
  unfold Oper.wp
  simp [execOp, ho, hx, hy, hz, hr, Result.andThen]
  exact h
section
variable {B : Nat} {F : Nat → Prop} {g m : Nat} {N : Tab} {last nx : Int} {W W' : World} {id : Int}
theorem TM.setLast (h : TM B F g m N last W) (hn : 0 ≤ nx ∧ nx ≤ 1000000) : TM B F g m N nx (W.setCell ⟨g, 1, none⟩ (.int .i64 nx)) :=
  have k1 : Keep (fun k => k = g) W (W.setCell ⟨g, 1, none⟩ (.int .i64 nx)) := (Keep.refl (fun k => k = g) W).setCell (p := ⟨g, 1, none⟩) (.inl rfl) _
  ⟨by have := block_set h.blk (j := 1) (.int .i64 nx); simpa using this, h.map.move (k1.block m (h.lt m h.Fm).2 (fun e => h.gm e.symm)), fun p hp => (k1.block _ (h.lt _ (h.Fb p hp)).2 (h.bg hp)).trans (h.node p hp),
   fun p hp => (h.own p hp).keep k1 (fun k hk2 e => h.vg hp (by rw [← e]; exact hk2)), h.nb, h.nk, h.Fg, h.Fm, h.Fb, h.Fk, fun k hF => ⟨(h.lt k hF).1, Nat.lt_of_lt_of_le (h.lt k hF).2 k1.size⟩, h.few, h.keys, h.kf, hn⟩
set_option maxRecDepth 100000 in
/-- 't.by[id] = &node{..}'. -/
theorem TM.put (h : TM B F g m N last W) (hl : lk N id = none) (hid : 0 ≤ id ∧ id ≤ 1000000) (hf : N.length ≤ 900) (par fact : Int) :
    ∃ w', (Instr.mapUpdate 75 (.map (some m)) (.int .i64 id) (.pointer (some ⟨W.heap.size, 0, none⟩))).run Try.prog (W.alloc (.cells #[.int .i64 par, .int .i64 fact, .slice none 0 0] 74)) = .ok () w' ∧
      TM B (fun k => F k ∨ k = W.heap.size) g m (N ++ [(id, ⟨W.heap.size, par, fact, .slice none 0 0, []⟩)]) last w' ∧ Keep F W w' := by
  have h1 := h.grow ((Below.refl W.heap.size W).alloc (Nat.le_refl _) (.cells #[.int .i64 par, .int .i64 fact, .slice none 0 0] 74))
  obtain ⟨w', hrun, r1, r2, r3⟩ := h1.map.update (P := Try.prog) inj_int key_int Try.underlying75 Try.underlying3 id ⟨W.heap.size, par, fact, .slice none 0 0, []⟩
  rw [put_none hl] at r1
  have k3 : Keep (fun k => k = m) (W.alloc (.cells #[.int .i64 par, .int .i64 fact, .slice none 0 0] 74)) w' := (Keep.refl _ _).grown r2 (fun k hk => .inl (by injection hk with hk; exact hk.symm))
  have hsz : w'.heap.size = W.heap.size + 1 := by rw [r3]; simp
  have hm : m < W.heap.size := (h.lt m h.Fm).2
  have hbs : ∀ p ∈ N, p.2.b < W.heap.size := fun p hp => (h.lt _ (h.Fb p hp)).2
  refine ⟨w', hrun, ⟨(k3.block g (by have := (h1.lt g h1.Fg).2; exact this) h1.gm).trans h1.blk, r1, ?_, ?_, ?_, ?_, .inl h.Fg, .inl h.Fm, ?_, ?_, ?_, ?_, ?_, ?_, h.last1⟩, ?_⟩
  · intro p hp
    rcases List.mem_append.1 hp with hp | hp
    · exact (k3.block _ (h1.lt _ (h1.Fb p hp)).2 (h1.bm hp)).trans (h1.node p hp)
    · obtain rfl := List.mem_singleton.1 hp
      exact (k3.block _ (by simp) (by show W.heap.size ≠ m; omega)).trans (heap_alloc_new W _)
  · intro p hp
    rcases List.mem_append.1 hp with hp | hp
    · exact (h1.own p hp).keep k3 (fun k hk2 e => h1.vm hp (by rw [← e]; exact hk2))
    · obtain rfl := List.mem_singleton.1 hp
      exact OwnW.nil _ _ _ _
  · refine List.pairwise_append.2 ⟨h.nb, List.pairwise_singleton _ _, fun p hp q hq => ?_⟩
    obtain rfl := List.mem_singleton.1 hq
    have := hbs p hp
    show p.2.b ≠ W.heap.size
    omega
  · refine List.pairwise_append.2 ⟨h.nk, List.pairwise_singleton _ _, fun p hp q hq k _ hk2 => ?_⟩
    obtain rfl := List.mem_singleton.1 hq
    cases hk2
  · intro p hp
    rcases List.mem_append.1 hp with hp | hp
    · exact .inl (h.Fb p hp)
    · obtain rfl := List.mem_singleton.1 hp
      exact .inr rfl
  · intro p hp k hk2
    rcases List.mem_append.1 hp with hp | hp
    · exact .inl (h.Fk p hp k hk2)
    · obtain rfl := List.mem_singleton.1 hp
      cases hk2
  · rintro k (hF | rfl)
    · exact ⟨(h.lt k hF).1, by have := (h.lt k hF).2; omega⟩
    · exact ⟨by have := h.lt g h.Fg; omega, by omega⟩
  · simp; omega
  · intro p hp
    rcases List.mem_append.1 hp with hp | hp
    · exact h.keys p hp
    · obtain rfl := List.mem_singleton.1 hp
      exact hid
  · intro p hp
    rcases List.mem_append.1 hp with hp | hp
    · exact h.kf p hp
    · obtain rfl := List.mem_singleton.1 hp
      exact Nat.zero_le _
  · exact ((Keep.refl F W).alloc _).trans k3 (fun k e => .inl (by rw [e]; exact h.Fm))
set_option maxRecDepth 100000 in
set_option maxHeartbeats 4000000 in
theorem add_no (h : TM B F g m N last W) (p f : Int) (hl : lk N p = none) : Calls Try.prog 9 #[.pointer (some ⟨g, 0, none⟩), .int .i64 p, .int .i64 f] W fun e w' => e = .returned (.tuple #[.int .i64 0, .int .i64 5]) ∧ W = w' := by
  have hc0 := block_cell (j := 0) h.blk rfl
  have hlk := h.look_no hl
  clear h hl
  go_enter Try.func9, Try.ntmps9
  go_wp2_with fail
  go_ret2
  exact ⟨rfl, rfl⟩
theorem add_tail {A : Option Addr} {c n4 : Nat} {A4 : Option Addr} {nd : Nd} {w4 : World} (p f : Int) (TA : TM B F g m N nx W) (hl : lk N p = some nd) (hn0 : lk N nx = none) (hkv : nd.kv = .slice A nd.kids.length c) (hg4 : W.grownBy w4 (Value.slice A nd.kids.length c).ownBlock) (ho4 : OwnW w4 B 3 1 (.slice A4 (nd.kids.length + 1) n4) (nd.kids.length + [nx].length) ((nd.kids ++ [nx]).flatMap intc))
    (hv4 : (Value.slice A4 (nd.kids.length + 1) n4).ownBlock = (Value.slice A nd.kids.length c).ownBlock ∨ ∀ k, (Value.slice A4 (nd.kids.length + 1) n4).ownBlock = some k → W.heap.size ≤ k) (g4 : w4.heap[nd.b]? = some (.cells #[.int .i64 nd.par, .int .i64 nd.fact, .slice A nd.kids.length c] 74 (0, 0))) (hf : N.length ≤ 900) (hk : nd.kids.length ≤ 900) (hnx : 0 ≤ nx ∧ nx ≤ 1000000) {B0 : Nat} (_hB : B ≤ B0) :
    ∃ w9 b F9, (Instr.mapUpdate 75 (.map (some m)) (.int .i64 nx) (.pointer (some ⟨(w4.setCell ⟨nd.b, 2, none⟩ (.slice A4 (nd.kids.length + 1) n4)).drew.heap.size, 0, none⟩))).run Try.prog ((w4.setCell ⟨nd.b, 2, none⟩ (.slice A4 (nd.kids.length + 1) n4)).drew.alloc (.cells #[.int .i64 p, .int .i64 f, .slice none 0 0] 74)) = .ok () w9 ∧
      (fun w' : World => w'.cell? ⟨g, 0, none⟩ = some (.map (some m)) ∧ w'.cell? ⟨g, 1, none⟩ = some (.int .i64 nx)) (w4.setCell ⟨nd.b, 2, none⟩ (.slice A4 (nd.kids.length + 1) n4)).drew ∧
      (fun w' : World => w'.cell? ⟨g, 0, none⟩ = some (.map (some m)) ∧ w'.cell? ⟨g, 1, none⟩ = some (.int .i64 nx)) ((w4.setCell ⟨nd.b, 2, none⟩ (.slice A4 (nd.kids.length + 1) n4)).drew.alloc (.cells #[.int .i64 p, .int .i64 f, .slice none 0 0] 74)) ∧
      (fun w' : World => w'.cell? ⟨g, 0, none⟩ = some (.map (some m)) ∧ w'.cell? ⟨g, 1, none⟩ = some (.int .i64 nx)) w9 ∧
      TM B F9 g m (setK N p (.slice A4 (nd.kids.length + 1) n4) (nd.kids ++ [nx]) ++ [(nx, ⟨b, p, f, .slice none 0 0, []⟩)]) nx w9 ∧ (∀ k, F k → F9 k) ∧ (∀ k, F9 k → F k ∨ W.heap.size ≤ k) ∧ Keep F W w9 := by
  have hmem := lk_some hl
  generalize hv : Value.slice A4 (nd.kids.length + 1) n4 = v at *
  have k4 : Keep (fun k => nd.kv.ownBlock = some k) W w4 := (Keep.refl _ W).grown hg4 (fun k hk => .inl (by rw [hkv]; exact hk))
  have k7 : Keep (fun k => k = nd.b ∨ nd.kv.ownBlock = some k) W (w4.setCell ⟨nd.b, 2, none⟩ v) := (k4.mono (fun k hk => .inr hk)).setCell (.inl (.inl rfl)) _
  have fb := TA.Fb _ hmem
  have fk := TA.Fk _ hmem
  have hbF : ∀ k, F k → k < W.heap.size := fun k hF => (TA.lt k hF).2
  have hBW : B ≤ W.heap.size := by have := TA.lt g TA.Fg; omega
  have o4 : OwnI w4 B v (nd.kids ++ [nx]) := by unfold OwnI; rw [List.length_append]; exact ho4
  have hvb : v.ownBlock ≠ some nd.b := o4.ne g4 (by decide)
  have o7 : OwnI (w4.setCell ⟨nd.b, 2, none⟩ v) B v (nd.kids ++ [nx]) := o4.keep ((Keep.refl (fun k => k = nd.b) w4).setCell (.inl rfl) _) (fun k hk e => hvb (by rw [← e]; exact hk))
  have hv' : ∀ k, v.ownBlock = some k → nd.kv.ownBlock = some k ∨ W.heap.size ≤ k := fun k hk => by
    rcases hv4 with e | h
    · left; rw [hkv, ← e]; exact hk
    · exact .inr (h k hk)
  have T7 := TA.setK (F' := fun k => F k ∨ (W.heap.size ≤ k ∧ k < (w4.setCell ⟨nd.b, 2, none⟩ v).heap.size)) hl k7 (by have := block_set g4 (j := 2) v; simpa using this) o7 hv' (fun k hF => .inl hF) (fun k hk => (hv' k hk).imp (fun h => fk k h) (fun h => ⟨h, (o7.lt hk).2⟩)) (fun k hk => hk) (by simp; omega) hBW
  have T8 := T7.grow (W' := (w4.setCell ⟨nd.b, 2, none⟩ v).drew) ((Below.refl _ _).drew)
  have hlen : (setK N p v (nd.kids ++ [nx])).length ≤ 900 := by
    have := congrArg List.length (setK_keys N p v (nd.kids ++ [nx]))
    simp only [List.length_map] at this
    omega
  have hne : nx ≠ p := fun e => by rw [e, hl] at hn0; cases hn0
  obtain ⟨w9, hr9, t9, k9⟩ := T8.put (id := nx) ((lk_setK hne).trans hn0) hnx hlen p f
  have T8a := T8.grow ((Below.refl (w4.setCell ⟨nd.b, 2, none⟩ v).drew.heap.size (w4.setCell ⟨nd.b, 2, none⟩ v).drew).alloc (Nat.le_refl _) (.cells #[.int .i64 p, .int .i64 f, .slice none 0 0] 74))
  refine ⟨w9, _, _, hr9, ⟨block_cell (j := 0) T8.blk rfl, block_cell (j := 1) T8.blk rfl⟩, ⟨block_cell (j := 0) T8a.blk rfl, block_cell (j := 1) T8a.blk rfl⟩, ⟨block_cell (j := 0) t9.blk rfl, block_cell (j := 1) t9.blk rfl⟩, t9, fun k hF => .inl (.inl hF), ?_, ?_⟩
  · rintro k ((hF | h) | rfl)
    · exact .inl hF
    · exact .inr h.1
    · exact .inr k7.size
  · have k8 : Keep F W (w4.setCell ⟨nd.b, 2, none⟩ v).drew := (k7.mono (G := F) (fun k hk => by rcases hk with rfl | h; exact fb; exact fk k h)).drew
    exact k8.trans k9 (fun k hk => hk.imp id (fun h => h.1))
set_option maxRecDepth 100000 in
set_option maxHeartbeats 4000000 in
theorem add_yes {nd : Nd} (h : TM B F g m N last W) (p f : Int) (hl : lk N p = some nd) (hn : nx = last + 1) (hn0 : lk N nx = none) (hnx : nx ≤ 1000000) (hf : N.length ≤ 900) (hk : nd.kids.length ≤ 900) : Calls Try.prog 9 #[.pointer (some ⟨g, 0, none⟩), .int .i64 p, .int .i64 f] W fun e w' =>
    e = .returned (.tuple #[.int .i64 nx, .int .i64 0]) ∧ ∃ F' v' b, TM B F' g m (setK N p v' (nd.kids ++ [nx]) ++ [(nx, ⟨b, p, f, .slice none 0 0, []⟩)]) nx w' ∧ (∀ k, F k → F' k) ∧ (∀ k, F' k → F k ∨ W.heap.size ≤ k) ∧ Keep F W w' := by
  obtain ⟨i0, hi, hz0, hz1, hz2⟩ := info_parts infoI
  have HN := Lib.hid hn
  have hB : B ≤ W.heap.size := by have := h.lt g h.Fg; omega
  have hl1 := h.last1
  have hc0 := block_cell (j := 0) h.blk rfl
  have hc1 := block_cell (j := 1) h.blk rfl
  have hf1 := block_free (j := 1) h.blk
  have hlk := h.look_yes hl
  have HLEN := Lib.hid (len_c h)
  have T6 := Lib.hid (h.setLast (nx := nx) (by omega))
  have K6 : Hid (Keep F W (W.setCell ⟨g, 1, none⟩ (.int .i64 nx))) := Lib.hid ((Keep.refl F W).setCell (.inl h.Fg) _)
  have HL := Lib.hid hl
  have HN0 := Lib.hid hn0
  have hlen2 : ¬ (4096 : Int) ≤ (N.length : Int) - 1 := by omega
  have hlen3 : (N.length : Int) - 1 < 4096 := by omega
  have hli : last ≤ 1000000 := by omega
  have hl0 := hl1.1
  clear h hl hn0 hn
  go_enter Try.func9, Try.ntmps9
  go_wp2_with fail
  refine HLEN.out.mono ?_
  rintro e w1 ⟨rfl, rfl⟩
  clear HLEN
  go_wp2_with fail
  clear hc0 hc1 hf1 hlk
  rw [show last + 1 = nx from HN.out.symm]
  generalize hw6 : W.setCell ⟨g, 1, none⟩ (.int .i64 nx) = w6 at *
  clear hw6 hli hl0 hl1
  have hmem := lk_some HL.out
  obtain ⟨A, c, hkv, -, -, -⟩ := OwnW.rows (N := fun _ => False) intc_len (by decide) (T6.out.own _ hmem) (fun _ _ h => h)
  have hnode := T6.out.node _ hmem
  dsimp only at hkv hnode
  rw [hkv] at hnode
  have c5 := block_cell (j := 2) hnode rfl
  have f5 := block_free (j := 2) hnode
  have c6 := block_cell (j := 1) T6.out.blk rfl
  have BA : Hid (Below w6.heap.size w6 (w6.drew.alloc (.cells #[.int .i64 nx] 3))) := Lib.hid (((Below.refl w6.heap.size w6).drew).alloc (Nat.le_refl _) (.cells #[.int .i64 nx] 3))
  have TA := Lib.hid (T6.out.grow BA.out)
  have OA := Lib.hid (TA.out.own _ hmem)
  have NEW := Lib.hid (append_new (W := w6.drew) (x := nx))
  have SA : Hid (B ≤ (w6.drew.alloc (.cells #[.int .i64 nx] 3)).heap.size) := Lib.hid (by have := TA.out.lt g TA.out.Fg; omega)
  have HKV := Lib.hid hkv
  have G4 : Hid (∀ w4 v4, (w6.drew.alloc (.cells #[.int .i64 nx] 3)).grownBy w4 (Value.slice A nd.kids.length c).ownBlock → OwnW w4 B 3 1 v4 (nd.kids.length + 1) ((nd.kids ++ [nx]).flatMap intc) → w4.heap[nd.b]? = some (.cells #[.int .i64 nd.par, .int .i64 nd.fact, .slice A nd.kids.length c] 74 (0, 0)) ∧ ∃ A4 n4, v4 = .slice A4 (nd.kids.length + 1) n4) := Lib.hid (fun w4 v4 h ho => ⟨by
      have hn := TA.out.node _ hmem
      dsimp only at hn
      rw [HKV.out] at hn
      refine (h.block nd.b (Array.getElem?_eq_some_iff.1 hn).1 (fun e => ?_)).trans hn
      rw [← HKV.out] at e
      exact TA.out.vb hmem hmem e.symm, by
    obtain ⟨A4, n4, e4, _, _, _⟩ := OwnW.rows (l := nd.kids ++ [nx]) (N := fun _ => False) intc_len (by decide) ho (fun _ _ h => h)
    exact ⟨A4, n4, by rw [e4]; simp⟩⟩)
  dsimp only at OA
  rw [hkv] at OA
  have c5n : (w6.alloc (.cells #[.int .i64 nx] 3)).cell? ⟨nd.b, 2, none⟩ = some (.slice A nd.kids.length c) := by
    have hn := TA.out.node _ hmem
    dsimp only at hn
    rw [hkv] at hn
    exact block_cell (j := 2) hn rfl
  clear hkv hmem hnode
  have hkI : (nd.kids.length : Int) ≤ 900 := by omega
  go_region_law (refine step_append_ownW (f := intc) intc_len intc_flat (by decide) rfl (.tmp 37) (.tmp 42) 35 rfl B 3 i0 zI 8 Try.underlying35 hi hz0 hz1 hz2 rfl (.slice A nd.kids.length c) nd.kids.length nd.kids (by simp [Act.eval]) OA.out (some ⟨w6.heap.size, 0, none⟩) 1 [nx] (fun h => by cases h) NEW.out (by simp [Act.eval]) (by unfold maxLen; simp; omega) (by simp; omega) SA.out ?_; intro v4 w4 ho4 hg4 hv4; obtain ⟨g4, A4, n4, rfl⟩ := G4.out w4 v4 hg4 ho4; have c40 := block_cell (j := 2) g4 rfl; have f40 := block_free (j := 2) g4)
  all_goals
    have hg4 : (w6.drew.alloc (.cells #[.int .i64 nx] 3)).grownBy w4 (Value.slice A nd.kids.length c).ownBlock := hg4
    have hmem := lk_some HL.out
    obtain ⟨w9, b, F9, hr9, hs8, hsa, hs9, ht9, hf1, hf2, hk9⟩ := add_tail p f TA.out HL.out HN0.out HKV.out hg4 ho4 hv4 g4 hf hk (by have := T6.out.last1; omega) hB
    have HR9 := Lib.hid hr9
    have HS8 := Lib.hid hs8
    have HSA := Lib.hid hsa
    have HS9 := Lib.hid hs9
    have hc9 := hs9.2
    have HE := Lib.hid (show ∃ F' v' b, TM B F' g m (setK N p v' (nd.kids ++ [nx]) ++ [(nx, ⟨b, p, f, .slice none 0 0, []⟩)]) nx w9 ∧ (∀ k, F k → F' k) ∧ (∀ k, F' k → F k ∨ W.heap.size ≤ k) ∧ Keep F W w9 from
      ⟨F9, _, b, ht9, hf1, fun k hk => (hf2 k hk).imp id (fun h => by
        have h1 := K6.out.size
        have h2 := BA.out.size
        omega), (K6.out.trans (Keep.of_below BA.out F) (fun q hq => .inl hq)).trans hk9 (fun q hq => .inl hq)⟩)
    clear hr9 hs8 hsa hs9 ht9 hf1 hf2 hk9 hg4 ho4 hv4 g4 c40 f40 c5n c5 f5 c6 TA OA NEW SA G4 BA T6 hmem
    generalize hw7 : w4.setCell ⟨nd.b, 2, none⟩ (.slice A4 (nd.kids.length + 1) n4) = w7 at *
    clear hw7
    go_wp2_with fail
    refine wp_region_held_drew (S := (fun w' => w'.cell? ⟨g, 0, none⟩ = some (.map (some m)) ∧ w'.cell? ⟨g, 1, none⟩ = some (.int .i64 nx))) (by kernel_rfl) HS8.out (fun hHeld => ?_)
    refine wpAnyH_take (i := 0) (oi := ⟨_, _, _, _, _, _⟩) (v := ?_) rfl (by kernel_rfl) (by kernel_rfl) (by kernel_rfl) (fun _ _ _ h => h) (Or.inl ⟨by rfl, ?_⟩) (by assumption) ?_
    rotate_left
    · intro w' hSw; (try dsimp only at hSw); go_simp; (try with_reducible rfl)
    try simp only [Act.put, List.setIfInBounds_toArray, List.set_cons_zero, List.set_cons_succ]
    refine wpAnyH_take (i := 1) (oi := ⟨_, _, _, _, _, _⟩) (v := ?_) rfl (by kernel_rfl) (by kernel_rfl) (by kernel_rfl) (fun _ _ _ h => h) (Or.inl ⟨by rfl, ?_⟩) (by assumption) ?_
    rotate_left
    · intro w' hSw; (try dsimp only at hSw); go_simp; (try with_reducible rfl)
    try simp only [Act.put, List.setIfInBounds_toArray, List.set_cons_zero, List.set_cons_succ]
    refine wpAnyH_take (i := 2) (oi := ⟨_, _, _, _, _, _⟩) (v := ?_) rfl (by kernel_rfl) (by kernel_rfl) (by kernel_rfl) (fun _ _ _ h => h) (Or.inl ⟨by rfl, ?_⟩) (by assumption) ?_
    rotate_left
    · intro w' hSw; (try dsimp only at hSw); go_simp; (try with_reducible rfl)
    try simp only [Act.put, List.setIfInBounds_toArray, List.set_cons_zero, List.set_cons_succ]
    refine wpAnyH_take (i := 3) (oi := ⟨_, _, _, _, _, _⟩) (v := ?_) rfl (by kernel_rfl) (by kernel_rfl) (by kernel_rfl) (fun _ _ _ h => h) (Or.inl ⟨by rfl, ?_⟩) (by assumption) ?_
    rotate_left
    · intro w' hSw; (try dsimp only at hSw); go_simp; (try with_reducible rfl)
    try simp only [Act.put, List.setIfInBounds_toArray, List.set_cons_zero, List.set_cons_succ]
    refine wpAnyH_take (i := 4) (oi := ⟨_, _, _, _, _, _⟩) (v := ?_) rfl (by kernel_rfl) (by kernel_rfl) (by kernel_rfl) (fun _ _ _ h => h) (Or.inl ⟨by rfl, ?_⟩) (by assumption) ?_
    rotate_left
    · intro w' hSw; (try dsimp only at hSw); go_simp; (try with_reducible rfl)
    try simp only [Act.put, List.setIfInBounds_toArray, List.set_cons_zero, List.set_cons_succ]
    refine wpAnyH_take (i := 5) (oi := ⟨_, _, _, _, _, _⟩) (v := ?_) rfl (by kernel_rfl) (by kernel_rfl) (by kernel_rfl) (fun _ _ _ h => h) (Or.inl ⟨by rfl, ?_⟩) (by assumption) ?_
    rotate_left
    · intro w' hSw; (try dsimp only at hSw); go_simp; (try with_reducible rfl)
    try simp only [Act.put, List.setIfInBounds_toArray, List.set_cons_zero, List.set_cons_succ]
    refine wpAnyH_take (i := 6) (oi := ⟨_, _, _, _, _, _⟩) (v := ?_) rfl (by kernel_rfl) (by kernel_rfl) (by kernel_rfl) (fun _ _ _ h => h) (Or.inl ⟨by rfl, ?_⟩) (by assumption) ?_
    rotate_left
    · intro w' hSw; (try dsimp only at hSw); go_simp; (try with_reducible rfl)
    try simp only [Act.put, List.setIfInBounds_toArray, List.set_cons_zero, List.set_cons_succ]
    refine wpAnyH_take (i := 7) (oi := ⟨_, _, _, _, _, _⟩) (v := ?_) rfl (by kernel_rfl) (by kernel_rfl) (by kernel_rfl) (fun _ _ _ h => h) (Or.inl ⟨by rfl, ?_⟩) (by assumption) ?_
    rotate_left
    · intro w' hSw; (try dsimp only at hSw); go_simp; (try with_reducible rfl)
    try simp only [Act.put, List.setIfInBounds_toArray, List.set_cons_zero, List.set_cons_succ]
    refine wpAnyH_take (i := 8) (oi := ⟨_, _, _, _, _, _⟩) (v := ?_) rfl (by kernel_rfl) (by kernel_rfl) (by kernel_rfl) (fun _ _ _ h => h) (Or.inl ⟨by rfl, ?_⟩) (by assumption) ?_
    rotate_left
    · intro w' hSw; (try dsimp only at hSw); go_simp; (try with_reducible rfl)
    try simp only [Act.put, List.setIfInBounds_toArray, List.set_cons_zero, List.set_cons_succ]
    refine wpAnyH_take (i := 9) (oi := ⟨_, _, _, _, _, _⟩) (v := ?_) rfl (by kernel_rfl) (by kernel_rfl) (by kernel_rfl) (fun _ _ _ h => h) (Or.inl ⟨by rfl, ?_⟩) (by assumption) ?_
    rotate_left
    · intro w' hSw; (try dsimp only at hSw); go_simp; (try with_reducible rfl)
    try simp only [Act.put, List.setIfInBounds_toArray, List.set_cons_zero, List.set_cons_succ]
    refine wpAnyH_take (i := 10) (oi := ⟨_, _, _, _, _, _⟩) (v := ?_) rfl (by kernel_rfl) (by kernel_rfl) (by kernel_rfl) (fun _ _ _ h => h) (Or.inl ⟨by rfl, ?_⟩) (by assumption) ?_
    rotate_left
    · intro w' hSw; (try dsimp only at hSw); go_simp; (try with_reducible rfl)
    try simp only [Act.put, List.setIfInBounds_toArray, List.set_cons_zero, List.set_cons_succ]
    refine wpAnyH_ready (rs := [11]) (by kernel_rfl) (by simp) ?_
    refine AllReadyH.cons (o := ⟨_, _, _, _, _, _⟩) rfl (fun K9 hK9 => ?_) AllReadyH.nil
    go_simp
    refine hK9.out _ _ HSA.out (fun hHeld => ?_)
    clear hK9 K9
    try simp only [Act.put, List.setIfInBounds_toArray, List.set_cons_zero, List.set_cons_succ]
    refine wpAnyH_ready (rs := [12]) (by kernel_rfl) (by simp) ?_
    refine AllReadyH.cons (o := ⟨_, _, _, _, _, _⟩) rfl (fun K9 hK9 => ?_) AllReadyH.nil
    refine step_update rfl (.tmp 49) (.tmp 53) (.tmp 57) rfl rfl rfl rfl HR9.out ?_
    refine hK9.out _ _ HS9.out (fun hHeld => ?_)
    clear hK9 K9
    simp only [Act.put]
    refine wpAnyH_done (by kernel_rfl) ?_ _
    clear hHeld
    go_wp2_with fail
    go_ret2
    exact ⟨rfl, HE.out⟩
end
end Go.Proofs.Ytonflknnlfffhaa
