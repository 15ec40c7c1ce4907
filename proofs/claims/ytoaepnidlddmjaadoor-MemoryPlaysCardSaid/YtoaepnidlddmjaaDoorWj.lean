/- wm.Memory: Retract. -/
import Derived.Test.YtoaepnidlddmjaaDoorWi
namespace Go.Proofs.YtoaepnidlddmjaaDoor
open Go.RowKit Go.Lib KP MR RW
theorem step_delete {P : Program} {ops : Array Oper} {o : Oper} {a : Act} {K : Act → World → Prop} {Q : Exit → Act → World → Prop} {E : Prop} {w w' : World} {t kt : TypeId} {vx vy : Value} (hg : o.guard = none) (x y : Operand) (ho : o.op = .call { callee := .builtin .delete, args := #[x, y], argTypes := #[t, kt] }) (hx : a.eval x = vx) (hy : a.eval y = vy)
    (hr : (Builtin.delete_ #[t, kt] o.type #[vx, vy]).run P w = .ok (.tuple #[]) w') (h : K (a.put o.dst (.tuple #[])) w') : if Region.wanted o (yielded ops a.tmps) = true then Oper.wp P o a w K Q else E := by
  have hw : Region.wanted o (yielded ops a.tmps) = true := by simp [Region.wanted, hg]
  rw [if_pos hw]
  unfold Oper.wp
  simp [execOp, ho, resolve, invoke, builtin, hx, hy, hr, Result.andThen]
  exact h
theorem filter_erase {α β : Type} [DecidableEq β] (f : α → β) : ∀ (l : List α) (i : Nat) (h : i < l.length), (l.map f).Nodup → l.filter (fun x => decide (f x ≠ f l[i])) = l.eraseIdx i
  | [], _, h, _ => by simp at h
  | a :: l, 0, _, hn => by
    rw [List.map_cons, List.nodup_cons] at hn
    rw [List.filter_cons_of_neg (by simp), List.eraseIdx_cons_zero, List.filter_eq_self]
    intro x hx
    exact decide_eq_true (fun e => hn.1 (List.mem_map.2 ⟨x, hx, e⟩))
  | a :: l, i + 1, h, hn => by
    rw [List.map_cons, List.nodup_cons] at hn
    have hi : i < l.length := by simpa using h
    have h1 : f a ≠ f l[i] := fun e => hn.1 (List.mem_map.2 ⟨l[i], List.getElem_mem hi, e.symm⟩)
    rw [List.eraseIdx_cons_succ, ← filter_erase f l i hi hn.2, List.filter_cons_of_pos (by simpa using h1)]
    rfl
section
variable {B : Nat} {F : Nat → Prop} {g m gl n cap : Nat} {v : Value} {xs : List Fs} {nx : Int} {W W1 w7 : World} {T : List Ft} {w0 : World}
theorem Mem.idNodup (h : Mem B F g m v xs nx W) : (xs.map fun x : Fs => x.1.1).Nodup := by
  have := h.ris
  unfold Rise at this
  rw [List.pairwise_map] at this
  rw [List.Nodup, List.pairwise_map]
  exact this.imp (fun h => Int.ne_of_lt h)
theorem Mem.keyNodup (h : Mem B F g m v xs nx W) : (xs.map fun x : Fs => x.p.1).Nodup := by
  have := h.map.nodup
  rw [List.map_map] at this
  exact this
theorem Mem.del (h : Mem B F g m (.slice (some ⟨gl, 0, none⟩) n cap) xs nx W) (b1 : Below W.heap.size W W1) (i : Nat) (hi : i < xs.length) (k7 : Keep (fun k => k = g ∨ k = m ∨ k = gl) W1 w7) (blk7 : w7.heap[g]? = some (.cells #[.slice (some ⟨gl, 0, none⟩) (n - 1) cap, .map (some m), .int .i64 nx] 61 (0, 0)))
    (map7 : IsMap w7 m Value.string (Value.int .i64) ((xs.eraseIdx i).map Fs.p)) (own7 : OwnW w7 B 55 3 (.slice (some ⟨gl, 0, none⟩) (n - 1) cap) (n - 1) ((xs.eraseIdx i).flatMap fsc)) (hn : xs.length = n) :
    Mem B F g m (.slice (some ⟨gl, 0, none⟩) (n - 1) cap) (xs.eraseIdx i) nx w7 ∧ Keep F W w7 := by
  have hgl := h.Fv gl rfl
  have hs1 := b1.size
  have hs7 := k7.size
  have hmem : ∀ x ∈ xs.eraseIdx i, x ∈ xs := fun x hx => List.mem_of_mem_eraseIdx hx
  have hlen : (xs.eraseIdx i).length = n - 1 := by rw [List.length_eraseIdx_of_lt hi, hn]
  refine ⟨⟨blk7, map7, by rw [hlen]; exact own7, h.Fg, h.Fm, fun k hk => by injection hk with hk; subst hk; exact hgl, fun k hk => ⟨(h.lt k hk).1, by have := (h.lt k hk).2; omega⟩, ?_, fun x hx => h.ts x (hmem x hx), ?_, fun x hx => h.ids x (hmem x hx), h.nx1, h.nx2, by have := h.few; omega⟩, (Keep.of_below b1 F).trans k7 (fun k hk => .inl (by rcases hk with rfl | rfl | rfl; exact h.Fg; exact h.Fm; exact hgl))⟩
  · intro x hx
    have hv := h.vals x (hmem x hx)
    refine ⟨RowsAt.keep (F := fun k => k = g ∨ k = m ∨ k = gl) hv.row ((Keep.of_below b1 _).trans k7 (fun k hk => .inl hk)) ?_, hv.nil, hv.few, hv.ok⟩
    rintro k (rfl | rfl | rfl)
    · exact fun h => h.2.1 rfl
    · exact fun h => h.2.2.1 rfl
    · exact fun h => h.2.2.2 rfl
  · unfold Rise
    have := h.ris
    unfold Rise at this
    rw [List.pairwise_map] at this ⊢
    exact this.sublist (List.eraseIdx_sublist xs i)
end
def AtI' (T : List Ft) (y : Int) (w : World) (e : Ending) (w' : World) : Prop := e = .returned (.tuple #[.int .i64 (0 : Nat), .bool false]) ∨ AtI T y w e w'
set_option maxHeartbeats 1000000 in
theorem retract_no (id : Int) {B : Nat} {F : Nat → Prop} {g : Nat} {T : List Ft} {nx : Int} {w0 W : World} (h : Inv B w0 F g T nx W) (hno : ∀ t ∈ T, t.1 ≠ id) : Calls Tryd.prog 11 #[.pointer (some ⟨g, 0, none⟩), .int .i64 id] W fun e w' => e = .returned (.bool false) ∧ Below W.heap.size W w' := by
  have HA := Lib.hid (at_c id h)
  have HN := Lib.hid hno
  clear h hno
  go_enter Tryd.func11, Tryd.ntmps11
  go_wp2_with fail
  refine HA.out.mono ?_
  rintro e w1 ⟨i, b, rfl, hb, b1⟩
  cases b with
  | true =>
    obtain ⟨hi, hy⟩ := hb.1 rfl
    exact absurd hy (HN.out _ (List.getElem_mem hi))
  | false =>
    have E1 := Lib.hid b1
    clear hb b1
    go_wp2_with fail
    go_ret
    exact ⟨rfl, E1.out⟩
set_option maxRecDepth 100000 in
set_option maxHeartbeats 4000000 in
theorem retract_yes (id : Int) {B : Nat} {F : Nat → Prop} {g : Nat} {T : List Ft} {nx : Int} {w0 W : World} (h : Inv B w0 F g T nx W) (hyes : ∃ t ∈ T, t.1 = id) (htab : Tab W) : Calls Tryd.prog 11 #[.pointer (some ⟨g, 0, none⟩), .int .i64 id] W fun e w' => e = .returned (.bool true) ∧ (Inv B w0 F g (T.filter fun t => decide (t.1 ≠ id)) nx w' ∧ Keep F W w') := by
  have HA0 := Lib.hid (at_c id h)
  have HY := Lib.hid hyes
  have HI := Lib.hid h
  have HT := Lib.hid (fun w' (hb : Below W.heap.size W w') => htab.b hb)
  clear h hyes htab
  go_enter Tryd.func11, Tryd.ntmps11
  go_wp2_with fail
  refine HA0.out.mono ?_
  rintro e w1 ⟨i, b, rfl, hb, b1⟩
  cases b with
  | false =>
    obtain ⟨t, ht, hy⟩ := HY.out
    exact absurd hy (hb.2 rfl t ht)
  | true =>
    obtain ⟨m, v, xs, e, hm, h0⟩ := HI.out
    obtain ⟨hi, hy⟩ := hb.1 rfl
    have hix : i < xs.length := by rw [← e, List.length_map] at hi; exact hi
    have hyx : xs[i].1.1 = id := by subst e; simpa using hy
    rcases hm.own.2 with ⟨_, h2⟩ | ⟨gl, cap, cur, rfl, hBl, hgl, hnc, hcm, _, htk⟩
    · omega
    have hrow := rows_own (N := fun _ => False) fsc_len hgl htk (fun h => h)
    obtain ⟨ad, ead, _, hcx⟩ := hrow i hix
    obtain rfl := Option.some.inj ead
    have hc1 := hcx 1 _ rfl
    have hc2 := hcx 2 _ rfl
    rw [addr_flat] at hc1 hc2
    have hvx := hm.vals xs[i] (List.getElem_mem hix)
    have htx := hm.ts xs[i] (List.getElem_mem hix)
    have hdel : del (xs.map Fs.p) (keyB xs[i].1.2.1 xs[i].1.2.2) = (xs.eraseIdx i).map Fs.p := by
      unfold del
      rw [List.filter_map, ← filter_erase (fun x : Fs => x.p.1) xs i hix hm.keyNodup]
      rfl
    have HFT := Lib.hid (show (xs.eraseIdx i).map (·.1) = T.filter fun t => decide (t.1 ≠ id) by
      rw [← e, List.filter_map, ← hyx]
      have := filter_erase (fun x : Fs => x.1.1) xs i hix hm.idNodup
      rw [← this]
      rfl)
    generalize hx : xs[i] = x at *
    obtain ⟨⟨x1, t, l⟩, xA, xc⟩ := x
    dsimp only at hc1 hc2 hvx htx hdel hyx
    have hn1 := hm.few
    clear hx hcx
    generalize hnn : xs.length = n at *
    have ht := htx
    have HA := Lib.hid (fun w' (hb : Below W.heap.size W w') => (hvx.mono (M := fun _ => False) (fun _ h => h.elim)).below hb)
    have HS : Hid (∀ w', Below W.heap.size W w' → (w'.cell? ⟨g, 0, none⟩ = some (.slice (some ⟨gl, 0, none⟩) n cap) ∧ w'.cell? ⟨g, 1, none⟩ = some (.map (some m)) ∧ w'.cell? ⟨gl, i * 3 + 1, none⟩ = some (.string t) ∧ w'.cell? ⟨gl, i * 3 + 2, none⟩ = some (.slice xA l.length xc))) :=
      Lib.hid (fun w' hb => ⟨block_cell (hm.grow hb).blk rfl, block_cell (hm.grow hb).blk rfl, (hb.cell (p := ⟨gl, i * 3 + 1, none⟩) (World.block_lt_of_cell? _ _ hc1)).trans hc1, (hb.cell (p := ⟨gl, i * 3 + 2, none⟩) (World.block_lt_of_cell? _ _ hc2)).trans hc2⟩)
    have hglF := hm.Fv gl rfl
    have hgg : gl ≠ g := fun e => hm.vg (by rw [← e]; rfl)
    have hgmm : gl ≠ m := fun e => hm.vm (by rw [← e]; rfl)
    have DEL : Hid (∀ w2, Below W.heap.size W w2 → ∃ w3, (Builtin.delete_ #[59, 9] 0 #[.map (some m), .string (keyB t l)]).run Tryd.prog w2 = .ok (.tuple #[]) w3 ∧ ((w3.cell? ⟨g, 0, none⟩ = some (.slice (some ⟨gl, 0, none⟩) n cap) ∧ w3.cell? ⟨g, 1, none⟩ = some (.map (some m)) ∧ w3.cell? ⟨gl, i * 3 + 1, none⟩ = some (.string t) ∧ w3.cell? ⟨gl, i * 3 + 2, none⟩ = some (.slice xA l.length xc)) ∧
        w3.frozen? ⟨g, 0, none⟩ = false ∧ OwnW w3 B 55 3 (.slice (some ⟨gl, 0, none⟩) n cap) n (xs.flatMap fsc) ∧ ∀ w4, OwnW w4 B 55 3 (.slice (some ⟨gl, 0, none⟩) (n - 1) cap) (n - 1) ((xs.eraseIdx i).flatMap fsc) → Keep (fun j => j = gl) w3 w4 → (w4.cell? ⟨g, 0, none⟩ = some (.slice (some ⟨gl, 0, none⟩) n cap) ∧ w4.frozen? ⟨g, 0, none⟩ = false) ∧
          Inv B w0 F g (T.filter fun t => decide (t.1 ≠ id)) nx (w4.setCell ⟨g, 0, none⟩ (.slice (some ⟨gl, 0, none⟩) (n - 1) cap)) ∧ Keep F W (w4.setCell ⟨g, 0, none⟩ (.slice (some ⟨gl, 0, none⟩) (n - 1) cap)))) := Lib.hid (fun w2 hb2 => by
      have hm2 := hm.grow hb2
      obtain ⟨w3, hrun, r1, r2, r3⟩ := hm2.map.delete (P := Tryd.prog) inj_str key_str Tryd.underlying59 Tryd.underlying9 (keyB t l) 0 9
      rw [hdel] at r1
      have k3 : Keep (fun k => k = m) w2 w3 := (Keep.refl _ w2).grown r2 (fun k hk => .inl (by injection hk with hk; exact hk.symm))
      have hgm := hm.gm
      have g3 := (k3.block g (hm2.lt g hm2.Fg).2 hgm).trans hm2.blk
      have cc := (HS.out w2 hb2)
      refine ⟨w3, hrun, ⟨block_cell g3 rfl, block_cell g3 rfl, k3.cell cc.2.2.1 hgmm, k3.cell cc.2.2.2 hgmm⟩, block_free g3, ?_, fun w4 ho4 k4 => ?_⟩
      · have := hm2.own.keep k3 (fun k hk hf => hm2.vm (by rw [← hf]; exact hk))
        rwa [hnn] at this
      · have g4 := (k4.block g (Array.getElem?_eq_some_iff.1 g3).1 (fun e => hgg e.symm)).trans g3
        have g7 : (w4.setCell ⟨g, 0, none⟩ (.slice (some ⟨gl, 0, none⟩) (n - 1) cap)).heap[g]? = some (.cells #[.slice (some ⟨gl, 0, none⟩) (n - 1) cap, .map (some m), .int .i64 nx] 61 (0, 0)) := by have := block_set g4 (j := 0) (.slice (some ⟨gl, 0, none⟩) (n - 1) cap); simpa using this
        have k7 : Keep (fun k => k = g ∨ k = m ∨ k = gl) w2 (w4.setCell ⟨g, 0, none⟩ (.slice (some ⟨gl, 0, none⟩) (n - 1) cap)) :=
          ((k3.mono (fun k hk => .inr (.inl hk))).trans k4 (fun k hk => .inl (.inr (.inr hk)))).setCell (.inl (.inl rfl)) _
        have m7 : IsMap (w4.setCell ⟨g, 0, none⟩ (.slice (some ⟨gl, 0, none⟩) (n - 1) cap)) m Value.string (Value.int .i64) ((xs.eraseIdx i).map Fs.p) := r1.move ((Below.heap_setCell w4 ⟨g, 0, none⟩ _ m (by show m ≠ g; omega)).trans (k4.block m r1.lt (fun e => hgmm e.symm)))
        have o7 := ho4.keep (w1 := w4.setCell ⟨g, 0, none⟩ (.slice (some ⟨gl, 0, none⟩) (n - 1) cap)) (F := fun k => k = g) ((Keep.refl (fun k => k = g) w4).setCell (p := ⟨g, 0, none⟩) (.inl rfl) _) (fun k hk hf => hgg (by injection hk with hk; exact hk.trans hf))
        obtain ⟨hM, hK⟩ := hm.del hb2 i (by omega) k7 g7 m7 o7 hnn
        refine ⟨⟨block_cell g4 rfl, block_free g4⟩, ⟨m, _, xs.eraseIdx i, HFT.out, hM, h0.trans (hK.below (by have := hm.lt g hm.Fg; omega) (fun k hk => (hm.lt k hk).1))⟩, hK⟩)
    have hiI : (i : Int) < (n : Int) := by omega
    have hnI : (n : Int) ≤ 1000 := by omega
    have E1 := Lib.hid b1
    have D1 : Hid (Below W.heap.size W w1.drew) := Lib.hid b1.drew
    have h00 := HS.out _ E1.out
    clear hm h0 e hc1 hc2 hvx htx hdel hrow hgl htk hb b1 hy hglF hgg hgmm hyx hBl hcm hi
    go_wp2_with fail
    refine wp_region_held_drew (S := (fun w' => w'.cell? ⟨g, 0, none⟩ = some (.slice (some ⟨gl, 0, none⟩) n cap) ∧ w'.cell? ⟨g, 1, none⟩ = some (.map (some m)) ∧ w'.cell? ⟨gl, i * 3 + 1, none⟩ = some (.string t) ∧ w'.cell? ⟨gl, i * 3 + 2, none⟩ = some (.slice xA l.length xc))) (by kernel_rfl) (HS.out _ D1.out) (fun hHeld => ?_)
    refine wpAnyH_take (i := 0) (oi := ⟨_, _, _, _, _, _⟩) (v := ?_) rfl (by kernel_rfl) (by kernel_rfl) (by kernel_rfl) (fun _ _ _ h => h) (Or.inl ⟨by rfl, ?_⟩) (by assumption) ?_
    rotate_left
    · intro w' hSw; (try dsimp only at hSw); go_simp; (try with_reducible rfl)
    try simp only [Act.put, List.setIfInBounds_toArray, List.set_cons_zero, List.set_cons_succ]
    refine wpAnyH_take (i := 1) (oi := ⟨_, _, _, _, _, _⟩) (v := ?_) rfl (by kernel_rfl) (by kernel_rfl) (by kernel_rfl) (fun _ _ _ h => h) (Or.inl ⟨by rfl, ?_⟩) (by assumption) ?_
    rotate_left
    · intro w' hSw; (try dsimp only at hSw); go_simp; (try with_reducible rfl)
    try simp only [Act.put, List.setIfInBounds_toArray, List.set_cons_zero, List.set_cons_succ]
    refine wpAnyH_take (i := 2) (oi := ⟨_, _, _, _, _, _⟩) (v := ?_) rfl (by kernel_rfl) (by kernel_rfl) (by kernel_rfl) (fun _ _ _ h => h) (Or.inl ⟨by rfl, ?_⟩) (by assumption) ?_
    rotate_left
    · intro w' hSw; (try dsimp only at hSw); go_simp; (try with_reducible rfl)
    try simp only [Act.put, List.setIfInBounds_toArray, List.set_cons_zero, List.set_cons_succ]
    refine wpAnyH_take (i := 3) (oi := ⟨_, _, _, _, _, _⟩) (v := ?_) rfl (by kernel_rfl) (by kernel_rfl) (by kernel_rfl) (fun _ _ _ h => h) (Or.inl ⟨by rfl, ?_⟩) (by assumption) ?_
    rotate_left
    · intro w' hSw; (try dsimp only at hSw); go_simp; (try with_reducible rfl)
    try simp only [Act.put, List.setIfInBounds_toArray, List.set_cons_zero, List.set_cons_succ]
    refine wpAnyH_take (i := 4) (oi := ⟨_, _, _, _, _, _⟩) (v := ?_) rfl (by kernel_rfl) (by kernel_rfl) (by kernel_rfl) (fun _ _ _ h => h) (Or.inl ⟨by rfl, ?_⟩) (by assumption) ?_
    rotate_left
    · intro w' hSw; (try dsimp only at hSw); go_simp; (try with_reducible rfl)
    try simp only [Act.put, List.setIfInBounds_toArray, List.set_cons_zero, List.set_cons_succ]
    refine wpAnyH_take (i := 5) (oi := ⟨_, _, _, _, _, _⟩) (v := ?_) rfl (by kernel_rfl) (by kernel_rfl) (by kernel_rfl) (fun _ _ _ h => h) (Or.inl ⟨by rfl, ?_⟩) (by assumption) ?_
    rotate_left
    · intro w' hSw; (try dsimp only at hSw); go_simp; (try with_reducible rfl)
    try simp only [Act.put, List.setIfInBounds_toArray, List.set_cons_zero, List.set_cons_succ]
    refine wpAnyH_take (i := 6) (oi := ⟨_, _, _, _, _, _⟩) (v := ?_) rfl (by kernel_rfl) (by kernel_rfl) (by kernel_rfl) (fun _ _ _ h => h) (Or.inl ⟨by rfl, ?_⟩) (by assumption) ?_
    rotate_left
    · intro w' hSw; (try dsimp only at hSw); go_simp; (try with_reducible rfl)
    try simp only [Act.put, List.setIfInBounds_toArray, List.set_cons_zero, List.set_cons_succ]
    refine wpAnyH_take (i := 7) (oi := ⟨_, _, _, _, _, _⟩) (v := ?_) rfl (by kernel_rfl) (by kernel_rfl) (by kernel_rfl) (fun _ _ _ h => h) (Or.inl ⟨by rfl, ?_⟩) (by assumption) ?_
    rotate_left
    · intro w' hSw; (try dsimp only at hSw); go_simp; (try with_reducible rfl)
    try simp only [Act.put, List.setIfInBounds_toArray, List.set_cons_zero, List.set_cons_succ]
    refine wpAnyH_take (i := 8) (oi := ⟨_, _, _, _, _, _⟩) (v := ?_) rfl (by kernel_rfl) (by kernel_rfl) (by kernel_rfl) (fun _ _ _ h => h) (Or.inl ⟨by rfl, ?_⟩) (by assumption) ?_
    rotate_left
    · intro w' hSw; (try dsimp only at hSw); go_simp; (try with_reducible rfl)
    try simp only [Act.put, List.setIfInBounds_toArray, List.set_cons_zero, List.set_cons_succ]
    refine wpAnyH_take (i := 9) (oi := ⟨_, _, _, _, _, _⟩) (v := ?_) rfl (by kernel_rfl) (by kernel_rfl) (by kernel_rfl) (fun _ _ _ h => h) (Or.inl ⟨by rfl, ?_⟩) (by assumption) ?_
    rotate_left
    · intro w' hSw; (try dsimp only at hSw); go_simp; (try with_reducible rfl)
    try simp only [Act.put, List.setIfInBounds_toArray, List.set_cons_zero, List.set_cons_succ]
    refine wpAnyH_take (i := 10) (oi := ⟨_, _, _, _, _, _⟩) (v := ?_) rfl (by kernel_rfl) (by kernel_rfl) (by kernel_rfl) (fun _ _ _ h => h) (Or.inl ⟨by rfl, ?_⟩) (by assumption) ?_
    rotate_left
    · intro w' hSw; (try dsimp only at hSw); go_simp; (try with_reducible rfl)
    try simp only [Act.put, List.setIfInBounds_toArray, List.set_cons_zero, List.set_cons_succ]
    refine wpAnyH_take (i := 11) (oi := ⟨_, _, _, _, _, _⟩) (v := ?_) rfl (by kernel_rfl) (by kernel_rfl) (by kernel_rfl) (fun _ _ _ h => h) (Or.inl ⟨by rfl, ?_⟩) (by assumption) ?_
    rotate_left
    · intro w' hSw; (try dsimp only at hSw); go_simp; (try with_reducible rfl)
    try simp only [Act.put, List.setIfInBounds_toArray, List.set_cons_zero, List.set_cons_succ]
    refine wpAnyH_take (i := 12) (oi := ⟨_, _, _, _, _, _⟩) (v := ?_) rfl (by kernel_rfl) (by kernel_rfl) (by kernel_rfl) (fun _ _ _ h => h) (Or.inl ⟨by rfl, ?_⟩) (by assumption) ?_
    rotate_left
    · intro w' hSw; (try dsimp only at hSw); go_simp; (try with_reducible rfl)
    try simp only [Act.put, List.setIfInBounds_toArray, List.set_cons_zero, List.set_cons_succ]
    refine wpAnyH_take (i := 13) (oi := ⟨_, _, _, _, _, _⟩) (v := ?_) rfl (by kernel_rfl) (by kernel_rfl) (by kernel_rfl) (fun _ _ _ h => h) (Or.inl ⟨by rfl, ?_⟩) (by assumption) ?_
    rotate_left
    · intro w' hSw; (try dsimp only at hSw); go_simp; (try with_reducible rfl)
    try simp only [Act.put, List.setIfInBounds_toArray, List.set_cons_zero, List.set_cons_succ]
    refine wpAnyH_take (i := 14) (oi := ⟨_, _, _, _, _, _⟩) (v := ?_) rfl (by kernel_rfl) (by kernel_rfl) (by kernel_rfl) (fun _ _ _ h => h) (Or.inl ⟨by rfl, ?_⟩) (by assumption) ?_
    rotate_left
    · intro w' hSw; (try dsimp only at hSw); go_simp; (try with_reducible rfl)
    try simp only [Act.put, List.setIfInBounds_toArray, List.set_cons_zero, List.set_cons_succ]
    refine wpAnyH_take (i := 15) (oi := ⟨_, _, _, _, _, _⟩) (v := ?_) rfl (by kernel_rfl) (by kernel_rfl) (by kernel_rfl) (fun _ _ _ h => h) (Or.inl ⟨by rfl, ?_⟩) (by assumption) ?_
    rotate_left
    · intro w' hSw; (try dsimp only at hSw); go_simp; (try with_reducible rfl)
    try simp only [Act.put, List.setIfInBounds_toArray, List.set_cons_zero, List.set_cons_succ]
    refine wpAnyH_take (i := 16) (oi := ⟨_, _, _, _, _, _⟩) (v := ?_) rfl (by kernel_rfl) (by kernel_rfl) (by kernel_rfl) (fun _ _ _ h => h) (Or.inl ⟨by rfl, ?_⟩) (by assumption) ?_
    rotate_left
    · intro w' hSw; (try dsimp only at hSw); go_simp; (try with_reducible rfl)
    try simp only [Act.put, List.setIfInBounds_toArray, List.set_cons_zero, List.set_cons_succ]
    refine wpAnyH_take (i := 17) (oi := ⟨_, _, _, _, _, _⟩) (v := ?_) rfl (by kernel_rfl) (by kernel_rfl) (by kernel_rfl) (fun _ _ _ h => h) (Or.inl ⟨by rfl, ?_⟩) (by assumption) ?_
    rotate_left
    · intro w' hSw; (try dsimp only at hSw); go_simp; (try with_reducible rfl)
    try simp only [Act.put, List.setIfInBounds_toArray, List.set_cons_zero, List.set_cons_succ]
    refine wpAnyH_take (i := 18) (oi := ⟨_, _, _, _, _, _⟩) (v := ?_) rfl (by kernel_rfl) (by kernel_rfl) (by kernel_rfl) (fun _ _ _ h => h) (Or.inl ⟨by rfl, ?_⟩) (by assumption) ?_
    rotate_left
    · intro w' hSw; (try dsimp only at hSw); go_simp; (try with_reducible rfl)
    try simp only [Act.put, List.setIfInBounds_toArray, List.set_cons_zero, List.set_cons_succ]
    refine wpAnyH_take (i := 19) (oi := ⟨_, _, _, _, _, _⟩) (v := ?_) rfl (by kernel_rfl) (by kernel_rfl) (by kernel_rfl) (fun _ _ _ h => h) (Or.inl ⟨by rfl, ?_⟩) (by assumption) ?_
    rotate_left
    · intro w' hSw; (try dsimp only at hSw); go_simp; (try with_reducible rfl)
    try simp only [Act.put, List.setIfInBounds_toArray, List.set_cons_zero, List.set_cons_succ]
    refine wpAnyH_ready (rs := [20]) (by kernel_rfl) (by simp) ?_
    refine AllReadyH.cons (o := ⟨_, _, _, _, _, _⟩) rfl (fun K9 hK9 => ?_) AllReadyH.nil
    go_simp
    (with_reducible refine (key_c t ht xA xc l _ (HA.out _ D1.out) (HT.out _ D1.out)).mono ?_)
    rintro e w2 ⟨rfl, b2⟩
    have E2 := Lib.hid (D1.out.trans (b2.mono D1.out.size))
    clear b2
    obtain ⟨w3, hrun3, hf3⟩ := DEL.out _ E2.out
    have HD := Lib.hid hrun3
    have HF3 := Lib.hid hf3
    clear hrun3 hf3
    go_wp2_with fail
    refine hK9.out _ _ (HS.out _ E2.out) (fun hHeld => ?_)
    clear hK9 K9
    try simp only [Act.put, List.setIfInBounds_toArray, List.set_cons_zero, List.set_cons_succ]
    refine wpAnyH_ready (rs := [21]) (by kernel_rfl) (by simp) ?_
    refine AllReadyH.cons (o := ⟨_, _, _, _, _, _⟩) rfl (fun K9 hK9 => ?_) AllReadyH.nil
    refine step_delete rfl (.tmp 18) (.tmp 35) rfl rfl rfl HD.out ?_
    refine hK9.out _ _ HF3.out.1 (fun hHeld => ?_)
    clear hK9 K9
    simp only [Act.put]
    refine wpAnyH_done (by kernel_rfl) ?_ _
    obtain ⟨q0, q1, q2, q3⟩ := HF3.out.1
    have q4 := HF3.out.2.1
    clear hHeld h00
    go_wp2_with fail
    refine (delete_c B gl cap n i xs w3 HF3.out.2.2.1 (by omega) (by omega)).mono ?_
    rintro e w4 ⟨rfl, ho4, hk4⟩
    obtain ⟨⟨q5, q6⟩, q7, q8⟩ := HF3.out.2.2.2 w4 ho4 hk4
    have Q7 := Lib.hid q7
    have Q8 := Lib.hid q8
    clear q0 q1 q2 q3 q4 ho4 hk4 q7 q8
    go_wp2_with fail
    go_ret
    exact ⟨rfl, Q7.out, Q8.out⟩
end Go.Proofs.YtoaepnidlddmjaaDoor
