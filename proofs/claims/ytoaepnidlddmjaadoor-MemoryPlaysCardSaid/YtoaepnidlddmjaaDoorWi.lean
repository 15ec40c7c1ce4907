/- wm.Memory: Assert. -/
import Derived.Test.YtoaepnidlddmjaaDoorWh
namespace Go.Proofs.YtoaepnidlddmjaaDoor
open Go.RowKit Go.Lib KP MR RW
theorem step_update {P : Program} {ops : Array Oper} {o : Oper} {a : Act} {K : Act → World → Prop} {Q : Exit → Act → World → Prop} {E : Prop} {w w' : World} {mty : TypeId} {vx vy vz : Value} (hg : o.guard = none) (x y z : Operand) (ho : o.op = .mapUpdate mty x y z) (hx : a.eval x = vx) (hy : a.eval y = vy) (hz : a.eval z = vz)
    (hr : (Instr.mapUpdate mty vx vy vz).run P w = .ok () w') (h : K (a.put o.dst undef) w') : if Region.wanted o (yielded ops a.tmps) = true then Oper.wp P o a w K Q else E := by
  have hw : Region.wanted o (yielded ops a.tmps) = true := by simp [Region.wanted, hg]
  rw [if_pos hw]
  unfold Oper.wp
  simp [execOp, ho, hx, hy, hz, hr, Result.andThen]
  exact h
set_option maxHeartbeats 1000000 in
theorem assert_old {B : Nat} {F : Nat → Prop} {g : Nat} {T : List Ft} {nx : Int} {w0 W : World} (t : ByteArray) (ht : t.size ≤ 100000) (A : Option Addr) (c : Nat) (l : List Vl) (id : Int) (hf : findO T t l = some id) (hI : Inv B w0 F g T nx W) (ha : ArgV (fun _ => False) W A c l) (htab : Tab W) :
    Calls Tryd.prog 9 #[.pointer (some ⟨g, 0, none⟩), .string t, .slice A l.length c] W fun e w' => e = .returned (.tuple #[.int .i64 id, .bool false, .int .i64 0]) ∧ Below W.heap.size W w' := by
  obtain ⟨m, v, xs, e, hm, h0⟩ := hI
  have HC := Lib.hid (fun w' (hb : Below W.heap.size W w') => (⟨block_cell (j := 1) (hm.grow hb).blk rfl, by have := hm.look hb t l; rw [e, hf] at this; exact this⟩ : w'.cell? ⟨g, 1, none⟩ = some (.map (some m)) ∧ (Instr.lookup 59 (.map (some m)) (.string (keyB t l)) true).run Tryd.prog w' = .ok (.tuple #[.int .i64 id, .bool true]) w'))
  have HK := Lib.hid (key_c t ht A c l W ha htab)
  clear hm h0 e ha htab hf
  go_enter Tryd.func9, Tryd.ntmps9
  go_wp2_with fail
  refine HK.out.mono ?_
  rintro e w1 ⟨rfl, b1⟩
  have E1 := Lib.hid b1
  clear b1
  obtain ⟨c1, hlook⟩ := HC.out _ E1.out
  go_wp2_with fail
  go_ret3
  exact ⟨rfl, E1.out⟩
set_option maxHeartbeats 1000000 in
theorem assert_full {B : Nat} {F : Nat → Prop} {g : Nat} {T : List Ft} {nx : Int} {w0 W : World} (t : ByteArray) (ht : t.size ≤ 100000) (A : Option Addr) (c : Nat) (l : List Vl) (hf : findO T t l = none) (hn : 1000 ≤ T.length) (hI : Inv B w0 F g T nx W) (ha : ArgV (fun _ => False) W A c l) (htab : Tab W) :
    Calls Tryd.prog 9 #[.pointer (some ⟨g, 0, none⟩), .string t, .slice A l.length c] W fun e w' => e = .returned (.tuple #[.int .i64 0, .bool false, .int .i64 10]) ∧ Below W.heap.size W w' := by
  obtain ⟨m, v, xs, e, hm, h0⟩ := hI
  obtain ⟨A0, c0, rfl, _, _, _⟩ := hm.rows
  have HC := Lib.hid (fun w' (hb : Below W.heap.size W w') => (⟨block_cell (j := 0) (hm.grow hb).blk rfl, block_cell (j := 1) (hm.grow hb).blk rfl, by have := hm.look hb t l; rw [e, hf] at this; exact this⟩ : w'.cell? ⟨g, 0, none⟩ = some (.slice A0 xs.length c0) ∧ w'.cell? ⟨g, 1, none⟩ = some (.map (some m)) ∧ (Instr.lookup 59 (.map (some m)) (.string (keyB t l)) true).run Tryd.prog w' = .ok (.tuple #[.int .i64 0, .bool false]) w'))
  have HK := Lib.hid (key_c t ht A c l W ha htab)
  have hlI : 1000 ≤ (xs.length : Int) := by rw [← e, List.length_map] at hn; omega
  clear hm h0 e ha htab hf hn
  go_enter Tryd.func9, Tryd.ntmps9
  go_wp2_with fail
  refine HK.out.mono ?_
  rintro e w1 ⟨rfl, b1⟩
  have E1 := Lib.hid b1
  clear b1
  obtain ⟨c1, c2, hlook⟩ := HC.out _ E1.out
  go_wp2_with fail
  go_ret3
  exact ⟨rfl, E1.out⟩
section
variable {B : Nat} {F : Nat → Prop} {g m : Nat} {v v4 : Value} {xs : List Fs} {nx : Int} {W w3 w4 w7 : World} {T : List Ft} {w0 : World}
/-- One more fact. -/
theorem Mem.add (h : Mem B F g m v xs nx W) (b3 : Below W.heap.size W w3) (k4 : Keep (fun k => v.ownBlock = some k) w3 w4) (x : Fs) (own4 : OwnW w4 B 55 3 v4 (xs ++ [x]).length ((xs ++ [x]).flatMap fsc)) (hv4 : v4.ownBlock = v.ownBlock ∨ ∀ k, v4.ownBlock = some k → w3.heap.size ≤ k)
    (k7 : Keep (fun k => k = g ∨ k = m) w4 w7) (blk7 : w7.heap[g]? = some (.cells #[v4, .map (some m), .int .i64 (nx + 1)] 61 (0, 0))) (map7 : IsMap w7 m Value.string (Value.int .i64) ((xs ++ [x]).map Fs.p))
    (hx : ArgV (fun k => k < W.heap.size ∨ w3.heap.size ≤ k) w3 x.2.1 x.2.2 x.1.2.2) (hx1 : x.1.1 = nx) (hx2 : x.1.2.1.size ≤ 100000) (hn : xs.length < 1000) (hnx : nx < 1000000000) :
    Mem B (fun k => F k ∨ (W.heap.size ≤ k ∧ k < w7.heap.size)) g m v4 (xs ++ [x]) (nx + 1) w7 ∧ Keep F W w7 ∧ W.heap.size ≤ w7.heap.size := by
  have s3 := b3.size
  have s4 := k4.size
  have s7 := k7.size
  have hB : B ≤ W.heap.size := by have := h.lt g h.Fg; omega
  have hgl := (h.lt g h.Fg).2
  have hml := (h.lt m h.Fm).2
  have hvl : ∀ k, v.ownBlock = some k → F k ∧ k < W.heap.size := fun k hk => ⟨h.Fv k hk, (h.lt k (h.Fv k hk)).2⟩
  have hv7 : ∀ k, v4.ownBlock = some k → F k ∨ (W.heap.size ≤ k ∧ k < w7.heap.size) := by
    intro k hk
    rcases hv4 with e | e
    · exact .inl (h.Fv k (by rw [← e]; exact hk))
    · exact .inr ⟨Nat.le_trans s3 (e k hk), Nat.lt_of_lt_of_le (own4.lt hk).2 s7⟩
  have hv4g : v4.ownBlock ≠ some g := by
    rcases hv4 with e | e
    · rw [e]; exact h.vg
    · intro hk; have := e g hk; omega
  have hv4m : v4.ownBlock ≠ some m := by
    rcases hv4 with e | e
    · rw [e]; exact h.vm
    · intro hk; have := e m hk; omega
  have K47 : Keep F W w7 := ((Keep.of_below b3 F).trans k4 (fun k hk => .inl (h.Fv k hk))).trans k7 (fun k hk => .inl (by rcases hk with rfl | rfl; exact h.Fg; exact h.Fm))
  refine ⟨⟨blk7, map7, ?_, .inl h.Fg, .inl h.Fm, hv7, ?_, ?_, ?_, ?_, ?_, ?_, ?_, ?_⟩, K47, by omega⟩
  · exact own4.keep k7 (fun k hk hf => by rcases hf with rfl | rfl; exact hv4g hk; exact hv4m hk)
  · rintro k (hk | hk)
    · have := h.lt k hk; exact ⟨this.1, by omega⟩
    · exact ⟨by omega, hk.2⟩
  · intro y hy
    rcases List.mem_append.1 hy with hy | hy
    · have hv := h.vals y hy
      refine ⟨(RowsAt.keep (F := fun k => v.ownBlock = some k ∨ k = g ∨ k = m ∨ W.heap.size ≤ k) (hv.row.old v3_len (by decide)) ?_ ?_).mono ?_, hv.nil, hv.few, hv.ok⟩
      · refine (Keep.of_below b3 _).trans ((k4.mono (fun k hk => .inl hk)).trans k7 (fun k hk => .inl (by rcases hk with rfl | rfl; exact .inr (.inl rfl); exact .inr (.inr (.inl rfl))))) (fun k hk => .inl hk)
      · rintro k (hk | rfl | rfl | hk)
        · exact .inl (fun h => h.2.2.2 hk)
        · exact .inl (fun h => h.2.1 rfl)
        · exact .inl (fun h => h.2.2.1 rfl)
        · exact .inr hk
      · intro k hk
        by_cases hk2 : W.heap.size ≤ k
        · exact .inr hk2
        · refine .inl (fun h3 => hk ⟨.inl h3.1, h3.2.1, h3.2.2.1, ?_⟩)
          rcases hv4 with e | e
          · rw [e]; exact h3.2.2.2
          · intro h4; have := e k h4; omega
    · obtain rfl := List.mem_singleton.1 hy
      refine ⟨(RowsAt.keep (F := fun k => v.ownBlock = some k ∨ k = g ∨ k = m) hx.row ?_ ?_).mono ?_, hx.nil, hx.few, hx.ok⟩
      · exact (k4.mono (fun k hk => .inl hk)).trans k7 (fun k hk => .inl (by rcases hk with rfl | rfl; exact .inr (.inl rfl); exact .inr (.inr rfl)))
      · rintro k (hk | rfl | rfl)
        · exact .inl (hvl k hk).2
        · exact .inl hgl
        · exact .inl hml
      · intro k hk
        by_cases h1 : k < W.heap.size
        · exact .inl h1
        · by_cases h2 : w3.heap.size ≤ k
          · exact .inr h2
          · exfalso
            refine hk ⟨.inr ⟨by omega, by omega⟩, by omega, by omega, ?_⟩
            rcases hv4 with e | e
            · rw [e]; intro h4; have := (hvl k h4).2; omega
            · intro h4; have := e k h4; omega
  · intro y hy
    rcases List.mem_append.1 hy with hy | hy
    · exact h.ts y hy
    · obtain rfl := List.mem_singleton.1 hy; exact hx2
  · unfold Rise
    rw [List.map_append, List.pairwise_append]
    refine ⟨h.ris, by simp, ?_⟩
    intro a ha b hb
    obtain ⟨y, hy, rfl⟩ := List.mem_map.1 ha
    have hb' : b = fsx x := by simpa using hb
    subst hb'
    have := (h.ids y hy).2
    show y.1.1 < x.1.1
    omega
  · intro y hy
    rcases List.mem_append.1 hy with hy | hy
    · have := h.ids y hy; exact ⟨this.1, by omega⟩
    · obtain rfl := List.mem_singleton.1 hy
      have := h.nx1
      exact ⟨by omega, by omega⟩
  · have := h.nx1; omega
  · omega
  · rw [List.length_append]; simp; omega
end
theorem put_find {xs : List Fs} {x : Fs} (hf : findO (xs.map (·.1)) x.1.2.1 x.1.2.2 = none) : put (xs.map Fs.p) (keyB x.1.2.1 x.1.2.2) x.1.1 = (xs ++ [x]).map Fs.p := by
  rw [put_none (by rw [lk_find]; exact hf), List.map_append]
  rfl
theorem add_tail {B : Nat} {F : Nat → Prop} {g m : Nat} {v v4 : Value} {xs : List Fs} {nx : Int} {W w3 w4 : World} (h : Mem B F g m v xs nx W) (b3 : Below W.heap.size W w3) (x : Fs) (fb : Nat) (o : Obj) (F3 : w3.heap[fb]? = some (.cells (fsc x).toArray 55 (0, 0))) (hfb : W.heap.size ≤ fb)
    (hg4 : (w3.drew.alloc o).grownBy w4 v.ownBlock) (own4 : OwnW w4 B 55 3 v4 (xs.length + 1) ((xs ++ [x]).flatMap fsc)) (hv4 : v4.ownBlock = v.ownBlock ∨ ∀ k, v4.ownBlock = some k → (w3.drew.alloc o).heap.size ≤ k)
    (g4 : w4.heap[g]? = some (.cells #[v, .map (some m), .int .i64 nx] 61 (0, 0))) (hx : ArgV (fun k => k < W.heap.size ∨ w3.heap.size ≤ k) w3 x.2.1 x.2.2 x.1.2.2) (hx1 : x.1.1 = nx) (hx2 : x.1.2.1.size ≤ 100000) (hn : xs.length < 1000) (hnx : nx < 1000000000) (hf : findO (xs.map (·.1)) x.1.2.1 x.1.2.2 = none) :
    (w4.setCell ⟨g, 0, none⟩ v4).cell? ⟨g, 1, none⟩ = some (.map (some m)) ∧ (w4.setCell ⟨g, 0, none⟩ v4).cell? ⟨fb, 0, none⟩ = some (.int .i64 nx) ∧ ∃ w6, (Instr.mapUpdate 59 (.map (some m)) (.string (keyB x.1.2.1 x.1.2.2)) (.int .i64 nx)).run Tryd.prog (w4.setCell ⟨g, 0, none⟩ v4).drew = .ok () w6 ∧
      w6.cell? ⟨g, 1, none⟩ = some (.map (some m)) ∧ w6.cell? ⟨fb, 0, none⟩ = some (.int .i64 nx) ∧ w6.cell? ⟨g, 2, none⟩ = some (.int .i64 nx) ∧ w6.frozen? ⟨g, 2, none⟩ = false ∧ (w6.setCell ⟨g, 2, none⟩ (.int .i64 (nx + 1))).cell? ⟨fb, 0, none⟩ = some (.int .i64 nx) ∧
      (Mem B (fun k => F k ∨ (W.heap.size ≤ k ∧ k < (w6.setCell ⟨g, 2, none⟩ (.int .i64 (nx + 1))).heap.size)) g m v4 (xs ++ [x]) (nx + 1) (w6.setCell ⟨g, 2, none⟩ (.int .i64 (nx + 1))) ∧ Keep F W (w6.setCell ⟨g, 2, none⟩ (.int .i64 (nx + 1)))) := by
  have hgl := (h.lt g h.Fg).2
  have hml := (h.lt m h.Fm).2
  have s3 := b3.size
  have hgm := h.gm
  have hfl : fb < w3.heap.size := (Array.getElem?_eq_some_iff.1 F3).1
  have hvl : ∀ k, v.ownBlock = some k → k < W.heap.size := fun k hk => (h.lt k (h.Fv k hk)).2
  have k4 : Keep (fun k => v.ownBlock = some k) w3 w4 := (((Keep.refl _ w3).drew).alloc o).grown hg4 (fun k hk => .inl hk)
  have hv4' : v4.ownBlock = v.ownBlock ∨ ∀ k, v4.ownBlock = some k → w3.heap.size ≤ k := hv4.imp id (fun hh k hk => by have := hh k hk; simp at this; omega)
  have f4 : w4.heap[fb]? = some (.cells (fsc x).toArray 55 (0, 0)) := (k4.block fb hfl (fun e => by have := hvl fb e; omega)).trans F3
  have g5 : (w4.setCell ⟨g, 0, none⟩ v4).heap[g]? = some (.cells #[v4, .map (some m), .int .i64 nx] 61 (0, 0)) := by have := block_set g4 (j := 0) v4; simpa using this
  have f5 : (w4.setCell ⟨g, 0, none⟩ v4).heap[fb]? = some (.cells (fsc x).toArray 55 (0, 0)) := (Below.heap_setCell _ _ _ _ (by show fb ≠ g; omega)).trans f4
  have m5 : IsMap (w4.setCell ⟨g, 0, none⟩ v4).drew m Value.string (Value.int .i64) (xs.map Fs.p) :=
    h.map.move (((Below.heap_setCell w4 ⟨g, 0, none⟩ v4 m (by show m ≠ g; omega))).trans ((k4.block m (by omega) (fun e => h.vm e)).trans (b3.block m hml)))
  obtain ⟨w6, hrun, hm6, hg6, hs6⟩ := m5.update (P := Tryd.prog) inj_str key_str Tryd.underlying59 Tryd.underlying9 (keyB x.1.2.1 x.1.2.2) nx
  have g6 : w6.heap[g]? = some (.cells #[v4, .map (some m), .int .i64 nx] 61 (0, 0)) := (hg6.block g (Array.getElem?_eq_some_iff.1 (show (w4.setCell ⟨g, 0, none⟩ v4).drew.heap[g]? = _ from g5)).1 (fun e => hgm (by injection e))).trans g5
  have f6 : w6.heap[fb]? = some (.cells (fsc x).toArray 55 (0, 0)) := (hg6.block fb (Array.getElem?_eq_some_iff.1 (show (w4.setCell ⟨g, 0, none⟩ v4).drew.heap[fb]? = _ from f5)).1 (fun e => by injection e with e; omega)).trans f5
  have g7 : (w6.setCell ⟨g, 2, none⟩ (.int .i64 (nx + 1))).heap[g]? = some (.cells #[v4, .map (some m), .int .i64 (nx + 1)] 61 (0, 0)) := by have := block_set g6 (j := 2) (.int .i64 (nx + 1)); simpa using this
  have f7 : (w6.setCell ⟨g, 2, none⟩ (.int .i64 (nx + 1))).heap[fb]? = some (.cells (fsc x).toArray 55 (0, 0)) := (Below.heap_setCell _ _ _ _ (by show fb ≠ g; omega)).trans f6
  have k7 : Keep (fun k => k = g ∨ k = m) w4 (w6.setCell ⟨g, 2, none⟩ (.int .i64 (nx + 1))) :=
    (((((Keep.refl _ w4).setCell (.inl (.inl rfl)) v4).drew).grown hg6 (fun k hk => .inl (.inr (by injection hk with hk; exact hk.symm)))).setCell (.inl (.inl rfl)) _)
  rw [← hx1] at hm6
  rw [put_find hf] at hm6
  have m7 : IsMap (w6.setCell ⟨g, 2, none⟩ (.int .i64 (nx + 1))) m Value.string (Value.int .i64) ((xs ++ [x]).map Fs.p) := hm6.move (Below.heap_setCell _ _ _ _ (by show m ≠ g; omega))
  have fin := Mem.add h b3 k4 x (by rw [List.length_append]; exact own4) hv4' k7 g7 m7 hx hx1 hx2 hn hnx
  refine ⟨block_cell g5 rfl, by rw [← hx1]; exact block_cell f5 rfl, w6, hrun, block_cell g6 rfl, by rw [← hx1]; exact block_cell f6 rfl, block_cell g6 rfl, block_free g6, ?_, fin.1, fin.2.1⟩
  have := block_cell (v := .int .i64 x.1.1) (j := 0) f7 rfl
  rw [hx1] at this
  exact this
set_option maxRecDepth 100000 in
set_option maxHeartbeats 4000000 in
theorem assert_new {B : Nat} {F : Nat → Prop} {g : Nat} {T : List Ft} {nx : Int} {w0 W : World} (t : ByteArray) (ht : t.size ≤ 100000) (A : Option Addr) (c : Nat) (l : List Vl) (hf : findO T t l = none) (hn : T.length < 1000) (hnx : nx < 1000000000) (hI : Inv B w0 F g T nx W) (ha : ArgV (fun _ => False) W A c l) (htab : Tab W) :
    Calls Tryd.prog 9 #[.pointer (some ⟨g, 0, none⟩), .string t, .slice A l.length c] W fun e w' => e = .returned (.tuple #[.int .i64 nx, .bool true, .int .i64 0]) ∧ (Inv B w0 (fun k => F k ∨ (W.heap.size ≤ k ∧ k < w'.heap.size)) g (T ++ [(nx, t, l)]) (nx + 1) w' ∧ Keep F W w') := by
  obtain ⟨i0, hi, hz0, hz1, hz2⟩ := info_parts infoF
  obtain ⟨m, v, xs, e, hm, h0⟩ := hI
  obtain ⟨A0, n0, rfl, _, _, _⟩ := hm.rows
  have hlx : xs.length < 1000 := by rw [← e, List.length_map] at hn; exact hn
  have HC := Lib.hid (fun w' (hb : Below W.heap.size W w') => (⟨block_cell (j := 0) (hm.grow hb).blk rfl, block_cell (j := 1) (hm.grow hb).blk rfl, block_cell (j := 2) (hm.grow hb).blk rfl, by have := hm.look hb t l; rw [e, hf] at this; exact this⟩ : w'.cell? ⟨g, 0, none⟩ = some (.slice A0 xs.length n0) ∧ w'.cell? ⟨g, 1, none⟩ = some (.map (some m)) ∧ w'.cell? ⟨g, 2, none⟩ = some (.int .i64 nx) ∧ (Instr.lookup 59 (.map (some m)) (.string (keyB t l)) true).run Tryd.prog w' = .ok (.tuple #[.int .i64 0, .bool false]) w'))
  have HK := Lib.hid (key_c t ht A c l W ha htab)
  have HA := Lib.hid (fun w' (hb : Below W.heap.size W w') => ha.below hb)
  have hlI : (xs.length : Int) < 1000 := by omega
  have HM := Lib.hid hm
  have H0 := Lib.hid h0
  have HE := Lib.hid e
  have HF := Lib.hid hf
  have hnxI := hm.nx1
  clear hm h0 e ha htab hf hn
  go_enter Tryd.func9, Tryd.ntmps9
  go_wp2_with fail
  refine HK.out.mono ?_
  rintro e w1 ⟨rfl, b1⟩
  have E1 := Lib.hid b1
  clear b1
  obtain ⟨c0, c1, c2, hlook⟩ := HC.out _ E1.out
  go_wp2_with fail
  clear hlook
  refine (apart_c nx t A c l w1 (HA.out _ E1.out)).mono ?_
  rintro e w2 ⟨xv, rfl, ho, b2⟩
  have E2 := Lib.hid (E1.out.trans (b2.mono E1.out.size))
  have HX := Lib.hid (ho.mono E1.out.size)
  obtain ⟨xA, xc, hxv, hxr, _, _, hxn⟩ := ho.rows (N := fun k => k < W.heap.size ∨ w2.heap.size ≤ k) v3_len (by decide) (fun k hk hN => by
    have h1 := ho.lt hk
    have h2 := E1.out.size
    omega)
  subst hxv
  have HXR := Lib.hid (show ArgV (fun k => k < W.heap.size ∨ w2.heap.size ≤ k) w2 xA xc l from ⟨hxr, hxn, (HA.out _ E1.out).few, (HA.out _ E1.out).ok⟩)
  clear ho b2 hxr hxn c0 c1 c2
  go_wp2_with fail
  have E3 := Lib.hid (E2.out.alloc E2.out.size (.cells #[.int .i64 nx, .string t, .slice xA l.length xc] 55))
  have F3 := Lib.hid (heap_alloc_new w2 (.cells #[.int .i64 nx, .string t, .slice xA l.length xc] 55))
  have HFB := Lib.hid (show W.heap.size ≤ w2.heap.size from E2.out.size)
  have HXR3 := Lib.hid (show ArgV (fun k => k < W.heap.size ∨ (w2.alloc (.cells #[.int .i64 nx, .string t, .slice xA l.length xc] 55)).heap.size ≤ k) (w2.alloc (.cells #[.int .i64 nx, .string t, .slice xA l.length xc] 55)) xA xc l from (HXR.out.below ((Below.refl _ w2).alloc (Nat.le_refl _) _)).mono (fun k hk => hk.imp id (fun h => by simp at h; omega)))
  have S3 := Lib.hid (show w2.heap.size < (w2.alloc (.cells #[.int .i64 nx, .string t, .slice xA l.length xc] 55)).heap.size by simp)
  generalize hw3 : w2.alloc (.cells #[.int .i64 nx, .string t, .slice xA l.length xc] 55) = w3 at *
  clear hw3
  generalize hfb : w2.heap.size = fb at *
  clear hfb
  have M3 := Lib.hid (HM.out.grow (W' := w3.drew.alloc (.cells #[.int .i64 nx, .string t, .slice xA l.length xc] 55)) ((E3.out.drew).alloc E3.out.size _))
  have NEW := Lib.hid (new_one (f := fsc) (m := 3) (N := fun _ => False) w3.drew ((nx, t, l), xA, xc) 55 (fun h => h))
  obtain ⟨c0, c1, c2, _⟩ := HC.out _ E3.out
  have f0 := block_cell (j := 0) F3.out rfl
  have f1 := block_cell (j := 1) F3.out rfl
  have f2 := block_cell (j := 2) F3.out rfl
  have G4 : Hid (∀ w4 v4, (w3.drew.alloc (.cells #[.int .i64 nx, .string t, .slice xA l.length xc] 55)).grownBy w4 (Value.slice A0 xs.length n0).ownBlock → OwnW w4 B 55 3 v4 (xs.length + 1) ((xs ++ [((nx, t, l), xA, xc)]).flatMap fsc) → w4.heap[g]? = some (.cells #[.slice A0 xs.length n0, .map (some m), .int .i64 nx] 61 (0, 0)) ∧ ∃ A4 n4, v4 = .slice A4 (xs.length + 1) n4) := Lib.hid (fun w4 v4 h ho => ⟨(h.block g (Array.getElem?_eq_some_iff.1 M3.out.blk).1 (fun e => M3.out.vg e.symm)).trans M3.out.blk, by
    obtain ⟨A4, n4, e4, _, _, _⟩ := OwnW.rows (l := xs ++ [((nx, t, l), xA, xc)]) (N := fun _ => False) fsc_len (by decide) ho (fun _ _ h => h)
    exact ⟨A4, n4, by rw [e4]; simp⟩⟩)
  have B4 := Lib.hid (show B ≤ (w3.drew.alloc (.cells #[.int .i64 nx, .string t, .slice xA l.length xc] 55)).heap.size by have := M3.out.lt g M3.out.Fg; omega)
  have c0n : (w3.alloc (.cells #[.int .i64 nx, .string t, .slice xA l.length xc] 55)).cell? ⟨g, 0, none⟩ = some (.slice A0 xs.length n0) := block_cell (j := 0) M3.out.blk rfl
  go_region_law (refine step_append_ownW (f := fsc) fsc_len fsc_flat (by decide) rfl (.tmp 45) (.tmp 47) 40 rfl B 55 i0 zF 48 Tryd.underlying40 hi hz0 hz1 hz2 rfl (.slice A0 xs.length n0) xs.length xs (by simp [Act.eval]) M3.out.own (some ⟨w3.heap.size, 0, none⟩) 1 [((nx, t, l), xA, xc)] (fun h => by cases h) NEW.out (by simp [Act.eval]) (by unfold maxLen; simp; omega) (by simp; omega) B4.out ?_; intro v4 w4 ho4 hg4 hv4; obtain ⟨g4, A4, n4, rfl⟩ := G4.out w4 v4 hg4 ho4; have c40 := block_cell (j := 0) g4 rfl; have f40 := block_free (j := 0) g4)
  all_goals
    obtain ⟨c91, c90, w6, hrun6, d91, d90, d92, d93, d94, hm7, hk7⟩ := add_tail HM.out E3.out ((nx, t, l), xA, xc) fb _ F3.out HFB.out hg4 ho4 hv4 g4 HXR3.out rfl ht hlx hnx (by rw [HE.out]; exact HF.out)
    have HU := Lib.hid hrun6
    have HM7 := Lib.hid hm7
    have HK7 := Lib.hid hk7
    clear hrun6 hm7 hk7 hg4 ho4 hv4 g4 c40 f40 c0n c0 c1 c2 f0 f1 f2
    go_wp2_with fail
    refine wp_region_held_drew (S := (fun w' => w'.cell? ⟨g, 1, none⟩ = some (.map (some m)) ∧ w'.cell? ⟨fb, 0, none⟩ = some (.int .i64 nx))) (by kernel_rfl) ⟨c91, c90⟩ (fun hHeld => ?_)
    refine wpAnyH_take (i := 0) (oi := ⟨_, _, _, _, _, _⟩) (v := ?_) rfl (by kernel_rfl) (by kernel_rfl) (by kernel_rfl) (fun _ _ _ h => h) (Or.inl ⟨by rfl, ?_⟩) (by assumption) ?_
    rotate_left
    · intro w' hSw; (try dsimp only at hSw); go_simp; (try with_reducible rfl)
    try simp only [Act.put, List.setIfInBounds_toArray, List.set_cons_zero, List.set_cons_succ]
    refine wpAnyH_take (i := 1) (oi := ⟨_, _, _, _, _, _⟩) (v := ?_) rfl (by kernel_rfl) (by kernel_rfl) (by kernel_rfl) (fun _ _ _ h => h) (Or.inl ⟨by rfl, ?_⟩) (by assumption) ?_
    rotate_left
    · intro w' hSw; (try dsimp only at hSw); go_simp; (try with_reducible rfl)
    try simp only [Act.put, List.setIfInBounds_toArray, List.set_cons_zero, List.set_cons_succ]
    refine wpAnyH_take (i := 2) (oi := ⟨_, _, _, _, _, _⟩) (v := ?_) rfl (by kernel_rfl) (by kernel_rfl) (by kernel_rfl) (fun _ _ _ h => h) (Or.inl ⟨by rfl, ?_⟩) (by assumption) ?_
    rotate_left
    · intro w' hSw; (try dsimp only at hSw); go_simp; (try with_reducible rfl)
    try simp only [Act.put, List.setIfInBounds_toArray, List.set_cons_zero, List.set_cons_succ]
    refine wpAnyH_take (i := 3) (oi := ⟨_, _, _, _, _, _⟩) (v := ?_) rfl (by kernel_rfl) (by kernel_rfl) (by kernel_rfl) (fun _ _ _ h => h) (Or.inl ⟨by rfl, ?_⟩) (by assumption) ?_
    rotate_left
    · intro w' hSw; (try dsimp only at hSw); go_simp; (try with_reducible rfl)
    try simp only [Act.put, List.setIfInBounds_toArray, List.set_cons_zero, List.set_cons_succ]
    refine wpAnyH_take (i := 4) (oi := ⟨_, _, _, _, _, _⟩) (v := ?_) rfl (by kernel_rfl) (by kernel_rfl) (by kernel_rfl) (fun _ _ _ h => h) (Or.inl ⟨by rfl, ?_⟩) (by assumption) ?_
    rotate_left
    · intro w' hSw; (try dsimp only at hSw); go_simp; (try with_reducible rfl)
    try simp only [Act.put, List.setIfInBounds_toArray, List.set_cons_zero, List.set_cons_succ]
    refine wpAnyH_take (i := 5) (oi := ⟨_, _, _, _, _, _⟩) (v := ?_) rfl (by kernel_rfl) (by kernel_rfl) (by kernel_rfl) (fun _ _ _ h => h) (Or.inl ⟨by rfl, ?_⟩) (by assumption) ?_
    rotate_left
    · intro w' hSw; (try dsimp only at hSw); go_simp; (try with_reducible rfl)
    try simp only [Act.put, List.setIfInBounds_toArray, List.set_cons_zero, List.set_cons_succ]
    refine wpAnyH_take (i := 6) (oi := ⟨_, _, _, _, _, _⟩) (v := ?_) rfl (by kernel_rfl) (by kernel_rfl) (by kernel_rfl) (fun _ _ _ h => h) (Or.inl ⟨by rfl, ?_⟩) (by assumption) ?_
    rotate_left
    · intro w' hSw; (try dsimp only at hSw); go_simp; (try with_reducible rfl)
    try simp only [Act.put, List.setIfInBounds_toArray, List.set_cons_zero, List.set_cons_succ]
    refine wpAnyH_ready (rs := [7]) (by kernel_rfl) (by simp) ?_
    refine AllReadyH.cons (o := ⟨_, _, _, _, _, _⟩) rfl (fun K9 hK9 => ?_) AllReadyH.nil
    refine step_update rfl (.tmp 54) (.tmp 55) (.tmp 57) rfl rfl rfl rfl HU.out ?_
    refine hK9.out _ _ ⟨d91, d90⟩ (fun hHeld => ?_)
    clear hK9 K9
    simp only [Act.put]
    refine wpAnyH_done (by kernel_rfl) ?_ _
    clear hHeld c91 c90
    go_wp2_with fail
    go_ret3
    exact ⟨rfl, ⟨m, _, xs ++ [((nx, t, l), xA, xc)], by rw [List.map_append, HE.out]; rfl, HM7.out, H0.out.trans (HK7.out.below (by have := HM.out.lt g HM.out.Fg; omega) (fun k hk => (HM.out.lt k hk).1))⟩, HK7.out⟩
end Go.Proofs.YtoaepnidlddmjaaDoor
