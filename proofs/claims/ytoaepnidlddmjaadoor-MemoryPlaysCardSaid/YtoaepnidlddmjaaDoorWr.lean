/- wm.Memory: Twin. -/
import Derived.Test.YtoaepnidlddmjaaDoorWq
namespace Go.Proofs.YtoaepnidlddmjaaDoor
open Go.RowKit Go.Lib KP MR RW
section
variable {W W' w1 w' : World} {A : Option Addr} {ys : List Fs} {T : List Ft} {v : Value} {m g : Nat} {nx : Int}
/-- What a twin is made of, behind k facts laid into its map. -/
structure Tw (W w' : World) (g m : Nat) (A : Option Addr) (ys : List Fs) (T : List Ft) (nx : Int) (k : Nat) : Prop where
  eq : ys.map (fun y : Fs => y.1) = T
  own : OwnW w' W.heap.size 55 3 (.slice A ys.length ys.length) ys.length (ys.flatMap fsc)
  fr : ∀ y ∈ ys, FreshV W.heap.size w' y
  blk : w'.heap[g]? = some (.cells #[.slice A ys.length ys.length, .map (some m), .int .i64 nx] 61 (0, 0))
  map : IsMap w' m Value.string (Value.int .i64) ((ys.take k).map Fs.p)
  hg : W.heap.size ≤ g
  hm : W.heap.size ≤ m
  bel : Below W.heap.size W w'
theorem Tw.below {k : Nat} (h : Tw W w1 g m A ys T nx k) (hb : Below w1.heap.size w1 w') : Tw W w' g m A ys T nx k :=
  ⟨h.eq, h.own.below hb, fun y hy => (h.fr y hy).below hb, keepB h.blk hb, h.map.move (hb.block m h.map.lt), h.hg, h.hm, h.bel.trans (hb.mono h.bel.size)⟩
theorem Tw.row {k : Nat} (h : Tw W w1 g m A ys T nx k) : RowsAt fsc 3 (fun _ => False) w1 A ys := by
  obtain ⟨A', c, e, hr, _, _, _⟩ := h.own.rows (N := fun _ => False) fsc_len (by decide) (fun _ _ h => h)
  obtain rfl : A = A' := by injection e
  exact hr
theorem Tw.put {k : Nat} (h : Tw W w1 g m A ys T nx k) (hk : k < ys.length) (hnd : (T.map fun f => (f.2.1, f.2.2)).Nodup) : ∃ w2, (Instr.mapUpdate 59 (.map (some m)) (.string (keyB ys[k].1.2.1 ys[k].1.2.2)) (.int .i64 ys[k].1.1)).run Tryd.prog w1 = .ok () w2 ∧ Tw W w2 g m A ys T nx (k + 1) ∧ Keep (fun j => j = m) w1 w2 := by
  obtain ⟨w2, hrun, hm2, hg2, hs2⟩ := h.map.update (P := Tryd.prog) inj_str key_str Tryd.underlying59 Tryd.underlying9 (keyB ys[k].1.2.1 ys[k].1.2.2) ys[k].1.1
  have hno : findO ((ys.take k).map (fun y : Fs => y.1)) ys[k].1.2.1 ys[k].1.2.2 = none := by
    unfold findO
    rw [Option.map_eq_none_iff, List.find?_eq_none]
    intro f hf hd
    have hd := of_decide_eq_true hd
    obtain ⟨y, hy, rfl⟩ := List.mem_map.1 hf
    obtain ⟨j, hj, rfl⟩ := List.getElem_of_mem hy
    have hj2 : j < k := by rw [List.length_take] at hj; omega
    rw [List.getElem_take] at hd
    rw [← h.eq, List.map_map] at hnd
    have := List.pairwise_iff_getElem.1 hnd j k (by simp; omega) (by simpa using hk) hj2
    apply this
    simp only [List.getElem_map, Function.comp_def]
    rw [hd.1, hd.2]
  rw [put_find hno, ← List.take_succ_eq_append_getElem hk] at hm2
  have hk2 : Keep (fun j => j = m) w1 w2 := by
    refine (Keep.refl (fun j => j = m) w1).grown hg2 ?_
    intro j hj
    have := Option.some.inj hj
    exact .inl this.symm
  obtain ⟨es, cl, hbm, _⟩ := h.map
  have hgm : g ≠ m := by
    intro e
    have h2 := h.blk
    rw [e, hbm] at h2
    cases h2
  refine ⟨w2, hrun, ⟨h.eq, h.own.keep hk2 (fun j hj hf => by subst hf; exact h.own.neMap hbm hj), fun y hy => (h.fr y hy).keep hk2 (fun j hj hf => by subst hf; exact (h.fr y hy).own.neMap hbm hj), (hk2.block g (Array.getElem?_eq_some_iff.1 h.blk).1 hgm).trans h.blk, hm2, h.hg, h.hm, ?_⟩, hk2⟩
  exact h.bel.grown hg2 h.bel.size (fun j hj => by injection hj with hj; subst hj; exact h.hm)
theorem Tw.done {B : Nat} {F : Nat → Prop} {g0 : Nat} {w0 W0 : World} (h : Tw W w1 g m A ys T nx ys.length) (hI : Inv B w0 F g0 T nx W0) : Inv W.heap.size W (fun k => W.heap.size ≤ k ∧ k < w1.heap.size) g T nx w1 := by
  obtain ⟨m0, v0, xs, e0, hm0, _⟩ := hI
  have hri : Rise (ys.map fsx) := by
    have h1 := hm0.ris
    unfold Rise at h1 ⊢
    rw [List.pairwise_map] at h1 ⊢
    have e1 : ys.map (fun y : Fs => y.1) = xs.map (fun y : Fs => y.1) := h.eq.trans e0.symm
    have h2 : (xs.map (fun y : Fs => y.1)).Pairwise fun a b => a.1 < b.1 := by rw [List.pairwise_map]; exact h1
    rw [← e1, List.pairwise_map] at h2
    exact h2
  have hid : ∀ y ∈ ys, 1 ≤ y.1.1 ∧ y.1.1 < nx := by
    intro y hy
    have : y.1 ∈ xs.map (fun y : Fs => y.1) := by rw [e0, ← h.eq]; exact List.mem_map.2 ⟨y, hy, rfl⟩
    obtain ⟨x, hx, e⟩ := List.mem_map.1 this
    rw [← e]; exact hm0.ids x hx
  have hlen : ys.length = xs.length := by
    have := congrArg List.length (h.eq.trans e0.symm)
    simpa using this
  obtain ⟨es, cl, hbm, _⟩ := h.map
  refine ⟨m, _, ys, h.eq, ⟨h.blk, by have := h.map; rwa [List.take_length] at this, h.own, ⟨h.hg, (Array.getElem?_eq_some_iff.1 h.blk).1⟩, ⟨h.hm, (Array.getElem?_eq_some_iff.1 hbm).1⟩, fun k hk => h.own.lt hk, fun k hk => hk, ?_, fun y hy => (h.fr y hy).ts, hri, hid, hm0.nx1, hm0.nx2, by rw [hlen]; exact hm0.few⟩, h.bel⟩
  intro y hy
  have hf := h.fr y hy
  obtain ⟨A', c, e, hr, _, _, hA⟩ := hf.own.rows (N := fun k => ¬ ((W.heap.size ≤ k ∧ k < w1.heap.size) ∧ k ≠ g ∧ k ≠ m ∧ (Value.slice A ys.length ys.length).ownBlock ≠ some k)) v3_len (by decide) (fun k hk hN => hN ⟨hf.own.lt hk, (fun e => by subst e; exact hf.own.ne h.blk (by decide) hk), (fun e => by subst e; exact hf.own.neMap hbm hk), fun e => own_apart h.own hf.own (by decide) k e hk⟩)
  injection e with e1 e2 e3
  subst e1 e3
  exact ⟨hr, hA, hf.few, hf.ok⟩
def Tp (W w1 : World) (A : Option Addr) (ys : List Fs) (T : List Ft) : Prop := ys.map (fun y : Fs => y.1) = T ∧ OwnW w1 W.heap.size 55 3 (.slice A ys.length ys.length) ys.length (ys.flatMap fsc) ∧ (∀ y ∈ ys, FreshV W.heap.size w1 y)
theorem twin_parts (hb : Below W.heap.size W W') (_ : Below W'.heap.size W' w1) (h1 : ys.map (fun y : Fs => y.1) = T) (h2 : OwnW w1 W'.heap.size 55 3 (.slice A ys.length ys.length) ys.length (ys.flatMap fsc)) (h3 : ∀ y ∈ ys, FreshV W'.heap.size w1 y) : Tp W w1 A ys T :=
  ⟨h1, h2.mono hb.size, fun y hy => ⟨(h3 y hy).own.mono hb.size, (h3 y hy).few, (h3 y hy).ok, (h3 y hy).ts⟩⟩
theorem Tp.below (h : Tp W w1 A ys T) (hb : Below w1.heap.size w1 w') : Tp W w' A ys T := ⟨h.1, h.2.1.below hb, fun y hy => (h.2.2 y hy).below hb⟩
theorem twin_start1 (hb : Below W.heap.size W w1) (h : Tp W w1 A ys T) (nx : Int) : Tw W ((w1.alloc (.map #[] 0)).alloc (.cells #[.slice A ys.length ys.length, .map (some w1.heap.size), .int .i64 nx] 61)) (w1.heap.size + 1) w1.heap.size A ys T nx 0 := by
  have b2 : Below w1.heap.size w1 ((w1.alloc (.map #[] 0)).alloc (.cells #[.slice A ys.length ys.length, .map (some w1.heap.size), .int .i64 nx] 61)) := ((Below.refl _ _).alloc (Nat.le_refl _) _).alloc (by simp) _
  have h2 := h.below b2
  have hs := hb.size
  refine ⟨h2.1, h2.2.1, h2.2.2, ?_, (IsMap.made w1 _ _).move (Below.heap_alloc _ _ _ (by simp)), by omega, by omega, hb.trans (b2.mono hb.size)⟩
  have := heap_alloc_new (w1.alloc (.map #[] 0)) (.cells #[.slice A ys.length ys.length, .map (some w1.heap.size), .int .i64 nx] 61)
  simpa using this
theorem twin_start2 (hb : Below W.heap.size W w1) (h : Tp W w1 A ys T) {m : Nat} (hm : IsMap w1 W.heap.size Value.string (Value.int .i64) []) (nx : Int) (e : m = W.heap.size) : Tw W (w1.alloc (.cells #[.slice A ys.length ys.length, .map (some m), .int .i64 nx] 61)) w1.heap.size m A ys T nx 0 := by
  subst e
  have b2 : Below w1.heap.size w1 (w1.alloc (.cells #[.slice A ys.length ys.length, .map (some W.heap.size), .int .i64 nx] 61)) := (Below.refl _ _).alloc (Nat.le_refl _) _
  have h2 := h.below b2
  exact ⟨h2.1, h2.2.1, h2.2.2, heap_alloc_new w1 _, hm.move (b2.block _ hm.lt), hb.size, Nat.le_refl _, hb.trans (b2.mono hb.size)⟩
end
theorem Inv.keyNodup {B : Nat} {F : Nat → Prop} {g : Nat} {T : List Ft} {nx : Int} {w0 W : World} (h : Inv B w0 F g T nx W) : (T.map fun f => (f.2.1, f.2.2)).Nodup := by
  obtain ⟨m, v, xs, e, hm, _⟩ := h
  have := hm.keyNodup
  rw [← e, List.map_map, List.Nodup, List.pairwise_map]
  rw [List.Nodup, List.pairwise_map] at this
  exact this.imp (fun h e => h (by simp only [Function.comp_def, Prod.mk.injEq] at e; show keyB _ _ = keyB _ _; rw [e.1, e.2]))
def TwinO (W : World) (T : List Ft) (nx : Int) (e : Ending) (w' : World) : Prop := ∃ g F, e = .returned (.pointer (some ⟨g, 0, none⟩)) ∧ Inv W.heap.size W F g T nx w'
set_option maxRecDepth 100000 in
set_option maxHeartbeats 4000000 in
theorem twin_c {B : Nat} {F : Nat → Prop} {g : Nat} {T : List Ft} {nx : Int} {w0 W : World} (h : Inv B w0 F g T nx W) (htab : Tab W) : Calls Tryd.prog 21 #[.pointer (some ⟨g, 0, none⟩)] W (TwinO W T nx) := by
  have HI := Lib.hid h
  have HT := Lib.hid (fun w' (hb : Below W.heap.size W w') => htab.b hb)
  have HN := Lib.hid h.keyNodup
  have HS : Hid (∀ w', Below W.heap.size W w' → w'.cell? ⟨g, 2, none⟩ = some (.int .i64 nx)) := Lib.hid (fun w' hb => by
    obtain ⟨m, v, xs, e, hm, _⟩ := h
    exact block_cell (j := 2) (hm.grow hb).blk rfl)
  have D0 : Hid (Below W.heap.size W W.drew) := Lib.hid ⟨rfl, rfl, rfl, Nat.le_refl _, fun _ _ => rfl⟩
  have M0 : Hid (Below W.heap.size W (W.alloc (.map #[] 0)).drew) := Lib.hid (((Below.refl W.heap.size W).alloc (Nat.le_refl _) _).drew)
  have hs0 := HS.out _ D0.out
  have hmm := @run_makeMap Tryd.prog
  clear h htab
  go_enter Tryd.func21, Tryd.ntmps21
  go_wp2_with fail
  refine wp_region_held_drew (S := (fun w' => w'.cell? ⟨g, 2, none⟩ = some (.int .i64 nx))) (by kernel_rfl) (HS.out _ D0.out) (fun hHeld => ?_)
  refine wpAnyH_take (i := 0) (oi := ⟨_, _, _, _, _, _⟩) (v := ?_) rfl (by kernel_rfl) (by kernel_rfl) (by kernel_rfl) (fun _ _ _ h => h) (Or.inl ⟨by rfl, ?_⟩) (by assumption) ?_
  rotate_left
  · intro w' hSw; (try dsimp only at hSw); go_simp; (try with_reducible rfl)
  try simp only [Act.put, List.setIfInBounds_toArray, List.set_cons_zero, List.set_cons_succ]
  refine wpAnyH_take (i := 3) (oi := ⟨_, _, _, _, _, _⟩) (v := ?_) rfl (by kernel_rfl) (by kernel_rfl) (by kernel_rfl) (fun _ _ _ h => h) (Or.inl ⟨by rfl, ?_⟩) (by assumption) ?_
  rotate_left
  · intro w' hSw; (try dsimp only at hSw); go_simp; (try with_reducible rfl)
  try simp only [Act.put, List.setIfInBounds_toArray, List.set_cons_zero, List.set_cons_succ]
  refine wpAnyH_take (i := 4) (oi := ⟨_, _, _, _, _, _⟩) (v := ?_) rfl (by kernel_rfl) (by kernel_rfl) (by kernel_rfl) (fun _ _ _ h => h) (Or.inl ⟨by rfl, ?_⟩) (by assumption) ?_
  rotate_left
  · intro w' hSw; (try dsimp only at hSw); go_simp; (try with_reducible rfl)
  try simp only [Act.put, List.setIfInBounds_toArray, List.set_cons_zero, List.set_cons_succ]
  refine wpAnyH_take (i := 5) (oi := ⟨_, _, _, _, _, _⟩) (v := ?_) rfl (by kernel_rfl) (by kernel_rfl) (by kernel_rfl) (fun _ _ _ h => h) (Or.inl ⟨by rfl, ?_⟩) (by assumption) ?_
  rotate_left
  · intro w' hSw; (try dsimp only at hSw); go_simp; (try with_reducible rfl)
  try simp only [Act.put, List.setIfInBounds_toArray, List.set_cons_zero, List.set_cons_succ]
  refine wpAnyH_take (i := 6) (oi := ⟨_, _, _, _, _, _⟩) (v := ?_) rfl (by kernel_rfl) (by kernel_rfl) (by kernel_rfl) (fun _ _ _ h => h) (Or.inl ⟨by rfl, ?_⟩) (by assumption) ?_
  rotate_left
  · intro w' hSw; (try dsimp only at hSw); go_simp; (try with_reducible rfl)
  try simp only [Act.put, List.setIfInBounds_toArray, List.set_cons_zero, List.set_cons_succ]
  refine wpAnyH_ready (rs := [1, 2]) (by kernel_rfl) (by simp) ?_
  refine AllReadyH.cons (o := ⟨_, _, _, _, _, _⟩) rfl (fun K9 hK9 => ?_) (AllReadyH.cons (o := ⟨_, _, _, _, _, _⟩) rfl (fun K9 hK9 => ?_) (AllReadyH.nil))
  · go_simp
    (with_reducible refine (all_y (HI.out.grow D0.out HI.out.size)).mono ?_)
    rintro e w1 ⟨A, ys, rfl, hys, ho, hfr, b1⟩
    have B1 := Lib.hid (D0.out.trans (b1.mono D0.out.size))
    have X1 := Lib.hid (twin_parts D0.out b1 hys ho hfr)
    clear hys ho hfr b1
    go_wp2_with fail
    refine hK9.out _ _ (HS.out _ B1.out) (fun hHeld => ?_)
    clear hK9 K9
    try simp only [Act.put, List.setIfInBounds_toArray, List.set_cons_zero, List.set_cons_succ]
    refine wpAnyH_ready (rs := [2]) (by kernel_rfl) (by simp) ?_
    refine AllReadyH.cons (o := ⟨_, _, _, _, _, _⟩) rfl (fun K9 hK9 => ?_) AllReadyH.nil
    go_simp
    refine hK9.out _ _ (HS.out _ (B1.out.alloc B1.out.size _)) (fun hHeld => ?_)
    clear hK9 K9
    try simp only [Act.put, List.setIfInBounds_toArray, List.set_cons_zero, List.set_cons_succ]
    refine wpAnyH_take (i := 7) (oi := ⟨_, _, _, _, _, _⟩) (v := ?_) rfl (by kernel_rfl) (by kernel_rfl) (by kernel_rfl) (fun _ _ _ h => h) (Or.inl ⟨by rfl, ?_⟩) (by assumption) ?_
    rotate_left
    · intro w' hSw; (try dsimp only at hSw); go_simp; (try with_reducible rfl)
    try simp only [Act.put, List.setIfInBounds_toArray, List.set_cons_zero, List.set_cons_succ]
    refine wpAnyH_ready (rs := [8]) (by kernel_rfl) (by simp) ?_
    refine AllReadyH.cons (o := ⟨_, _, _, _, _, _⟩) rfl (fun K9 hK9 => ?_) AllReadyH.nil
    go_simp
    refine hK9.out _ _ (HS.out _ ((B1.out.alloc B1.out.size _).alloc (B1.out.alloc B1.out.size _).size _)) (fun hHeld => ?_)
    clear hK9 K9
    try simp only [Act.put, List.setIfInBounds_toArray, List.set_cons_zero, List.set_cons_succ]
    refine wpAnyH_take (i := 9) (oi := ⟨_, _, _, _, _, _⟩) (v := ?_) rfl (by kernel_rfl) (by kernel_rfl) (by kernel_rfl) (fun _ _ _ h => h) (Or.inl ⟨by rfl, ?_⟩) (by assumption) ?_
    rotate_left
    · intro w' hSw; (try dsimp only at hSw); go_simp; (try with_reducible rfl)
    try simp only [Act.put, List.setIfInBounds_toArray, List.set_cons_zero, List.set_cons_succ]
    refine wpAnyH_done (by kernel_rfl) ?_ _
    clear hHeld
    have P0 := Lib.hid (twin_start1 B1.out X1.out nx)
    clear B1 X1 hs0
    generalize hw2 : (w1.alloc (.map #[] 0)).alloc (.cells #[.slice A ys.length ys.length, .map (some w1.heap.size), .int .i64 nx] 61) = w2 at *
    clear hw2
    generalize hg2 : w1.heap.size + 1 = g2 at *
    clear hg2
    generalize hm2 : w1.heap.size = m2 at *
    clear hm2
    have q0 := block_cell (j := 0) P0.out.blk rfl
    go_wp2_with fail
    clear q0
    go_loopw [20] (fun i wr => ∃ k : Nat, k ≤ ys.length ∧ i = .int .i64 k ∧ Hid (Tw W wr g2 m2 A ys T nx k)) (fun i _ => (ys.length - (RowKit.intOf i).toNat))
    case atStart => exact ⟨0, by omega, rfl, P0⟩
    case round =>
      obtain ⟨k, hk, rfl, hTw⟩ := hrel
      clear P0
      have hyl := Lib.hid (show ys.length ≤ 1000 by have := congrArg List.length hTw.out.eq; rw [List.length_map] at this; have := HI.out.few; omega)
      by_cases hlt : k < ys.length
      · have hkI : (k : Int) < (ys.length : Int) := by omega
        have hyI : (ys.length : Int) ≤ 1000 := by have := hyl.out; omega
        obtain ⟨ad, rfl, _, c0, c1, c2⟩ := fs_at hTw.out.row hlt
        have q1 := block_cell (j := 1) hTw.out.blk rfl
        have hfy := hTw.out.fr ys[k] (List.getElem_mem hlt)
        have HTY := Lib.hid hfy.ts
        have hay := hfy.arg.mono (M := fun _ => False) (fun _ h => h.elim)
        have hput : ∀ w', Below wr.heap.size wr w' → _ := fun w' (h : Below wr.heap.size wr w') => (hTw.out.below h).put hlt HN.out
        generalize ys[k] = y at *
        obtain ⟨⟨y1, y2, y4⟩, y3, y5⟩ := y
        dsimp only at c0 c1 c2 HTY hay hput
        have hnw := heap_alloc_new wr (.cells #[.int .i64 y1, .string y2, .slice y3 y4.length y5] 55)
        have hb0 := (Below.refl wr.heap.size wr).alloc (Nat.le_refl _) (.cells #[.int .i64 y1, .string y2, .slice y3 y4.length y5] 55)
        have D5 : Hid (Below (wr.alloc (.cells #[.int .i64 y1, .string y2, .slice y3 y4.length y5] 55)).heap.size (wr.alloc (.cells #[.int .i64 y1, .string y2, .slice y3 y4.length y5] 55)) (wr.alloc (.cells #[.int .i64 y1, .string y2, .slice y3 y4.length y5] 55)).drew) := Lib.hid (Below.refl _ _).drew
        have HTW := Lib.hid (fun w' (h : Below (wr.alloc (.cells #[.int .i64 y1, .string y2, .slice y3 y4.length y5] 55)).heap.size (wr.alloc (.cells #[.int .i64 y1, .string y2, .slice y3 y4.length y5] 55)) w') => hTw.out.bel.trans ((hb0.trans (h.mono hb0.size)).mono hTw.out.bel.size))
        have HAY := Lib.hid (fun w' (h : Below (wr.alloc (.cells #[.int .i64 y1, .string y2, .slice y3 y4.length y5] 55)).heap.size (wr.alloc (.cells #[.int .i64 y1, .string y2, .slice y3 y4.length y5] 55)) w') => hay.below (hb0.trans (h.mono hb0.size)))
        have hgm : g2 ≠ m2 := by
          intro e
          obtain ⟨es, cl, hbm, _⟩ := hTw.out.map
          have h2 := hTw.out.blk
          rw [e, hbm] at h2
          cases h2
        have hml := hTw.out.map.lt
        have HS5 : Hid (∀ w', Below (wr.alloc (.cells #[.int .i64 y1, .string y2, .slice y3 y4.length y5] 55)).heap.size (wr.alloc (.cells #[.int .i64 y1, .string y2, .slice y3 y4.length y5] 55)) w' → (fun w' => w'.cell? ⟨g2, 1, none⟩ = some (.map (some m2)) ∧ w'.cell? ⟨wr.heap.size, 0, none⟩ = some (.int .i64 y1) ∧ w'.cell? ⟨wr.heap.size, 1, none⟩ = some (.string y2) ∧ w'.cell? ⟨wr.heap.size, 2, none⟩ = some (.slice y3 y4.length y5)) w') := Lib.hid (fun w' h => by
          have h1 := (h.block _ (by simp)).trans hnw
          have h2 := hTw.out.below (hb0.trans (h.mono hb0.size))
          exact ⟨block_cell h2.blk rfl, block_cell h1 rfl, block_cell h1 rfl, block_cell h1 rfl⟩)
        have PUT : Hid (∀ w', Below (wr.alloc (.cells #[.int .i64 y1, .string y2, .slice y3 y4.length y5] 55)).heap.size (wr.alloc (.cells #[.int .i64 y1, .string y2, .slice y3 y4.length y5] 55)) w' → ∃ w2, (Instr.mapUpdate 59 (.map (some m2)) (.string (keyB y2 y4)) (.int .i64 y1)).run Tryd.prog w' = .ok () w2 ∧ Tw W w2 g2 m2 (some ad) ys T nx (k + 1) ∧ (fun w' => w'.cell? ⟨g2, 1, none⟩ = some (.map (some m2)) ∧ w'.cell? ⟨wr.heap.size, 0, none⟩ = some (.int .i64 y1) ∧ w'.cell? ⟨wr.heap.size, 1, none⟩ = some (.string y2) ∧ w'.cell? ⟨wr.heap.size, 2, none⟩ = some (.slice y3 y4.length y5)) w2) := Lib.hid (fun w' h => by
          obtain ⟨w5, hrun, ht, hk5⟩ := hput w' (hb0.trans (h.mono hb0.size))
          have h1 := (hk5.block wr.heap.size (by have := h.size; simp at this; omega) (by omega)).trans ((h.block _ (by simp)).trans hnw)
          exact ⟨w5, hrun, ht, block_cell ht.blk rfl, block_cell h1 rfl, block_cell h1 rfl, block_cell h1 rfl⟩)
        clear hnw hb0 hput hml hgm hay hfy
        go_wp2_with fail
        generalize hfb : wr.heap.size = fb at *
        clear hfb
        generalize hw3 : wr.alloc (.cells #[.int .i64 y1, .string y2, .slice y3 y4.length y5] 55) = w3 at *
        clear hw3 c0 c1 c2 q1
        refine wp_region_held_drew (S := (fun w' => w'.cell? ⟨g2, 1, none⟩ = some (.map (some m2)) ∧ w'.cell? ⟨fb, 0, none⟩ = some (.int .i64 y1) ∧ w'.cell? ⟨fb, 1, none⟩ = some (.string y2) ∧ w'.cell? ⟨fb, 2, none⟩ = some (.slice y3 y4.length y5))) (by kernel_rfl) (HS5.out _ D5.out) (fun hHeld => ?_)
        refine wpAnyH_take (i := 0) (oi := ⟨_, _, _, _, _, _⟩) (v := ?_) rfl (by kernel_rfl) (by kernel_rfl) (by kernel_rfl) (fun _ _ _ h => h) (Or.inl ⟨by rfl, ?_⟩) (by assumption) ?_
        rotate_left
        · intro w' hSw; (try dsimp only at hSw); go_simp; (try with_reducible rfl)
        try simp only [Act.put, List.setIfInBounds_toArray, List.set_cons_zero, List.set_cons_succ]
        refine wpAnyH_take (i := 1) (oi := ⟨_, _, _, _, _, _⟩) (v := ?_) rfl (by kernel_rfl) (by kernel_rfl) (by kernel_rfl) (fun _ _ _ h => h) (Or.inl ⟨by rfl, ?_⟩) (by assumption) ?_
        rotate_left
        · intro w' hSw; (try dsimp only at hSw); go_simp; (try with_reducible rfl)
        try simp only [Act.put, List.setIfInBounds_toArray, List.set_cons_zero, List.set_cons_succ]
        refine wpAnyH_take (i := 2) (oi := ⟨_, _, _, _, _, _⟩) (v := ?_) rfl (by kernel_rfl) (by kernel_rfl) (by kernel_rfl) (fun _ _ _ h => h) (Or.inl ⟨by rfl, ?_⟩) (by assumption) ?_
        rotate_left
        · intro w' hSw; (try dsimp only at hSw); go_simp; (try with_reducible rfl)
        try simp only [Act.put, List.setIfInBounds_toArray, List.set_cons_zero, List.set_cons_succ]
        refine wpAnyH_take (i := 3) (oi := ⟨_, _, _, _, _, _⟩) (v := ?_) rfl (by kernel_rfl) (by kernel_rfl) (by kernel_rfl) (fun _ _ _ h => h) (Or.inl ⟨by rfl, ?_⟩) (by assumption) ?_
        rotate_left
        · intro w' hSw; (try dsimp only at hSw); go_simp; (try with_reducible rfl)
        try simp only [Act.put, List.setIfInBounds_toArray, List.set_cons_zero, List.set_cons_succ]
        refine wpAnyH_take (i := 4) (oi := ⟨_, _, _, _, _, _⟩) (v := ?_) rfl (by kernel_rfl) (by kernel_rfl) (by kernel_rfl) (fun _ _ _ h => h) (Or.inl ⟨by rfl, ?_⟩) (by assumption) ?_
        rotate_left
        · intro w' hSw; (try dsimp only at hSw); go_simp; (try with_reducible rfl)
        try simp only [Act.put, List.setIfInBounds_toArray, List.set_cons_zero, List.set_cons_succ]
        refine wpAnyH_take (i := 5) (oi := ⟨_, _, _, _, _, _⟩) (v := ?_) rfl (by kernel_rfl) (by kernel_rfl) (by kernel_rfl) (fun _ _ _ h => h) (Or.inl ⟨by rfl, ?_⟩) (by assumption) ?_
        rotate_left
        · intro w' hSw; (try dsimp only at hSw); go_simp; (try with_reducible rfl)
        try simp only [Act.put, List.setIfInBounds_toArray, List.set_cons_zero, List.set_cons_succ]
        refine wpAnyH_take (i := 6) (oi := ⟨_, _, _, _, _, _⟩) (v := ?_) rfl (by kernel_rfl) (by kernel_rfl) (by kernel_rfl) (fun _ _ _ h => h) (Or.inl ⟨by rfl, ?_⟩) (by assumption) ?_
        rotate_left
        · intro w' hSw; (try dsimp only at hSw); go_simp; (try with_reducible rfl)
        try simp only [Act.put, List.setIfInBounds_toArray, List.set_cons_zero, List.set_cons_succ]
        refine wpAnyH_take (i := 7) (oi := ⟨_, _, _, _, _, _⟩) (v := ?_) rfl (by kernel_rfl) (by kernel_rfl) (by kernel_rfl) (fun _ _ _ h => h) (Or.inl ⟨by rfl, ?_⟩) (by assumption) ?_
        rotate_left
        · intro w' hSw; (try dsimp only at hSw); go_simp; (try with_reducible rfl)
        try simp only [Act.put, List.setIfInBounds_toArray, List.set_cons_zero, List.set_cons_succ]
        refine wpAnyH_take (i := 9) (oi := ⟨_, _, _, _, _, _⟩) (v := ?_) rfl (by kernel_rfl) (by kernel_rfl) (by kernel_rfl) (fun _ _ _ h => h) (Or.inl ⟨by rfl, ?_⟩) (by assumption) ?_
        rotate_left
        · intro w' hSw; (try dsimp only at hSw); go_simp; (try with_reducible rfl)
        try simp only [Act.put, List.setIfInBounds_toArray, List.set_cons_zero, List.set_cons_succ]
        refine wpAnyH_take (i := 10) (oi := ⟨_, _, _, _, _, _⟩) (v := ?_) rfl (by kernel_rfl) (by kernel_rfl) (by kernel_rfl) (fun _ _ _ h => h) (Or.inl ⟨by rfl, ?_⟩) (by assumption) ?_
        rotate_left
        · intro w' hSw; (try dsimp only at hSw); go_simp; (try with_reducible rfl)
        try simp only [Act.put, List.setIfInBounds_toArray, List.set_cons_zero, List.set_cons_succ]
        refine wpAnyH_ready (rs := [8]) (by kernel_rfl) (by simp) ?_
        refine AllReadyH.cons (o := ⟨_, _, _, _, _, _⟩) rfl (fun K9 hK9 => ?_) AllReadyH.nil
        go_simp
        (with_reducible refine (key_c y2 HTY.out y3 y5 y4 _ (HAY.out _ D5.out) (HT.out _ (HTW.out _ D5.out))).mono ?_)
        rintro e w4 ⟨rfl, b4⟩
        have D6 := Lib.hid (D5.out.trans (b4.mono D5.out.size))
        clear b4
        obtain ⟨w5, hrun5, ht5, hs5⟩ := PUT.out _ D6.out
        have HU := Lib.hid hrun5
        have TW5 := Lib.hid ht5
        have HS6 := Lib.hid hs5
        clear hrun5 ht5 hs5
        go_wp2_with fail
        refine hK9.out _ _ (HS5.out _ D6.out) (fun hHeld => ?_)
        clear hK9 K9
        try simp only [Act.put, List.setIfInBounds_toArray, List.set_cons_zero, List.set_cons_succ]
        refine wpAnyH_ready (rs := [11]) (by kernel_rfl) (by simp) ?_
        refine AllReadyH.cons (o := ⟨_, _, _, _, _, _⟩) rfl (fun K9 hK9 => ?_) AllReadyH.nil
        refine step_update rfl (.tmp 27) (.tmp 32) (.tmp 34) rfl rfl rfl rfl HU.out ?_
        refine hK9.out _ _ HS6.out (fun hHeld => ?_)
        clear hK9 K9
        simp only [Act.put]
        refine wpAnyH_done (by kernel_rfl) ?_ _
        clear hHeld
        go_wp2_with fail
        go_roundw
        case rel => exact ⟨k + 1, by omega, by go_num, TW5⟩
        case measure => first | (simp [RowKit.intOf]; done) | (simp [RowKit.intOf]; omega)
      · obtain rfl : k = ys.length := by omega
        go_wp2_with fail
        go_ret
        exact ⟨g2, _, rfl, hTw.out.done HI.out⟩
  · go_simp
    refine hK9.out _ _ (HS.out _ M0.out) (fun hHeld => ?_)
    clear hK9 K9
    try simp only [Act.put, List.setIfInBounds_toArray, List.set_cons_zero, List.set_cons_succ]
    refine wpAnyH_ready (rs := [1]) (by kernel_rfl) (by simp) ?_
    refine AllReadyH.cons (o := ⟨_, _, _, _, _, _⟩) rfl (fun K9 hK9 => ?_) AllReadyH.nil
    go_simp
    (with_reducible refine (all_y (HI.out.grow M0.out HI.out.size)).mono ?_)
    rintro e w1 ⟨A, ys, rfl, hys, ho, hfr, b1⟩
    have B1 := Lib.hid (M0.out.trans (b1.mono M0.out.size))
    have X1 := Lib.hid (twin_parts M0.out b1 hys ho hfr)
    have MP := Lib.hid ((IsMap.made W Value.string (Value.int .i64)).move (show w1.heap[W.heap.size]? = (W.alloc (.map #[] 0)).heap[W.heap.size]? from b1.block _ (by simp)))
    clear hys ho hfr b1
    go_wp2_with fail
    refine hK9.out _ _ (HS.out _ B1.out) (fun hHeld => ?_)
    clear hK9 K9
    try simp only [Act.put, List.setIfInBounds_toArray, List.set_cons_zero, List.set_cons_succ]
    refine wpAnyH_take (i := 7) (oi := ⟨_, _, _, _, _, _⟩) (v := ?_) rfl (by kernel_rfl) (by kernel_rfl) (by kernel_rfl) (fun _ _ _ h => h) (Or.inl ⟨by rfl, ?_⟩) (by assumption) ?_
    rotate_left
    · intro w' hSw; (try dsimp only at hSw); go_simp; (try with_reducible rfl)
    try simp only [Act.put, List.setIfInBounds_toArray, List.set_cons_zero, List.set_cons_succ]
    refine wpAnyH_ready (rs := [8]) (by kernel_rfl) (by simp) ?_
    refine AllReadyH.cons (o := ⟨_, _, _, _, _, _⟩) rfl (fun K9 hK9 => ?_) AllReadyH.nil
    go_simp
    refine hK9.out _ _ (HS.out _ (B1.out.alloc B1.out.size _)) (fun hHeld => ?_)
    clear hK9 K9
    try simp only [Act.put, List.setIfInBounds_toArray, List.set_cons_zero, List.set_cons_succ]
    refine wpAnyH_take (i := 9) (oi := ⟨_, _, _, _, _, _⟩) (v := ?_) rfl (by kernel_rfl) (by kernel_rfl) (by kernel_rfl) (fun _ _ _ h => h) (Or.inl ⟨by rfl, ?_⟩) (by assumption) ?_
    rotate_left
    · intro w' hSw; (try dsimp only at hSw); go_simp; (try with_reducible rfl)
    try simp only [Act.put, List.setIfInBounds_toArray, List.set_cons_zero, List.set_cons_succ]
    refine wpAnyH_done (by kernel_rfl) ?_ _
    clear hHeld
    have P0 := Lib.hid (twin_start2 B1.out X1.out MP.out nx rfl)
    clear B1 X1 hs0
    clear MP
    generalize hw2 : w1.alloc (.cells #[.slice A ys.length ys.length, .map (some W.heap.size), .int .i64 nx] 61) = w2 at *
    clear hw2
    generalize hg2 : w1.heap.size = g2 at *
    clear hg2
    generalize hm2 : W.heap.size = m2 at P0 ⊢
    clear hm2
    have q0 := block_cell (j := 0) P0.out.blk rfl
    go_wp2_with fail
    clear q0
    go_loopw [20] (fun i wr => ∃ k : Nat, k ≤ ys.length ∧ i = .int .i64 k ∧ Hid (Tw W wr g2 m2 A ys T nx k)) (fun i _ => (ys.length - (RowKit.intOf i).toNat))
    case atStart => exact ⟨0, by omega, rfl, P0⟩
    case round =>
      obtain ⟨k, hk, rfl, hTw⟩ := hrel
      clear P0
      have hyl := Lib.hid (show ys.length ≤ 1000 by have := congrArg List.length hTw.out.eq; rw [List.length_map] at this; have := HI.out.few; omega)
      by_cases hlt : k < ys.length
      · have hkI : (k : Int) < (ys.length : Int) := by omega
        have hyI : (ys.length : Int) ≤ 1000 := by have := hyl.out; omega
        obtain ⟨ad, rfl, _, c0, c1, c2⟩ := fs_at hTw.out.row hlt
        have q1 := block_cell (j := 1) hTw.out.blk rfl
        have hfy := hTw.out.fr ys[k] (List.getElem_mem hlt)
        have HTY := Lib.hid hfy.ts
        have hay := hfy.arg.mono (M := fun _ => False) (fun _ h => h.elim)
        have hput : ∀ w', Below wr.heap.size wr w' → _ := fun w' (h : Below wr.heap.size wr w') => (hTw.out.below h).put hlt HN.out
        generalize ys[k] = y at *
        obtain ⟨⟨y1, y2, y4⟩, y3, y5⟩ := y
        dsimp only at c0 c1 c2 HTY hay hput
        have hnw := heap_alloc_new wr (.cells #[.int .i64 y1, .string y2, .slice y3 y4.length y5] 55)
        have hb0 := (Below.refl wr.heap.size wr).alloc (Nat.le_refl _) (.cells #[.int .i64 y1, .string y2, .slice y3 y4.length y5] 55)
        have D5 : Hid (Below (wr.alloc (.cells #[.int .i64 y1, .string y2, .slice y3 y4.length y5] 55)).heap.size (wr.alloc (.cells #[.int .i64 y1, .string y2, .slice y3 y4.length y5] 55)) (wr.alloc (.cells #[.int .i64 y1, .string y2, .slice y3 y4.length y5] 55)).drew) := Lib.hid (Below.refl _ _).drew
        have HTW := Lib.hid (fun w' (h : Below (wr.alloc (.cells #[.int .i64 y1, .string y2, .slice y3 y4.length y5] 55)).heap.size (wr.alloc (.cells #[.int .i64 y1, .string y2, .slice y3 y4.length y5] 55)) w') => hTw.out.bel.trans ((hb0.trans (h.mono hb0.size)).mono hTw.out.bel.size))
        have HAY := Lib.hid (fun w' (h : Below (wr.alloc (.cells #[.int .i64 y1, .string y2, .slice y3 y4.length y5] 55)).heap.size (wr.alloc (.cells #[.int .i64 y1, .string y2, .slice y3 y4.length y5] 55)) w') => hay.below (hb0.trans (h.mono hb0.size)))
        have hgm : g2 ≠ m2 := by
          intro e
          obtain ⟨es, cl, hbm, _⟩ := hTw.out.map
          have h2 := hTw.out.blk
          rw [e, hbm] at h2
          cases h2
        have hml := hTw.out.map.lt
        have HS5 : Hid (∀ w', Below (wr.alloc (.cells #[.int .i64 y1, .string y2, .slice y3 y4.length y5] 55)).heap.size (wr.alloc (.cells #[.int .i64 y1, .string y2, .slice y3 y4.length y5] 55)) w' → (fun w' => w'.cell? ⟨g2, 1, none⟩ = some (.map (some m2)) ∧ w'.cell? ⟨wr.heap.size, 0, none⟩ = some (.int .i64 y1) ∧ w'.cell? ⟨wr.heap.size, 1, none⟩ = some (.string y2) ∧ w'.cell? ⟨wr.heap.size, 2, none⟩ = some (.slice y3 y4.length y5)) w') := Lib.hid (fun w' h => by
          have h1 := (h.block _ (by simp)).trans hnw
          have h2 := hTw.out.below (hb0.trans (h.mono hb0.size))
          exact ⟨block_cell h2.blk rfl, block_cell h1 rfl, block_cell h1 rfl, block_cell h1 rfl⟩)
        have PUT : Hid (∀ w', Below (wr.alloc (.cells #[.int .i64 y1, .string y2, .slice y3 y4.length y5] 55)).heap.size (wr.alloc (.cells #[.int .i64 y1, .string y2, .slice y3 y4.length y5] 55)) w' → ∃ w2, (Instr.mapUpdate 59 (.map (some m2)) (.string (keyB y2 y4)) (.int .i64 y1)).run Tryd.prog w' = .ok () w2 ∧ Tw W w2 g2 m2 (some ad) ys T nx (k + 1) ∧ (fun w' => w'.cell? ⟨g2, 1, none⟩ = some (.map (some m2)) ∧ w'.cell? ⟨wr.heap.size, 0, none⟩ = some (.int .i64 y1) ∧ w'.cell? ⟨wr.heap.size, 1, none⟩ = some (.string y2) ∧ w'.cell? ⟨wr.heap.size, 2, none⟩ = some (.slice y3 y4.length y5)) w2) := Lib.hid (fun w' h => by
          obtain ⟨w5, hrun, ht, hk5⟩ := hput w' (hb0.trans (h.mono hb0.size))
          have h1 := (hk5.block wr.heap.size (by have := h.size; simp at this; omega) (by omega)).trans ((h.block _ (by simp)).trans hnw)
          exact ⟨w5, hrun, ht, block_cell ht.blk rfl, block_cell h1 rfl, block_cell h1 rfl, block_cell h1 rfl⟩)
        clear hnw hb0 hput hml hgm hay hfy
        go_wp2_with fail
        generalize hfb : wr.heap.size = fb at *
        clear hfb
        generalize hw3 : wr.alloc (.cells #[.int .i64 y1, .string y2, .slice y3 y4.length y5] 55) = w3 at *
        clear hw3 c0 c1 c2 q1
        refine wp_region_held_drew (S := (fun w' => w'.cell? ⟨g2, 1, none⟩ = some (.map (some m2)) ∧ w'.cell? ⟨fb, 0, none⟩ = some (.int .i64 y1) ∧ w'.cell? ⟨fb, 1, none⟩ = some (.string y2) ∧ w'.cell? ⟨fb, 2, none⟩ = some (.slice y3 y4.length y5))) (by kernel_rfl) (HS5.out _ D5.out) (fun hHeld => ?_)
        refine wpAnyH_take (i := 0) (oi := ⟨_, _, _, _, _, _⟩) (v := ?_) rfl (by kernel_rfl) (by kernel_rfl) (by kernel_rfl) (fun _ _ _ h => h) (Or.inl ⟨by rfl, ?_⟩) (by assumption) ?_
        rotate_left
        · intro w' hSw; (try dsimp only at hSw); go_simp; (try with_reducible rfl)
        try simp only [Act.put, List.setIfInBounds_toArray, List.set_cons_zero, List.set_cons_succ]
        refine wpAnyH_take (i := 1) (oi := ⟨_, _, _, _, _, _⟩) (v := ?_) rfl (by kernel_rfl) (by kernel_rfl) (by kernel_rfl) (fun _ _ _ h => h) (Or.inl ⟨by rfl, ?_⟩) (by assumption) ?_
        rotate_left
        · intro w' hSw; (try dsimp only at hSw); go_simp; (try with_reducible rfl)
        try simp only [Act.put, List.setIfInBounds_toArray, List.set_cons_zero, List.set_cons_succ]
        refine wpAnyH_take (i := 2) (oi := ⟨_, _, _, _, _, _⟩) (v := ?_) rfl (by kernel_rfl) (by kernel_rfl) (by kernel_rfl) (fun _ _ _ h => h) (Or.inl ⟨by rfl, ?_⟩) (by assumption) ?_
        rotate_left
        · intro w' hSw; (try dsimp only at hSw); go_simp; (try with_reducible rfl)
        try simp only [Act.put, List.setIfInBounds_toArray, List.set_cons_zero, List.set_cons_succ]
        refine wpAnyH_take (i := 3) (oi := ⟨_, _, _, _, _, _⟩) (v := ?_) rfl (by kernel_rfl) (by kernel_rfl) (by kernel_rfl) (fun _ _ _ h => h) (Or.inl ⟨by rfl, ?_⟩) (by assumption) ?_
        rotate_left
        · intro w' hSw; (try dsimp only at hSw); go_simp; (try with_reducible rfl)
        try simp only [Act.put, List.setIfInBounds_toArray, List.set_cons_zero, List.set_cons_succ]
        refine wpAnyH_take (i := 4) (oi := ⟨_, _, _, _, _, _⟩) (v := ?_) rfl (by kernel_rfl) (by kernel_rfl) (by kernel_rfl) (fun _ _ _ h => h) (Or.inl ⟨by rfl, ?_⟩) (by assumption) ?_
        rotate_left
        · intro w' hSw; (try dsimp only at hSw); go_simp; (try with_reducible rfl)
        try simp only [Act.put, List.setIfInBounds_toArray, List.set_cons_zero, List.set_cons_succ]
        refine wpAnyH_take (i := 5) (oi := ⟨_, _, _, _, _, _⟩) (v := ?_) rfl (by kernel_rfl) (by kernel_rfl) (by kernel_rfl) (fun _ _ _ h => h) (Or.inl ⟨by rfl, ?_⟩) (by assumption) ?_
        rotate_left
        · intro w' hSw; (try dsimp only at hSw); go_simp; (try with_reducible rfl)
        try simp only [Act.put, List.setIfInBounds_toArray, List.set_cons_zero, List.set_cons_succ]
        refine wpAnyH_take (i := 6) (oi := ⟨_, _, _, _, _, _⟩) (v := ?_) rfl (by kernel_rfl) (by kernel_rfl) (by kernel_rfl) (fun _ _ _ h => h) (Or.inl ⟨by rfl, ?_⟩) (by assumption) ?_
        rotate_left
        · intro w' hSw; (try dsimp only at hSw); go_simp; (try with_reducible rfl)
        try simp only [Act.put, List.setIfInBounds_toArray, List.set_cons_zero, List.set_cons_succ]
        refine wpAnyH_take (i := 7) (oi := ⟨_, _, _, _, _, _⟩) (v := ?_) rfl (by kernel_rfl) (by kernel_rfl) (by kernel_rfl) (fun _ _ _ h => h) (Or.inl ⟨by rfl, ?_⟩) (by assumption) ?_
        rotate_left
        · intro w' hSw; (try dsimp only at hSw); go_simp; (try with_reducible rfl)
        try simp only [Act.put, List.setIfInBounds_toArray, List.set_cons_zero, List.set_cons_succ]
        refine wpAnyH_take (i := 9) (oi := ⟨_, _, _, _, _, _⟩) (v := ?_) rfl (by kernel_rfl) (by kernel_rfl) (by kernel_rfl) (fun _ _ _ h => h) (Or.inl ⟨by rfl, ?_⟩) (by assumption) ?_
        rotate_left
        · intro w' hSw; (try dsimp only at hSw); go_simp; (try with_reducible rfl)
        try simp only [Act.put, List.setIfInBounds_toArray, List.set_cons_zero, List.set_cons_succ]
        refine wpAnyH_take (i := 10) (oi := ⟨_, _, _, _, _, _⟩) (v := ?_) rfl (by kernel_rfl) (by kernel_rfl) (by kernel_rfl) (fun _ _ _ h => h) (Or.inl ⟨by rfl, ?_⟩) (by assumption) ?_
        rotate_left
        · intro w' hSw; (try dsimp only at hSw); go_simp; (try with_reducible rfl)
        try simp only [Act.put, List.setIfInBounds_toArray, List.set_cons_zero, List.set_cons_succ]
        refine wpAnyH_ready (rs := [8]) (by kernel_rfl) (by simp) ?_
        refine AllReadyH.cons (o := ⟨_, _, _, _, _, _⟩) rfl (fun K9 hK9 => ?_) AllReadyH.nil
        go_simp
        (with_reducible refine (key_c y2 HTY.out y3 y5 y4 _ (HAY.out _ D5.out) (HT.out _ (HTW.out _ D5.out))).mono ?_)
        rintro e w4 ⟨rfl, b4⟩
        have D6 := Lib.hid (D5.out.trans (b4.mono D5.out.size))
        clear b4
        obtain ⟨w5, hrun5, ht5, hs5⟩ := PUT.out _ D6.out
        have HU := Lib.hid hrun5
        have TW5 := Lib.hid ht5
        have HS6 := Lib.hid hs5
        clear hrun5 ht5 hs5
        go_wp2_with fail
        refine hK9.out _ _ (HS5.out _ D6.out) (fun hHeld => ?_)
        clear hK9 K9
        try simp only [Act.put, List.setIfInBounds_toArray, List.set_cons_zero, List.set_cons_succ]
        refine wpAnyH_ready (rs := [11]) (by kernel_rfl) (by simp) ?_
        refine AllReadyH.cons (o := ⟨_, _, _, _, _, _⟩) rfl (fun K9 hK9 => ?_) AllReadyH.nil
        refine step_update rfl (.tmp 27) (.tmp 32) (.tmp 34) rfl rfl rfl rfl HU.out ?_
        refine hK9.out _ _ HS6.out (fun hHeld => ?_)
        clear hK9 K9
        simp only [Act.put]
        refine wpAnyH_done (by kernel_rfl) ?_ _
        clear hHeld
        go_wp2_with fail
        go_roundw
        case rel => exact ⟨k + 1, by omega, by go_num, TW5⟩
        case measure => first | (simp [RowKit.intOf]; done) | (simp [RowKit.intOf]; omega)
      · obtain rfl : k = ys.length := by omega
        go_wp2_with fail
        go_ret
        exact ⟨g2, _, rfl, hTw.out.done HI.out⟩
end Go.Proofs.YtoaepnidlddmjaaDoor
