/- tms.Table: Support. -/
import Derived.Test.YtonflknnlfffhaaUh
namespace Go.Proofs.Ytonflknnlfffhaa
open Go.RowKit Go.Lib KP MR RW
/-- Whether a support is there, asked of ContainsFunc by is(w). -/
theorem has_c (A : Option Addr) (c b : Nat) (L : List Wf) (y : Wf) (W : World) (hI : RowsAt whyc 3 (fun _ => False) W A L) (hL : ∀ x ∈ L, ArgY W x) (hy : ArgY W y) (hb : ∀ j v, (whyc y)[j]? = some v → W.cell? ⟨b, j, none⟩ = some v) (hl : L.length ≤ 100000) :
    Calls Try.prog 45 #[.slice A L.length c, .func (.func 59) #[] #[.pointer (some ⟨b, 0, none⟩)]] W fun e w' => e = .returned (.bool (L.any fun x => decide (x.1 = y.1))) ∧ Below W.heap.size W w' :=
  contains_c A c b L (fun x => decide (x.1 = y.1)) (fun W' => (∀ x ∈ L, ArgY W' x) ∧ ArgY W' y ∧ ∀ j v, (whyc y)[j]? = some v → W'.cell? ⟨b, j, none⟩ = some v) W hI ⟨hL, hy, hb⟩
    (fun _ _ h hbl => ⟨fun x hx => (h.1 x hx).below hbl, h.2.1.below hbl, fun j v hv => (hbl.cell (p := ⟨b, j, none⟩) (World.block_lt_of_cell? _ _ (h.2.2 j v hv))).trans (h.2.2 j v hv)⟩)
    (fun W' x hx h => is1_c b x y W' (h.1 x hx) h.2.1 h.2.2) hl
theorem is_o (y : Wf) (W : World) : Calls Try.prog 46 #[y.val] W fun e w' => ∃ b, e = .returned (.func (.func 59) #[] #[.pointer (some ⟨b, 0, none⟩)]) ∧ (∀ j v, (whyc y)[j]? = some v → w'.cell? ⟨b, j, none⟩ = some v) ∧ Below W.heap.size W w' := by
  refine (is_c y W).mono ?_
  rintro e w' ⟨rfl, rfl⟩
  exact ⟨W.heap.size, rfl, fun j v hv => block_cell (heap_alloc_new W _) (by simpa using hv), (Below.refl _ _).alloc (Nat.le_refl _) _⟩
theorem any_mem (L : List Wf) (y : Wf) : (L.any fun x => decide (x.1 = y.1)) = decide (y.1 ∈ L.map (·.1)) := by
  rw [Bool.eq_iff_iff, List.any_eq_true, decide_eq_true_iff, List.mem_map]
  constructor
  · rintro ⟨x, hx, e⟩; exact ⟨x, hx, of_decide_eq_true e⟩
  · rintro ⟨x, hx, e⟩; exact ⟨x, hx, decide_eq_true e⟩
theorem has_r (r : Bool) (A : Option Addr) (c b : Nat) (L : List Wf) (y : Wf) (W : World) (hr : r = decide (y.1 ∈ L.map (·.1))) (hI : RowsAt whyc 3 (fun _ => False) W A L) (hL : ∀ x ∈ L, ArgY W x) (hy : ArgY W y) (hb : ∀ j v, (whyc y)[j]? = some v → W.cell? ⟨b, j, none⟩ = some v) (hl : L.length ≤ 100000) :
    Calls Try.prog 45 #[.slice A L.length c, .func (.func 59) #[] #[.pointer (some ⟨b, 0, none⟩)]] W fun e w' => e = .returned (.bool r) ∧ Below W.heap.size W w' := by
  rw [hr, ← any_mem]
  exact has_c A c b L y W hI hL hy hb hl
abbrev Pl := List (Int × Bool × List Wy)
/-- A table, plainly. -/
def pl (N : Tb) : Pl := N.map fun p => (p.1, p.2.free, p.2.ls.map (·.1))
def lsP (P : Pl) (id : Int) : List Wy := ((P.find? fun p => decide (p.1 = id)).map (·.2.2)).getD []
def ofP (P : Pl) (id : Int) : Pl := if P.any (fun p => decide (p.1 = id)) then P else P ++ [(id, false, [])]
def freeP (P : Pl) (id : Int) : Pl := (ofP P id).map fun p => if p.1 = id then (p.1, true, p.2.2) else p
def supP (P : Pl) (id : Int) (w : Wy) : Pl := if w ∈ lsP P id then ofP P id else (ofP P id).map fun p => if p.1 = id then (p.1, p.2.1, p.2.2 ++ [w]) else p
def supC (P : Pl) (C : List Wy) (id : Int) (w : Wy) : List Wy := if w ∈ lsP P id then C else if w ∈ C then C else C ++ [w]
theorem pl_setR (N : Tb) (id : Int) (f : Bool) (v : Value) (ls : List Wf) : pl (setR N id f v ls) = (pl N).map fun p => if p.1 = id then (p.1, f, ls.map (·.1)) else p := by
  unfold pl setR
  rw [List.map_map, List.map_map]
  refine List.map_congr_left (fun p _ => ?_)
  simp only [Function.comp_apply]
  by_cases e : p.1 = id
  · simp [e]
  · simp [e]
theorem pl_of {N N' : Tb} {id : Int} {nd : Rd} (hl : lk N' id = some nd) (hn : N' = N ∨ (lk N id = none ∧ ∃ b, nd = ⟨b, false, .slice none 0 0, []⟩ ∧ N' = N ++ [(id, nd)])) : pl N' = ofP (pl N) id ∧ nd.ls.map (·.1) = lsP (pl N) id := by
  rcases hn with rfl | ⟨h0, b, rfl, rfl⟩
  · have hm := lk_some hl
    refine ⟨?_, ?_⟩
    · unfold ofP
      rw [if_pos]
      rw [List.any_eq_true]
      exact ⟨_, List.mem_map.2 ⟨_, hm, rfl⟩, by simp⟩
    · unfold lsP pl
      unfold lk at hl
      rw [List.find?_map]
      rw [Option.map_eq_some_iff] at hl
      obtain ⟨p, hp, rfl⟩ := hl
      have e : ((fun p : Int × Bool × List Wy => decide (p.1 = id)) ∘ fun p : Int × Rd => (p.1, p.2.free, p.2.ls.map (·.1))) = fun p : Int × Rd => decide (p.1 = id) := rfl
      rw [e, hp]
      rfl
  · have hno : ∀ p ∈ N, ¬ p.1 = id := lk_none h0
    refine ⟨?_, ?_⟩
    · unfold ofP
      rw [if_neg]
      · simp [pl]
      · rw [List.any_eq_true]
        rintro ⟨q, hq, e⟩
        obtain ⟨p, hp, rfl⟩ := List.mem_map.1 hq
        exact hno p hp (by simpa using e)
    · unfold lsP pl
      have e : ((fun p : Int × Bool × List Wy => decide (p.1 = id)) ∘ fun p : Int × Rd => (p.1, p.2.free, p.2.ls.map (·.1))) = fun p : Int × Rd => decide (p.1 = id) := rfl
      rw [List.find?_map, e, List.find?_eq_none.2 (fun p hp => by simpa using hno p hp)]
      rfl
section
variable {B : Nat} {F : Nat → Prop} {g m : Nat} {cv v9 : Value} {cs : List Wf} {N : Tb} {W w8 : World} {id : Int} {nd : Rd} {z : Wf}
/-- A support more in a row. -/
theorem TS.addL (h : TS B F g m cv cs N W) (hl : lk N id = some nd) (KZ : Keep (fun k => nd.lv.ownBlock = some k) W w8) (OV : OwnW w8 B 50 3 v9 (nd.ls.length + 1) ((nd.ls ++ [z]).flatMap whyc)) (HV : v9.ownBlock = nd.lv.ownBlock ∨ ∀ k, v9.ownBlock = some k → W.heap.size ≤ k)
    (OZ : OwnI w8 W.heap.size z.sl z.1.2.2) (hz : z.1.2.2.length ≤ 1000) (hls : nd.ls.length ≤ 9000) :
    ∃ F', TS B F' g m cv cs (Go.Proofs.Ytonflknnlfffhaa.setR N id nd.free v9 (nd.ls ++ [z])) (w8.setCell ⟨nd.b, 1, none⟩ v9) ∧ (∀ k, F k → F' k) ∧ (∀ k, F' k → F k ∨ W.heap.size ≤ k) ∧ Keep F W (w8.setCell ⟨nd.b, 1, none⟩ v9) := by
  have hmem := lk_some hl
  have hB : B ≤ W.heap.size := by have := h.lt g h.Fg; omega
  have g8 := (KZ.block nd.b (h.lt _ (h.Fb _ hmem)).2 (fun e => h.vb hmem hmem e)).trans (h.node _ hmem)
  dsimp only at g8
  have kb : Keep (fun k => k = nd.b) w8 (w8.setCell ⟨nd.b, 1, none⟩ v9) := (Keep.refl (fun k => k = nd.b) w8).setCell (p := ⟨nd.b, 1, none⟩) (.inl rfl) _
  have k9 : Keep (fun k => k = nd.b ∨ nd.lv.ownBlock = some k) W (w8.setCell ⟨nd.b, 1, none⟩ v9) := (KZ.mono (fun k hk => .inr hk)).trans kb (fun k hk => .inl (.inl hk))
  have OV' : OwnY w8 B v9 (nd.ls ++ [z]) := by unfold OwnY; rw [List.length_append]; exact OV
  have hvb : v9.ownBlock ≠ some nd.b := OV'.ne g8 (by decide)
  have O9 : OwnY (w8.setCell ⟨nd.b, 1, none⟩ v9) B v9 (nd.ls ++ [z]) := OV'.keep kb (fun k hk e => hvb (by rw [← e]; exact hk))
  have hv' : ∀ k, v9.ownBlock = some k → nd.lv.ownBlock = some k ∨ W.heap.size ≤ k := fun k hk => by
    rcases HV with e | e
    · left; rw [← e]; exact hk
    · exact .inr (e k hk)
  have hzb : z.sl.ownBlock ≠ some nd.b := OZ.ne g8 (by decide)
  have Z9 : OwnI (w8.setCell ⟨nd.b, 1, none⟩ v9) W.heap.size z.sl z.1.2.2 := OZ.keep kb (fun k hk e => hzb (by rw [← e]; exact hk))
  refine ⟨fun k => F k ∨ (W.heap.size ≤ k ∧ k < (w8.setCell ⟨nd.b, 1, none⟩ v9).heap.size), h.setR hl k9 (by have := block_set g8 (j := 1) v9; simpa using this) O9 hv' (fun k hF => .inl hF) (fun k hk => (hv' k hk).imp (fun h1 => h.Fl _ hmem k h1) (fun h1 => ⟨h1, (O9.lt hk).2⟩)) (fun k hk => hk) (by simp; omega) hB (fun x hx => ?_), fun k hF => .inl hF, fun k hk => hk.imp (fun h => h) (fun h => h.1), ?_⟩
  · rcases List.mem_append.1 hx with hx | hx
    · exact .inl hx
    · rw [List.mem_singleton.1 hx]
      exact .inr ⟨Z9.mono hB, hz, fun k hk => .inr (Z9.lt hk)⟩
  · exact k9.mono (fun k hk => by rcases hk with rfl | hk; exact h.Fb _ hmem; exact h.Fl _ hmem k hk)
/-- A support more among all that came. -/
theorem TS.addC (h : TS B F g m cv cs N W) (KZ : Keep (fun k => cv.ownBlock = some k) W w8) (OV : OwnW w8 B 50 3 v9 (cs.length + 1) ((cs ++ [z]).flatMap whyc)) (HV : v9.ownBlock = cv.ownBlock ∨ ∀ k, v9.ownBlock = some k → W.heap.size ≤ k)
    (OZ : OwnI w8 W.heap.size z.sl z.1.2.2) (hz : z.1.2.2.length ≤ 1000) (hcs : cs.length ≤ 9000) :
    ∃ F', TS B F' g m v9 (cs ++ [z]) N (w8.setCell ⟨g, 1, none⟩ v9) ∧ (∀ k, F k → F' k) ∧ (∀ k, F' k → F k ∨ W.heap.size ≤ k) ∧ Keep F W (w8.setCell ⟨g, 1, none⟩ v9) := by
  have hB : B ≤ W.heap.size := by have := h.lt g h.Fg; omega
  have g8 := (KZ.block g (h.lt _ h.Fg).2 (fun e => h.cg e)).trans h.blk
  have kb : Keep (fun k => k = g) w8 (w8.setCell ⟨g, 1, none⟩ v9) := (Keep.refl (fun k => k = g) w8).setCell (p := ⟨g, 1, none⟩) (.inl rfl) _
  have k9 : Keep (fun k => k = g ∨ cv.ownBlock = some k) W (w8.setCell ⟨g, 1, none⟩ v9) := (KZ.mono (fun k hk => .inr hk)).trans kb (fun k hk => .inl (.inl hk))
  have OV' : OwnY w8 B v9 (cs ++ [z]) := by unfold OwnY; rw [List.length_append]; exact OV
  have hvb : v9.ownBlock ≠ some g := OV'.ne g8 (by decide)
  have O9 : OwnY (w8.setCell ⟨g, 1, none⟩ v9) B v9 (cs ++ [z]) := OV'.keep kb (fun k hk e => hvb (by rw [← e]; exact hk))
  have hv' : ∀ k, v9.ownBlock = some k → cv.ownBlock = some k ∨ W.heap.size ≤ k := fun k hk => by
    rcases HV with e | e
    · left; rw [← e]; exact hk
    · exact .inr (e k hk)
  have hzb : z.sl.ownBlock ≠ some g := OZ.ne g8 (by decide)
  have Z9 : OwnI (w8.setCell ⟨g, 1, none⟩ v9) W.heap.size z.sl z.1.2.2 := OZ.keep kb (fun k hk e => hzb (by rw [← e]; exact hk))
  refine ⟨fun k => F k ∨ (W.heap.size ≤ k ∧ k < (w8.setCell ⟨g, 1, none⟩ v9).heap.size), h.setC k9 (by have := block_set g8 (j := 1) v9; simpa using this) O9 hv' (fun k hF => .inl hF) (fun k hk => (hv' k hk).imp (fun h1 => h.Fcv k h1) (fun h1 => ⟨h1, (O9.lt hk).2⟩)) (fun k hk => hk) (by simp; omega) hB (fun x hx => ?_), fun k hF => .inl hF, fun k hk => hk.imp (fun h => h) (fun h => h.1), ?_⟩
  · rcases List.mem_append.1 hx with hx | hx
    · exact .inl hx
    · rw [List.mem_singleton.1 hx]
      exact .inr ⟨Z9.mono hB, hz, fun k hk => .inr (Z9.lt hk)⟩
  · exact k9.mono (fun k hk => by rcases hk with rfl | hk; exact h.Fg; exact h.Fcv k hk)
end
theorem pl_add {N : Tb} {id : Int} {nd : Rd} (v : Value) (z : Wf) (ho : ∀ p ∈ N, p.1 = id → p = (id, nd)) : pl (setR N id nd.free v (nd.ls ++ [z])) = (pl N).map fun p => if p.1 = id then (p.1, p.2.1, p.2.2 ++ [z.1]) else p := by
  rw [pl_setR]
  refine List.map_congr_left (fun p hp => ?_)
  obtain ⟨q, hq, rfl⟩ := List.mem_map.1 hp
  by_cases e : q.1 = id
  · obtain rfl := ho q hq e
    simp
  · simp [e]
theorem cutW {P Fa : World → Wf → Option Addr → Nat → Nat → Prop} {G : Prop} (h1 : (∀ w z A c b, Fa w z A c b → P w z A c b) → G) (h2 : ∀ w z A c b, Fa w z A c b → P w z A c b) : G := h1 h2
def SupR (B : Nat) (F : Nat → Prop) (g m : Nat) (cs : List Wf) (N : Tb) (id : Int) (y : Wf) (W w' : World) : Prop :=
  ∃ F' cv' cs' N', TS B F' g m cv' cs' N' w' ∧ pl N' = supP (pl N) id y.1 ∧ cs'.map (·.1) = supC (pl N) (cs.map (·.1)) id y.1 ∧ (∀ k, F k → F' k) ∧ (∀ k, F' k → F k ∨ W.heap.size ≤ k) ∧ Keep F W w'
section
variable {B : Nat} {F : Nat → Prop} {g m : Nat} {cv : Value} {cs : List Wf} {N : Tb} {W : World} {id : Int}
set_option maxRecDepth 100000 in
set_option maxHeartbeats 8000000 in
theorem support_c (y : Wf) (h : TS B F g m cv cs N W) (hy : ArgY W y) (hyn : IntsAt F W y.2.1 y.1.2.2) (hid : (Lit.int .i64 id).wf = true) (hf : N.length ≤ 900) (hlf : ∀ p ∈ N, p.2.ls.length ≤ 9000) (hcf : cs.length ≤ 9000) :
    Calls Try.prog 21 #[.pointer (some ⟨g, 0, none⟩), .int .i64 id, y.val] W fun e w' => e = .returned (.tuple #[]) ∧ SupR B F g m cs N id y W w' := by
  obtain ⟨i0, hi, hz0, hz1, hz2⟩ := info_parts infoW
  obtain ⟨⟨y1, y2, y3⟩, yA, yc⟩ := y
  have DA := Lib.hid ((Below.refl W.heap.size W).alloc (Nat.le_refl _) (.cells (whyc ((y1, y2, y3), yA, yc)).toArray 50))
  have TA := Lib.hid (h.grow DA.out)
  have HO := Lib.hid (of_c TA.out hid hf)
  have HARGW := Lib.hid (fun w' (hb : Below (W.alloc (.cells (whyc ((y1, y2, y3), yA, yc)).toArray 50)).heap.size (W.alloc (.cells (whyc ((y1, y2, y3), yA, yc)).toArray 50)) w') => hy.below (DA.out.trans (hb.mono DA.out.size)))
  have HBX := heap_alloc_new W (.cells (whyc ((y1, y2, y3), yA, yc)).toArray 50)
  have HFX : Hid (¬ F W.heap.size) := Lib.hid (fun hF => by have := (h.lt _ hF).2; omega)
  have HB0 : Hid (B ≤ W.heap.size) := Lib.hid (by have := h.lt g h.Fg; omega)
  have HLT : Hid (∀ k, F k → k < W.heap.size) := Lib.hid (fun k hF => (h.lt k hF).2)
  have HLF := Lib.hid hlf; have HYF := Lib.hid (show y3.length ≤ 1000 from hy.few)
  have HYK : Hid (∀ (G : Nat → Prop) (w' : World), (∀ k, G k → F k ∨ W.heap.size ≤ k) → Keep G W w' → ArgY w' ((y1, y2, y3), yA, yc)) := Lib.hid (fun G w' hG hk => ⟨((RowsAt.old intc_len (by decide) hyn).keep hk hG).mono (fun _ h => h.elim), hy.nil, hy.few⟩)
  clear h hy hlf hyn
  go_enter Try.func21, Try.ntmps21
  go_wp2_with fail
  refine HO.out.mono ?_
  rintro e w1 ⟨F1, N1, nd, rfl, t1, l1, n1, f1, f2, k1⟩
  have HX : Hid ((fun w' : World => w'.cell? ⟨W.heap.size, 0, none⟩ = some (.int .i64 y1) ∧ w'.cell? ⟨W.heap.size, 1, none⟩ = some (.int .i64 y2) ∧ w'.cell? ⟨W.heap.size, 2, none⟩ = some (.slice yA y3.length yc)) w1) := Lib.hid ⟨k1.cell (block_cell (j := 0) HBX rfl) HFX.out, k1.cell (block_cell (j := 1) HBX rfl) HFX.out, k1.cell (block_cell (j := 2) HBX rfl) HFX.out⟩
  have HKA : Hid (Keep F W w1) := Lib.hid ((Keep.of_below DA.out F).trans k1 (fun k hk => .inl hk))
  have HFW : Hid (∀ k, F1 k → F k ∨ W.heap.size + 1 ≤ k) := Lib.hid (fun k hk => (f2 k hk).imp (fun h => h) (fun h => by simpa using h))
  have HNX : Hid (¬ F1 W.heap.size) := Lib.hid (fun hF => (HFW.out _ hF).elim HFX.out (fun h => by omega))
  have hmem := lk_some l1
  have hnode := t1.node _ hmem
  obtain ⟨A, c, ev, -, hA, -⟩ := OwnY.row (t1.own _ hmem)
  dsimp only at hnode ev
  rw [ev] at hnode
  have HC0 := Lib.hid (block_cell (j := 1) hnode rfl)
  have HROW : Hid (∀ w', Below w1.heap.size w1 w' → RowsAt whyc 3 (fun _ => False) w' A nd.ls) := Lib.hid (fun w' hb => by
    obtain ⟨A', c', ev', hr, _, _⟩ := OwnY.row ((t1.grow hb).own _ hmem)
    dsimp only at ev'
    rw [ev] at ev'
    injection ev' with e1 _ _
    rw [e1]; exact hr)
  have HARGS : Hid (∀ w', Below w1.heap.size w1 w' → ∀ x ∈ nd.ls, ArgY w' x) := Lib.hid (fun w' hb x hx => ((t1.grow hb).facts x (.inr ⟨_, hmem, hx⟩)).arg)
  have HARG : Hid (∀ w', Below w1.heap.size w1 w' → ArgY w' ((y1, y2, y3), yA, yc)) := Lib.hid (fun w' hb => by
    exact HYK.out F w' (fun k hk => .inl hk) (HKA.out.trans (Keep.of_below hb F) (fun k hk => .inl hk)))
  obtain ⟨r1, HR⟩ : ∃ r, Hid (r = decide (((y1, y2, y3), yA, yc).1 ∈ nd.ls.map (·.1))) := ⟨_, Lib.hid rfl⟩
  have hlsl : nd.ls.length ≤ 9000 := by
    rcases n1 with rfl | ⟨_, b, rfl, _⟩
    · exact HLF.out _ hmem
    · exact Nat.zero_le _
  have T1 := Lib.hid t1
  obtain ⟨p1, p2⟩ := pl_of l1 n1
  have P1 := Lib.hid p1; have P2 := Lib.hid p2; have L1 := Lib.hid l1; have F1F := Lib.hid f1; have EV := Lib.hid ev
  clear k1 f2 hnode ev hA t1 n1 l1 f1 p1 p2
  go_wp2_with fail
  have HS2 : Hid (∀ w', Below w1.heap.size w1 w' → (fun w' : World => w'.cell? ⟨nd.b, 1, none⟩ = some (.slice A nd.ls.length c) ∧ w'.cell? ⟨W.heap.size, 0, none⟩ = some (.int .i64 y1) ∧ w'.cell? ⟨W.heap.size, 1, none⟩ = some (.int .i64 y2) ∧ w'.cell? ⟨W.heap.size, 2, none⟩ = some (.slice yA y3.length yc)) w') := Lib.hid (fun w' hb => ⟨(hb.cell (World.block_lt_of_cell? _ _ HC0.out)).trans HC0.out, (hb.cell (World.block_lt_of_cell? _ _ HX.out.1)).trans HX.out.1, (hb.cell (World.block_lt_of_cell? _ _ HX.out.2.1)).trans HX.out.2.1, (hb.cell (World.block_lt_of_cell? _ _ HX.out.2.2)).trans HX.out.2.2⟩)
  have ED := Lib.hid (((Below.refl w1.heap.size w1).drew))
  refine wp_region_held_drew (S := (fun w' : World => w'.cell? ⟨nd.b, 1, none⟩ = some (.slice A nd.ls.length c) ∧ w'.cell? ⟨W.heap.size, 0, none⟩ = some (.int .i64 y1) ∧ w'.cell? ⟨W.heap.size, 1, none⟩ = some (.int .i64 y2) ∧ w'.cell? ⟨W.heap.size, 2, none⟩ = some (.slice yA y3.length yc))) (by kernel_rfl) (HS2.out _ ED.out) (fun hHeld => ?_)
  refine wpAnyH_take (i := 0) (oi := ⟨_, _, _, _, _, _⟩) (v := ?_) rfl (by kernel_rfl) (by kernel_rfl) (by kernel_rfl) (fun _ _ _ h => h) (Or.inl ⟨by rfl, ?_⟩) (by assumption) ?_
  rotate_left
  · intro w' hSw; (try dsimp only at hSw); go_simp; (try with_reducible rfl)
  try simp only [Act.put, List.setIfInBounds_toArray, List.set_cons_zero, List.set_cons_succ]
  refine wpAnyH_take (i := 1) (oi := ⟨_, _, _, _, _, _⟩) (v := ?_) rfl (by kernel_rfl) (by kernel_rfl) (by kernel_rfl) (fun _ _ _ h => h) (Or.inl ⟨by rfl, ?_⟩) (by assumption) ?_
  rotate_left
  · intro w' hSw; (try dsimp only at hSw); go_simp; (try with_reducible rfl)
  try simp only [Act.put, List.setIfInBounds_toArray, List.set_cons_zero, List.set_cons_succ]
  refine wpAnyH_take (i := 2) (oi := ⟨_, _, _, _, _, _⟩) (v := ?_) rfl (by kernel_rfl) (by kernel_rfl) (by kernel_rfl) (fun _ _ _ h => h) (Or.inl ⟨by rfl, ?_⟩) (by assumption) ?_
  rotate_left
  · intro w' hSw; (try dsimp only at hSw); go_simp; (try with_reducible rfl)
  try simp only [Act.put, List.setIfInBounds_toArray, List.set_cons_zero, List.set_cons_succ]
  refine wpAnyH_take (i := 3) (oi := ⟨_, _, _, _, _, _⟩) (v := ?_) rfl (by kernel_rfl) (by kernel_rfl) (by kernel_rfl) (fun _ _ _ h => h) (Or.inl ⟨by rfl, ?_⟩) (by assumption) ?_
  rotate_left
  · intro w' hSw; (try dsimp only at hSw); go_simp; (try with_reducible rfl)
  try simp only [Act.put, List.setIfInBounds_toArray, List.set_cons_zero, List.set_cons_succ]
  refine wpAnyH_take (i := 4) (oi := ⟨_, _, _, _, _, _⟩) (v := ?_) rfl (by kernel_rfl) (by kernel_rfl) (by kernel_rfl) (fun _ _ _ h => h) (Or.inl ⟨by rfl, ?_⟩) (by assumption) ?_
  rotate_left
  · intro w' hSw; (try dsimp only at hSw); go_simp; (try with_reducible rfl)
  try simp only [Act.put, List.setIfInBounds_toArray, List.set_cons_zero, List.set_cons_succ]
  refine wpAnyH_ready (rs := [5]) (by kernel_rfl) (by simp) ?_
  refine AllReadyH.cons (o := ⟨_, _, _, _, _, _⟩) rfl (fun K9 hK9 => ?_) AllReadyH.nil
  go_simp
  (with_reducible refine (is_o ((y1, y2, y3), yA, yc) _).mono ?_)
  rintro e p1 ⟨b1, rfl, hb1, bb1⟩
  have E1 := Lib.hid (ED.out.trans (bb1.mono ED.out.size))
  have HB1 := Lib.hid hb1
  clear bb1 hb1
  go_wp2_with fail
  refine hK9.out _ _ (HS2.out _ E1.out) (fun hHeld => ?_)
  clear hK9 K9
  try simp only [Act.put, List.setIfInBounds_toArray, List.set_cons_zero, List.set_cons_succ]
  refine wpAnyH_ready (rs := [6]) (by kernel_rfl) (by simp) ?_
  refine AllReadyH.cons (o := ⟨_, _, _, _, _, _⟩) rfl (fun K9 hK9 => ?_) AllReadyH.nil
  go_simp
  (with_reducible refine (has_r r1 A c b1 nd.ls ((y1, y2, y3), yA, yc) p1 HR.out (HROW.out _ E1.out) (HARGS.out _ E1.out) (HARG.out _ E1.out) HB1.out (by omega)).mono ?_)
  rintro e p2 ⟨rfl, bb2⟩
  have E2 := Lib.hid (E1.out.trans (bb2.mono E1.out.size))
  clear bb2
  go_wp2_with fail
  refine hK9.out _ _ (HS2.out _ E2.out) (fun hHeld => ?_)
  clear hK9 K9
  try simp only [Act.put, List.setIfInBounds_toArray, List.set_cons_zero, List.set_cons_succ]
  refine wpAnyH_done (by kernel_rfl) ?_ _
  clear hHeld
  cases r1 with
  | true =>
    have HD : Hid (SupR B F g m cs N id ((y1, y2, y3), yA, yc) W p2) := Lib.hid ⟨F1, cv, cs, N1, T1.out.grow E2.out, by
      rw [P1.out]; unfold supP; rw [if_pos (by rw [← P2.out]; exact of_decide_eq_true HR.out.symm)], by
      unfold supC; rw [if_pos (by rw [← P2.out]; exact of_decide_eq_true HR.out.symm)], F1F.out, fun k hk => (HFW.out k hk).imp (fun h => h) (fun h => by omega), HKA.out.trans (Keep.of_below E2.out F) (fun k hk => .inl hk)⟩
    clear HS2 HX HC0 HROW HARGS HARG
    go_wp2_with fail
    (try simp only [Exit.inBlock, Exit.then])
    refine bodyPost_ret (results_none rfl _ _ _) rfl ?_
    exact ⟨rfl, HD.out⟩
  | false =>
    have hno : ¬ ((y1, y2, y3), yA, yc).1 ∈ nd.ls.map (·.1) := of_decide_eq_false HR.out.symm
    have HNO := Lib.hid hno
    clear HS2 hno
    have K2 : Hid (Keep F W p2) := Lib.hid (HKA.out.trans (Keep.of_below E2.out F) (fun k hk => .inl hk))
    have T3 := Lib.hid (T1.out.grow (E2.out.drew))
    have hfb : F1 nd.b := T1.out.Fb _ hmem
    have hfl : ∀ k, (Value.slice A nd.ls.length c).ownBlock = some k → F1 k := fun k hk => T1.out.Fl _ hmem k (by rw [EV.out]; exact hk)
    have hbx : W.heap.size ≠ nd.b := fun e => HNX.out (by rw [e]; exact hfb)
    have HX3 := Lib.hid (show ((fun w' : World => w'.cell? ⟨W.heap.size, 0, none⟩ = some (.int .i64 y1) ∧ w'.cell? ⟨W.heap.size, 1, none⟩ = some (.int .i64 y2) ∧ w'.cell? ⟨W.heap.size, 2, none⟩ = some (.slice yA y3.length yc))) p2.drew from ⟨(E2.out.drew.cell (World.block_lt_of_cell? _ _ HX.out.1)).trans HX.out.1, (E2.out.drew.cell (World.block_lt_of_cell? _ _ HX.out.2.1)).trans HX.out.2.1, (E2.out.drew.cell (World.block_lt_of_cell? _ _ HX.out.2.2)).trans HX.out.2.2⟩)
    have HSK : Hid (∀ w', Keep (fun k => (Value.slice A nd.ls.length c).ownBlock = some k) p2.drew w' → (fun w' : World => w'.cell? ⟨W.heap.size, 0, none⟩ = some (.int .i64 y1) ∧ w'.cell? ⟨W.heap.size, 1, none⟩ = some (.int .i64 y2) ∧ w'.cell? ⟨W.heap.size, 2, none⟩ = some (.slice yA y3.length yc)) w') := Lib.hid (fun w' hk => ⟨hk.cell HX3.out.1 (fun e => HNX.out (hfl _ e)), hk.cell HX3.out.2.1 (fun e => HNX.out (hfl _ e)), hk.cell HX3.out.2.2 (fun e => HNX.out (hfl _ e))⟩)
    have HLK : Hid (∀ w', Keep (fun k => (Value.slice A nd.ls.length c).ownBlock = some k) p2.drew w' → w'.cell? ⟨nd.b, 1, none⟩ = some (.slice A nd.ls.length c) ∧ w'.frozen? ⟨nd.b, 1, none⟩ = false) := Lib.hid (fun w' hk => by
      have hn := T3.out.node _ hmem
      dsimp only at hn
      rw [EV.out] at hn
      have hv := T3.out.vb hmem hmem
      dsimp only at hv
      rw [EV.out] at hv
      have h9 := (hk.block nd.b (T3.out.lt _ hfb).2 hv).trans hn
      exact ⟨block_cell h9 rfl, block_free h9⟩)
    have HOWN : Hid (∀ w', Below p2.drew.heap.size p2.drew w' → OwnY w' B (.slice A nd.ls.length c) nd.ls) := Lib.hid (fun w' hb => by
      have := (T3.out.grow hb).own _ hmem
      dsimp only at this
      rw [EV.out] at this
      exact this)
    have HB : Hid (B ≤ p2.drew.heap.size) := Lib.hid (by have := T3.out.lt g T3.out.Fg; omega)
    have HARG3 : Hid (∀ w', Below p2.drew.heap.size p2.drew w' → ArgY w' ((y1, y2, y3), yA, yc)) := Lib.hid (fun w' hb => HARG.out w' (E2.out.drew.trans (hb.mono E2.out.drew.size)))
    have HSF : Hid (∀ w' v, ((fun w' : World => w'.cell? ⟨W.heap.size, 0, none⟩ = some (.int .i64 y1) ∧ w'.cell? ⟨W.heap.size, 1, none⟩ = some (.int .i64 y2) ∧ w'.cell? ⟨W.heap.size, 2, none⟩ = some (.slice yA y3.length yc))) w' → ((fun w' : World => w'.cell? ⟨W.heap.size, 0, none⟩ = some (.int .i64 y1) ∧ w'.cell? ⟨W.heap.size, 1, none⟩ = some (.int .i64 y2) ∧ w'.cell? ⟨W.heap.size, 2, none⟩ = some (.slice yA y3.length yc))) (w'.setCell ⟨nd.b, 1, none⟩ v)) := Lib.hid (fun w' v hs => by
      have kb : Keep (fun k => k = nd.b) w' (w'.setCell ⟨nd.b, 1, none⟩ v) := (Keep.refl (fun k => k = nd.b) w').setCell (p := ⟨nd.b, 1, none⟩) (.inl rfl) _
      exact ⟨kb.cell hs.1 hbx, kb.cell hs.2.1 hbx, kb.cell hs.2.2 hbx⟩)
    have E0 := Lib.hid (Below.refl p2.drew.heap.size p2.drew)
    clear HARG HROW HARGS HX HC0 hfb hfl
    have HARG := HARG3
    clear HARG3
    go_wp2_with fail
    apply cutW (Fa := (fun w z A9 c9 (_ : Nat) => z.1 = ((y1, y2, y3), yA, yc).1 ∧ ∃ F2, TS B F2 g m cv cs (setR N1 id nd.free (.slice A9 (nd.ls.length + 1) c9) (nd.ls ++ [z])) w ∧ (∀ k, F1 k → F2 k) ∧ (∀ k, F2 k → F1 k ∨ p2.drew.heap.size ≤ k) ∧ Keep F1 p2.drew w))
    · intro HT
      refine wp_region_held_drew (S := (fun w' : World => w'.cell? ⟨W.heap.size, 0, none⟩ = some (.int .i64 y1) ∧ w'.cell? ⟨W.heap.size, 1, none⟩ = some (.int .i64 y2) ∧ w'.cell? ⟨W.heap.size, 2, none⟩ = some (.slice yA y3.length yc))) (by kernel_rfl) (HSK.out _ (Keep.refl _ _)) (fun hHeld => ?_)
      refine wpAnyH_take (i := 0) (oi := ⟨_, _, _, _, _, _⟩) (v := ?_) rfl (by kernel_rfl) (by kernel_rfl) (by kernel_rfl) (fun _ _ _ h => h) (Or.inl ⟨by rfl, ?_⟩) (by assumption) ?_
      rotate_left
      · intro w' hSw; (try dsimp only at hSw); go_simp; (try with_reducible rfl)
      try simp only [Act.put, List.setIfInBounds_toArray, List.set_cons_zero, List.set_cons_succ]
      refine wpAnyH_take (i := 1) (oi := ⟨_, _, _, _, _, _⟩) (v := ?_) rfl (by kernel_rfl) (by kernel_rfl) (by kernel_rfl) (fun _ _ _ h => h) (Or.inl ⟨by rfl, ?_⟩) (by assumption) ?_
      rotate_left
      · intro w' hSw; (try dsimp only at hSw); go_simp; (try with_reducible rfl)
      try simp only [Act.put, List.setIfInBounds_toArray, List.set_cons_zero, List.set_cons_succ]
      refine wpAnyH_take (i := 2) (oi := ⟨_, _, _, _, _, _⟩) (v := ?_) rfl (by kernel_rfl) (by kernel_rfl) (by kernel_rfl) (fun _ _ _ h => h) (Or.inl ⟨by rfl, ?_⟩) (by assumption) ?_
      rotate_left
      · intro w' hSw; (try dsimp only at hSw); go_simp; (try with_reducible rfl)
      try simp only [Act.put, List.setIfInBounds_toArray, List.set_cons_zero, List.set_cons_succ]
      refine wpAnyH_take (i := 3) (oi := ⟨_, _, _, _, _, _⟩) (v := ?_) rfl (by kernel_rfl) (by kernel_rfl) (by kernel_rfl) (fun _ _ _ h => h) (Or.inl ⟨by rfl, ?_⟩) (by assumption) ?_
      rotate_left
      · intro w' hSw; (try dsimp only at hSw); go_simp; (try with_reducible rfl)
      try simp only [Act.put, List.setIfInBounds_toArray, List.set_cons_zero, List.set_cons_succ]
      refine wpAnyH_take (i := 5) (oi := ⟨_, _, _, _, _, _⟩) (v := ?_) rfl (by kernel_rfl) (by kernel_rfl) (by kernel_rfl) (fun _ _ _ h => h) (Or.inl ⟨by rfl, ?_⟩) (by assumption) ?_
      rotate_left
      · intro w' hSw; (try dsimp only at hSw); go_simp; (try with_reducible rfl)
      try simp only [Act.put, List.setIfInBounds_toArray, List.set_cons_zero, List.set_cons_succ]
      refine wpAnyH_ready (rs := [4, 6]) (by kernel_rfl) (by simp) ?_
      refine (AllReadyH.cons (o := ⟨_, _, _, _, _, _⟩) rfl (fun K9 hK9 => ?_) (AllReadyH.cons (o := ⟨_, _, _, _, _, _⟩) rfl (fun K9 hK9 => ?_) AllReadyH.nil))
      · have hc4 := (HLK.out _ (Keep.of_below E0.out _)).1
        go_simp
        clear hc4
        refine hK9.out _ _ (HSK.out _ (Keep.of_below E0.out _)) (fun hHeld => ?_)
        clear hK9 K9
        try simp only [Act.put, List.setIfInBounds_toArray, List.set_cons_zero, List.set_cons_succ]
        refine wpAnyH_ready (rs := [6]) (by kernel_rfl) (by simp) ?_
        refine AllReadyH.cons (o := ⟨_, _, _, _, _, _⟩) rfl (fun K9 hK9 => ?_) AllReadyH.nil
        go_simp
        (with_reducible refine (apart_c ((y1, y2, y3), yA, yc) _ (HARG.out _ E0.out)).mono ?_)
        rintro e s1 ⟨z, rfl, hz1, oz, bz⟩
        have E1 := Lib.hid (E0.out.trans (bz.mono E0.out.size))
        have HZ := Lib.hid hz1
        have OZ := Lib.hid (OwnW.mono oz E0.out.size)
        clear hz1 oz bz
        go_wp2_with fail
        refine hK9.out _ _ (HSK.out _ (Keep.of_below E1.out _)) (fun hHeld => ?_)
        clear hK9 K9
        try simp only [Act.put, List.setIfInBounds_toArray, List.set_cons_zero, List.set_cons_succ]
        refine wpAnyH_ready (rs := [7]) (by kernel_rfl) (by simp) ?_
        refine AllReadyH.cons (o := ⟨_, _, _, _, _, _⟩) rfl (fun K9 hK9 => ?_) AllReadyH.nil
        refine step_build1 (f := whyc) (m := 3) rfl 46 (.tmp 23) rfl 50 i0 zW Try.underlying46 hi hz0 hz1 (by decide) (by decide) z _ rfl (fillW z) ?_
        intro gb s2 nb hb hg1 _
        have E2 := Lib.hid (E1.out.trans (hb.mono E1.out.size))
        have NB := Lib.hid nb
        have OZ := Lib.hid (OwnW.below OZ.out hb)
        clear nb hb hg1
        refine hK9.out _ _ (HSK.out _ (Keep.of_below E2.out _)) (fun hHeld => ?_)
        clear hK9 K9
        try simp only [Act.put, List.setIfInBounds_toArray, List.set_cons_zero, List.set_cons_succ]
        refine wpAnyH_ready (rs := [8]) (by kernel_rfl) (by simp) ?_
        refine AllReadyH.cons (o := ⟨_, _, _, _, _, _⟩) rfl (fun K9 hK9 => ?_) AllReadyH.nil
        refine step_append_ownN (f := whyc) whyc_len whyc_flat (by decide) rfl (.tmp 21) (.tmp 24) 46 rfl B 50 i0 zW 40 Try.underlying46 hi hz0 hz1 hz2 rfl (.slice A nd.ls.length c) nd.ls.length nd.ls rfl (HOWN.out _ E2.out) (some ⟨gb, 0, none⟩) 1 [z] 1 rfl (fun h => by cases h) (NB.out.mono (fun _ h => h.elim)) rfl (by unfold maxLen; omega) (by omega) (Nat.le_trans HB.out E2.out.size) ?_
        intro v9 w8 ho hg hv9
        have KZ := Lib.hid (Keep.grown (F := fun k => ((.slice A nd.ls.length c) : Value).ownBlock = some k) (Keep.of_below E2.out _) hg (fun q hq => .inl hq))
        have OV := Lib.hid ho
        have HV := Lib.hid (hv9.imp (fun h => h) (fun h k hk => Nat.le_trans E2.out.size (h k hk)))
        have OZ8 := Lib.hid (OwnW.keep OZ.out ((Keep.refl (fun k => ((.slice A nd.ls.length c) : Value).ownBlock = some k) _).grown hg (fun q hq => .inl hq)) (fun k hk hk2 => own_apart OZ.out (HOWN.out _ E2.out) (by decide) k hk hk2))
        clear ho hg hv9
        obtain ⟨A9, c9, ev9, -, -, -, -⟩ := OwnW.rows (l := nd.ls ++ [z]) (N := fun _ => False) whyc_len (by decide) OV.out (fun _ _ h => h)
        rw [List.length_append, List.length_singleton] at ev9
        subst ev9
        refine hK9.out _ _ (HSK.out _ KZ.out) (fun hHeld => ?_)
        clear hK9 K9
        try simp only [Act.put, List.setIfInBounds_toArray, List.set_cons_zero, List.set_cons_succ]
        refine wpAnyH_take (i := 9) (oi := ⟨_, _, _, _, _, _⟩) (v := ?_) rfl (by kernel_rfl) (by kernel_rfl) (by kernel_rfl) (fun _ _ _ h => h) (Or.inl ⟨by rfl, ?_⟩) (by assumption) ?_
        rotate_left
        · intro w' hSw; (try dsimp only at hSw); go_simp; (try with_reducible rfl)
        try simp only [Act.put, List.setIfInBounds_toArray, List.set_cons_zero, List.set_cons_succ]
        refine wpAnyH_take (i := 10) (oi := ⟨_, _, _, _, _, _⟩) (v := ?_) rfl (by kernel_rfl) (by kernel_rfl) (by kernel_rfl) (fun _ _ _ h => h) (Or.inl ⟨by rfl, ?_⟩) (by assumption) ?_
        rotate_left
        · intro w' hSw; (try dsimp only at hSw); go_simp; (try with_reducible rfl)
        try simp only [Act.put, List.setIfInBounds_toArray, List.set_cons_zero, List.set_cons_succ]
        refine wpAnyH_ready (rs := [11]) (by kernel_rfl) (by simp) ?_
        refine AllReadyH.cons (o := ⟨_, _, _, _, _, _⟩) rfl (fun K9 hK9 => ?_) AllReadyH.nil
        obtain ⟨hc11, hf11⟩ := HLK.out _ KZ.out
        go_simp
        clear hc11 hf11
        refine hK9.out _ _ (HSF.out _ _ (HSK.out _ KZ.out)) (fun hHeld => ?_)
        clear hK9 K9
        try simp only [Act.put, List.setIfInBounds_toArray, List.set_cons_zero, List.set_cons_succ]
        refine wpAnyH_done (by kernel_rfl) ?_ _
        clear hHeld
        have HF : (fun w z A9 c9 (_ : Nat) => z.1 = ((y1, y2, y3), yA, yc).1 ∧ ∃ F2, TS B F2 g m cv cs (setR N1 id nd.free (.slice A9 (nd.ls.length + 1) c9) (nd.ls ++ [z])) w ∧ (∀ k, F1 k → F2 k) ∧ (∀ k, F2 k → F1 k ∨ p2.drew.heap.size ≤ k) ∧ Keep F1 p2.drew w) (w8.setCell ⟨nd.b, 1, none⟩ (.slice A9 (nd.ls.length + 1) c9)) z A9 c9 gb := ⟨HZ.out, T3.out.addL (v9 := .slice A9 (nd.ls.length + 1) c9) L1.out (by rw [EV.out]; exact KZ.out) OV.out (by rw [EV.out]; exact HV.out) OZ8.out (by rw [HZ.out]; exact HYF.out) hlsl⟩
        revert HF
        generalize (w8.setCell ⟨nd.b, 1, none⟩ (.slice A9 (nd.ls.length + 1) c9)) = w9
        intro HF
        exact HT w9 z A9 c9 gb HF
      · go_simp
        (with_reducible refine (apart_c ((y1, y2, y3), yA, yc) _ (HARG.out _ E0.out)).mono ?_)
        rintro e s3 ⟨z, rfl, hz1, oz, bz⟩
        have E3 := Lib.hid (E0.out.trans (bz.mono E0.out.size))
        have HZ := Lib.hid hz1
        have OZ := Lib.hid (OwnW.mono oz E0.out.size)
        clear hz1 oz bz
        go_wp2_with fail
        refine hK9.out _ _ (HSK.out _ (Keep.of_below E3.out _)) (fun hHeld => ?_)
        clear hK9 K9
        try simp only [Act.put, List.setIfInBounds_toArray, List.set_cons_zero, List.set_cons_succ]
        refine wpAnyH_ready (rs := [4, 7]) (by kernel_rfl) (by simp) ?_
        refine (AllReadyH.cons (o := ⟨_, _, _, _, _, _⟩) rfl (fun K9 hK9 => ?_) (AllReadyH.cons (o := ⟨_, _, _, _, _, _⟩) rfl (fun K9 hK9 => ?_) AllReadyH.nil))
        · have hc4 := (HLK.out _ (Keep.of_below E3.out _)).1
          go_simp
          clear hc4
          refine hK9.out _ _ (HSK.out _ (Keep.of_below E3.out _)) (fun hHeld => ?_)
          clear hK9 K9
          try simp only [Act.put, List.setIfInBounds_toArray, List.set_cons_zero, List.set_cons_succ]
          refine wpAnyH_ready (rs := [7]) (by kernel_rfl) (by simp) ?_
          refine AllReadyH.cons (o := ⟨_, _, _, _, _, _⟩) rfl (fun K9 hK9 => ?_) AllReadyH.nil
          refine step_build1 (f := whyc) (m := 3) rfl 46 (.tmp 23) rfl 50 i0 zW Try.underlying46 hi hz0 hz1 (by decide) (by decide) z _ rfl (fillW z) ?_
          intro gb s4 nb hb hg1 _
          have E4 := Lib.hid (E3.out.trans (hb.mono E3.out.size))
          have NB := Lib.hid nb
          have OZ := Lib.hid (OwnW.below OZ.out hb)
          clear nb hb hg1
          refine hK9.out _ _ (HSK.out _ (Keep.of_below E4.out _)) (fun hHeld => ?_)
          clear hK9 K9
          try simp only [Act.put, List.setIfInBounds_toArray, List.set_cons_zero, List.set_cons_succ]
          refine wpAnyH_ready (rs := [8]) (by kernel_rfl) (by simp) ?_
          refine AllReadyH.cons (o := ⟨_, _, _, _, _, _⟩) rfl (fun K9 hK9 => ?_) AllReadyH.nil
          refine step_append_ownN (f := whyc) whyc_len whyc_flat (by decide) rfl (.tmp 21) (.tmp 24) 46 rfl B 50 i0 zW 40 Try.underlying46 hi hz0 hz1 hz2 rfl (.slice A nd.ls.length c) nd.ls.length nd.ls rfl (HOWN.out _ E4.out) (some ⟨gb, 0, none⟩) 1 [z] 1 rfl (fun h => by cases h) (NB.out.mono (fun _ h => h.elim)) rfl (by unfold maxLen; omega) (by omega) (Nat.le_trans HB.out E4.out.size) ?_
          intro v9 w8 ho hg hv9
          have KZ := Lib.hid (Keep.grown (F := fun k => ((.slice A nd.ls.length c) : Value).ownBlock = some k) (Keep.of_below E4.out _) hg (fun q hq => .inl hq))
          have OV := Lib.hid ho
          have HV := Lib.hid (hv9.imp (fun h => h) (fun h k hk => Nat.le_trans E4.out.size (h k hk)))
          have OZ8 := Lib.hid (OwnW.keep OZ.out ((Keep.refl (fun k => ((.slice A nd.ls.length c) : Value).ownBlock = some k) _).grown hg (fun q hq => .inl hq)) (fun k hk hk2 => own_apart OZ.out (HOWN.out _ E4.out) (by decide) k hk hk2))
          clear ho hg hv9
          obtain ⟨A9, c9, ev9, -, -, -, -⟩ := OwnW.rows (l := nd.ls ++ [z]) (N := fun _ => False) whyc_len (by decide) OV.out (fun _ _ h => h)
          rw [List.length_append, List.length_singleton] at ev9
          subst ev9
          refine hK9.out _ _ (HSK.out _ KZ.out) (fun hHeld => ?_)
          clear hK9 K9
          try simp only [Act.put, List.setIfInBounds_toArray, List.set_cons_zero, List.set_cons_succ]
          refine wpAnyH_take (i := 9) (oi := ⟨_, _, _, _, _, _⟩) (v := ?_) rfl (by kernel_rfl) (by kernel_rfl) (by kernel_rfl) (fun _ _ _ h => h) (Or.inl ⟨by rfl, ?_⟩) (by assumption) ?_
          rotate_left
          · intro w' hSw; (try dsimp only at hSw); go_simp; (try with_reducible rfl)
          try simp only [Act.put, List.setIfInBounds_toArray, List.set_cons_zero, List.set_cons_succ]
          refine wpAnyH_take (i := 10) (oi := ⟨_, _, _, _, _, _⟩) (v := ?_) rfl (by kernel_rfl) (by kernel_rfl) (by kernel_rfl) (fun _ _ _ h => h) (Or.inl ⟨by rfl, ?_⟩) (by assumption) ?_
          rotate_left
          · intro w' hSw; (try dsimp only at hSw); go_simp; (try with_reducible rfl)
          try simp only [Act.put, List.setIfInBounds_toArray, List.set_cons_zero, List.set_cons_succ]
          refine wpAnyH_ready (rs := [11]) (by kernel_rfl) (by simp) ?_
          refine AllReadyH.cons (o := ⟨_, _, _, _, _, _⟩) rfl (fun K9 hK9 => ?_) AllReadyH.nil
          obtain ⟨hc11, hf11⟩ := HLK.out _ KZ.out
          go_simp
          clear hc11 hf11
          refine hK9.out _ _ (HSF.out _ _ (HSK.out _ KZ.out)) (fun hHeld => ?_)
          clear hK9 K9
          try simp only [Act.put, List.setIfInBounds_toArray, List.set_cons_zero, List.set_cons_succ]
          refine wpAnyH_done (by kernel_rfl) ?_ _
          clear hHeld
          have HF : (fun w z A9 c9 (_ : Nat) => z.1 = ((y1, y2, y3), yA, yc).1 ∧ ∃ F2, TS B F2 g m cv cs (setR N1 id nd.free (.slice A9 (nd.ls.length + 1) c9) (nd.ls ++ [z])) w ∧ (∀ k, F1 k → F2 k) ∧ (∀ k, F2 k → F1 k ∨ p2.drew.heap.size ≤ k) ∧ Keep F1 p2.drew w) (w8.setCell ⟨nd.b, 1, none⟩ (.slice A9 (nd.ls.length + 1) c9)) z A9 c9 gb := ⟨HZ.out, T3.out.addL (v9 := .slice A9 (nd.ls.length + 1) c9) L1.out (by rw [EV.out]; exact KZ.out) OV.out (by rw [EV.out]; exact HV.out) OZ8.out (by rw [HZ.out]; exact HYF.out) hlsl⟩
          revert HF
          generalize (w8.setCell ⟨nd.b, 1, none⟩ (.slice A9 (nd.ls.length + 1) c9)) = w9
          intro HF
          exact HT w9 z A9 c9 gb HF
        · refine step_build1 (f := whyc) (m := 3) rfl 46 (.tmp 23) rfl 50 i0 zW Try.underlying46 hi hz0 hz1 (by decide) (by decide) z _ rfl (fillW z) ?_
          intro gb s5 nb hb hg1 _
          have E5 := Lib.hid (E3.out.trans (hb.mono E3.out.size))
          have NB := Lib.hid nb
          have OZ := Lib.hid (OwnW.below OZ.out hb)
          clear nb hb hg1
          refine hK9.out _ _ (HSK.out _ (Keep.of_below E5.out _)) (fun hHeld => ?_)
          clear hK9 K9
          try simp only [Act.put, List.setIfInBounds_toArray, List.set_cons_zero, List.set_cons_succ]
          refine wpAnyH_ready (rs := [4]) (by kernel_rfl) (by simp) ?_
          refine AllReadyH.cons (o := ⟨_, _, _, _, _, _⟩) rfl (fun K9 hK9 => ?_) AllReadyH.nil
          have hc4 := (HLK.out _ (Keep.of_below E5.out _)).1
          go_simp
          clear hc4
          refine hK9.out _ _ (HSK.out _ (Keep.of_below E5.out _)) (fun hHeld => ?_)
          clear hK9 K9
          try simp only [Act.put, List.setIfInBounds_toArray, List.set_cons_zero, List.set_cons_succ]
          refine wpAnyH_ready (rs := [8]) (by kernel_rfl) (by simp) ?_
          refine AllReadyH.cons (o := ⟨_, _, _, _, _, _⟩) rfl (fun K9 hK9 => ?_) AllReadyH.nil
          refine step_append_ownN (f := whyc) whyc_len whyc_flat (by decide) rfl (.tmp 21) (.tmp 24) 46 rfl B 50 i0 zW 40 Try.underlying46 hi hz0 hz1 hz2 rfl (.slice A nd.ls.length c) nd.ls.length nd.ls rfl (HOWN.out _ E5.out) (some ⟨gb, 0, none⟩) 1 [z] 1 rfl (fun h => by cases h) (NB.out.mono (fun _ h => h.elim)) rfl (by unfold maxLen; omega) (by omega) (Nat.le_trans HB.out E5.out.size) ?_
          intro v9 w8 ho hg hv9
          have KZ := Lib.hid (Keep.grown (F := fun k => ((.slice A nd.ls.length c) : Value).ownBlock = some k) (Keep.of_below E5.out _) hg (fun q hq => .inl hq))
          have OV := Lib.hid ho
          have HV := Lib.hid (hv9.imp (fun h => h) (fun h k hk => Nat.le_trans E5.out.size (h k hk)))
          have OZ8 := Lib.hid (OwnW.keep OZ.out ((Keep.refl (fun k => ((.slice A nd.ls.length c) : Value).ownBlock = some k) _).grown hg (fun q hq => .inl hq)) (fun k hk hk2 => own_apart OZ.out (HOWN.out _ E5.out) (by decide) k hk hk2))
          clear ho hg hv9
          obtain ⟨A9, c9, ev9, -, -, -, -⟩ := OwnW.rows (l := nd.ls ++ [z]) (N := fun _ => False) whyc_len (by decide) OV.out (fun _ _ h => h)
          rw [List.length_append, List.length_singleton] at ev9
          subst ev9
          refine hK9.out _ _ (HSK.out _ KZ.out) (fun hHeld => ?_)
          clear hK9 K9
          try simp only [Act.put, List.setIfInBounds_toArray, List.set_cons_zero, List.set_cons_succ]
          refine wpAnyH_take (i := 9) (oi := ⟨_, _, _, _, _, _⟩) (v := ?_) rfl (by kernel_rfl) (by kernel_rfl) (by kernel_rfl) (fun _ _ _ h => h) (Or.inl ⟨by rfl, ?_⟩) (by assumption) ?_
          rotate_left
          · intro w' hSw; (try dsimp only at hSw); go_simp; (try with_reducible rfl)
          try simp only [Act.put, List.setIfInBounds_toArray, List.set_cons_zero, List.set_cons_succ]
          refine wpAnyH_take (i := 10) (oi := ⟨_, _, _, _, _, _⟩) (v := ?_) rfl (by kernel_rfl) (by kernel_rfl) (by kernel_rfl) (fun _ _ _ h => h) (Or.inl ⟨by rfl, ?_⟩) (by assumption) ?_
          rotate_left
          · intro w' hSw; (try dsimp only at hSw); go_simp; (try with_reducible rfl)
          try simp only [Act.put, List.setIfInBounds_toArray, List.set_cons_zero, List.set_cons_succ]
          refine wpAnyH_ready (rs := [11]) (by kernel_rfl) (by simp) ?_
          refine AllReadyH.cons (o := ⟨_, _, _, _, _, _⟩) rfl (fun K9 hK9 => ?_) AllReadyH.nil
          obtain ⟨hc11, hf11⟩ := HLK.out _ KZ.out
          go_simp
          clear hc11 hf11
          refine hK9.out _ _ (HSF.out _ _ (HSK.out _ KZ.out)) (fun hHeld => ?_)
          clear hK9 K9
          try simp only [Act.put, List.setIfInBounds_toArray, List.set_cons_zero, List.set_cons_succ]
          refine wpAnyH_done (by kernel_rfl) ?_ _
          clear hHeld
          have HF : (fun w z A9 c9 (_ : Nat) => z.1 = ((y1, y2, y3), yA, yc).1 ∧ ∃ F2, TS B F2 g m cv cs (setR N1 id nd.free (.slice A9 (nd.ls.length + 1) c9) (nd.ls ++ [z])) w ∧ (∀ k, F1 k → F2 k) ∧ (∀ k, F2 k → F1 k ∨ p2.drew.heap.size ≤ k) ∧ Keep F1 p2.drew w) (w8.setCell ⟨nd.b, 1, none⟩ (.slice A9 (nd.ls.length + 1) c9)) z A9 c9 gb := ⟨HZ.out, T3.out.addL (v9 := .slice A9 (nd.ls.length + 1) c9) L1.out (by rw [EV.out]; exact KZ.out) OV.out (by rw [EV.out]; exact HV.out) OZ8.out (by rw [HZ.out]; exact HYF.out) hlsl⟩
          revert HF
          generalize (w8.setCell ⟨nd.b, 1, none⟩ (.slice A9 (nd.ls.length + 1) c9)) = w9
          intro HF
          exact HT w9 z A9 c9 gb HF
    · intro w9 z A9 c9 gb HF
      obtain ⟨hzw, F2, t9, f29, f2o, k29⟩ := HF
      have HZ9 := Lib.hid hzw
      have hp2 : W.heap.size < p2.drew.heap.size := World.block_lt_of_cell? _ _ HX3.out.1
      have HX : Hid (((fun w' : World => w'.cell? ⟨W.heap.size, 0, none⟩ = some (.int .i64 y1) ∧ w'.cell? ⟨W.heap.size, 1, none⟩ = some (.int .i64 y2) ∧ w'.cell? ⟨W.heap.size, 2, none⟩ = some (.slice yA y3.length yc))) w9) := Lib.hid ⟨k29.cell HX3.out.1 HNX.out, k29.cell HX3.out.2.1 HNX.out, k29.cell HX3.out.2.2 HNX.out⟩
      have HFW9 : Hid (∀ k, F2 k → F k ∨ W.heap.size + 1 ≤ k) := Lib.hid (fun k hk => (f2o k hk).elim (HFW.out k) (fun h => .inr (by omega)))
      have HNX9 : Hid (¬ F2 W.heap.size) := Lib.hid (fun hF => (HFW9.out _ hF).elim HFX.out (fun h => by omega))
      have K9 : Hid (Keep F W w9) := Lib.hid ((K2.out.trans (Keep.of_below (Below.refl p2.heap.size p2).drew F) (fun k hk => .inl hk)).trans k29 (fun k hk => (HFW.out k hk).imp (fun h => h) (fun h => by omega)))
      have HSZ9 : Hid (W.heap.size ≤ w9.heap.size) := Lib.hid K9.out.size
      have F2F : Hid (∀ k, F k → F2 k) := Lib.hid (fun k hk => f29 k (F1F.out k hk))
      have PL9 : Hid (pl (setR N1 id nd.free (.slice A9 (nd.ls.length + 1) c9) (nd.ls ++ [z])) = supP (pl N) id ((y1, y2, y3), yA, yc).1) := Lib.hid (by
        rw [pl_add _ _ (T3.out.one L1.out), P1.out, HZ9.out]; unfold supP; rw [if_neg (by rw [← P2.out]; exact HNO.out)])
      clear HSK HLK HOWN HB HSF E0 HARG hbx HX3 k29 f2o f29 hzw HFW HNX K2 hp2
      generalize hN2 : setR N1 id nd.free (.slice A9 (nd.ls.length + 1) c9) (nd.ls ++ [z]) = N2 at t9 PL9
      clear hN2
      have T9 := Lib.hid t9
      have hblk := t9.blk
      obtain ⟨A4, c4, ec, -, -, -⟩ := OwnY.row t9.cown
      rw [ec] at hblk
      have EC := Lib.hid ec
      have HC0 := Lib.hid (block_cell (j := 1) hblk rfl)
      have HROW : Hid (∀ w', Below w9.heap.size w9 w' → RowsAt whyc 3 (fun _ => False) w' A4 cs) := Lib.hid (fun w' hb => by
        obtain ⟨A', c', ev', hr, _, _⟩ := OwnY.row (T9.out.grow hb).cown
        rw [EC.out] at ev'
        injection ev' with e1 _ _
        rw [e1]; exact hr)
      have HARGS : Hid (∀ w', Below w9.heap.size w9 w' → ∀ x ∈ cs, ArgY w' x) := Lib.hid (fun w' hb x hx => ((T9.out.grow hb).facts x (.inl hx)).arg)
      have HARG : Hid (∀ w', Below w9.heap.size w9 w' → ArgY w' ((y1, y2, y3), yA, yc)) := Lib.hid (fun w' hb => HYK.out F w' (fun k hk => .inl hk) (K9.out.trans (Keep.of_below hb F) (fun k hk => .inl hk)))
      obtain ⟨r2, HR⟩ : ∃ r, Hid (r = decide (((y1, y2, y3), yA, yc).1 ∈ cs.map (·.1))) := ⟨_, Lib.hid rfl⟩
      clear t9 hblk ec
      go_wp2_with fail
      have HS2 : Hid (∀ w', Below w9.heap.size w9 w' → (fun w' : World => w'.cell? ⟨g, 1, none⟩ = some (.slice A4 cs.length c4) ∧ w'.cell? ⟨W.heap.size, 0, none⟩ = some (.int .i64 y1) ∧ w'.cell? ⟨W.heap.size, 1, none⟩ = some (.int .i64 y2) ∧ w'.cell? ⟨W.heap.size, 2, none⟩ = some (.slice yA y3.length yc)) w') := Lib.hid (fun w' hb => ⟨(hb.cell (World.block_lt_of_cell? _ _ HC0.out)).trans HC0.out, (hb.cell (World.block_lt_of_cell? _ _ HX.out.1)).trans HX.out.1, (hb.cell (World.block_lt_of_cell? _ _ HX.out.2.1)).trans HX.out.2.1, (hb.cell (World.block_lt_of_cell? _ _ HX.out.2.2)).trans HX.out.2.2⟩)
      have ED := Lib.hid (((Below.refl w9.heap.size w9).drew))
      refine wp_region_held_drew (S := (fun w' : World => w'.cell? ⟨g, 1, none⟩ = some (.slice A4 cs.length c4) ∧ w'.cell? ⟨W.heap.size, 0, none⟩ = some (.int .i64 y1) ∧ w'.cell? ⟨W.heap.size, 1, none⟩ = some (.int .i64 y2) ∧ w'.cell? ⟨W.heap.size, 2, none⟩ = some (.slice yA y3.length yc))) (by kernel_rfl) (HS2.out _ ED.out) (fun hHeld => ?_)
      refine wpAnyH_take (i := 0) (oi := ⟨_, _, _, _, _, _⟩) (v := ?_) rfl (by kernel_rfl) (by kernel_rfl) (by kernel_rfl) (fun _ _ _ h => h) (Or.inl ⟨by rfl, ?_⟩) (by assumption) ?_
      rotate_left
      · intro w' hSw; (try dsimp only at hSw); go_simp; (try with_reducible rfl)
      try simp only [Act.put, List.setIfInBounds_toArray, List.set_cons_zero, List.set_cons_succ]
      refine wpAnyH_take (i := 1) (oi := ⟨_, _, _, _, _, _⟩) (v := ?_) rfl (by kernel_rfl) (by kernel_rfl) (by kernel_rfl) (fun _ _ _ h => h) (Or.inl ⟨by rfl, ?_⟩) (by assumption) ?_
      rotate_left
      · intro w' hSw; (try dsimp only at hSw); go_simp; (try with_reducible rfl)
      try simp only [Act.put, List.setIfInBounds_toArray, List.set_cons_zero, List.set_cons_succ]
      refine wpAnyH_take (i := 2) (oi := ⟨_, _, _, _, _, _⟩) (v := ?_) rfl (by kernel_rfl) (by kernel_rfl) (by kernel_rfl) (fun _ _ _ h => h) (Or.inl ⟨by rfl, ?_⟩) (by assumption) ?_
      rotate_left
      · intro w' hSw; (try dsimp only at hSw); go_simp; (try with_reducible rfl)
      try simp only [Act.put, List.setIfInBounds_toArray, List.set_cons_zero, List.set_cons_succ]
      refine wpAnyH_take (i := 3) (oi := ⟨_, _, _, _, _, _⟩) (v := ?_) rfl (by kernel_rfl) (by kernel_rfl) (by kernel_rfl) (fun _ _ _ h => h) (Or.inl ⟨by rfl, ?_⟩) (by assumption) ?_
      rotate_left
      · intro w' hSw; (try dsimp only at hSw); go_simp; (try with_reducible rfl)
      try simp only [Act.put, List.setIfInBounds_toArray, List.set_cons_zero, List.set_cons_succ]
      refine wpAnyH_take (i := 4) (oi := ⟨_, _, _, _, _, _⟩) (v := ?_) rfl (by kernel_rfl) (by kernel_rfl) (by kernel_rfl) (fun _ _ _ h => h) (Or.inl ⟨by rfl, ?_⟩) (by assumption) ?_
      rotate_left
      · intro w' hSw; (try dsimp only at hSw); go_simp; (try with_reducible rfl)
      try simp only [Act.put, List.setIfInBounds_toArray, List.set_cons_zero, List.set_cons_succ]
      refine wpAnyH_ready (rs := [5]) (by kernel_rfl) (by simp) ?_
      refine AllReadyH.cons (o := ⟨_, _, _, _, _, _⟩) rfl (fun K9 hK9 => ?_) AllReadyH.nil
      go_simp
      (with_reducible refine (is_o ((y1, y2, y3), yA, yc) _).mono ?_)
      rintro e p1 ⟨b1, rfl, hb1, bb1⟩
      have E1 := Lib.hid (ED.out.trans (bb1.mono ED.out.size))
      have HB1 := Lib.hid hb1
      clear bb1 hb1
      go_wp2_with fail
      refine hK9.out _ _ (HS2.out _ E1.out) (fun hHeld => ?_)
      clear hK9 K9
      try simp only [Act.put, List.setIfInBounds_toArray, List.set_cons_zero, List.set_cons_succ]
      refine wpAnyH_ready (rs := [6]) (by kernel_rfl) (by simp) ?_
      refine AllReadyH.cons (o := ⟨_, _, _, _, _, _⟩) rfl (fun K9 hK9 => ?_) AllReadyH.nil
      go_simp
      (with_reducible refine (has_r r2 A4 c4 b1 cs ((y1, y2, y3), yA, yc) p1 HR.out (HROW.out _ E1.out) (HARGS.out _ E1.out) (HARG.out _ E1.out) HB1.out (by omega)).mono ?_)
      rintro e p2 ⟨rfl, bb2⟩
      have E2 := Lib.hid (E1.out.trans (bb2.mono E1.out.size))
      clear bb2
      go_wp2_with fail
      refine hK9.out _ _ (HS2.out _ E2.out) (fun hHeld => ?_)
      clear hK9 K9
      try simp only [Act.put, List.setIfInBounds_toArray, List.set_cons_zero, List.set_cons_succ]
      refine wpAnyH_take (i := 7) (oi := ⟨_, _, _, _, _, _⟩) (v := ?_) rfl (by kernel_rfl) (by kernel_rfl) (by kernel_rfl) (fun _ _ _ h => h) (Or.inl ⟨by rfl, ?_⟩) (by assumption) ?_
      rotate_left
      · intro w' hSw; (try dsimp only at hSw); go_simp; (try with_reducible rfl)
      try simp only [Act.put, List.setIfInBounds_toArray, List.set_cons_zero, List.set_cons_succ]
      refine wpAnyH_done (by kernel_rfl) ?_ _
      clear hHeld
      cases r2 with
      | true =>
        have HD : Hid (SupR B F g m cs N id ((y1, y2, y3), yA, yc) W p2) := Lib.hid ⟨F2, cv, cs, N2, T9.out.grow E2.out, PL9.out, by
          unfold supC; rw [if_neg (by rw [← P2.out]; exact HNO.out), if_pos (of_decide_eq_true HR.out.symm)], F2F.out, fun k hk => (HFW9.out k hk).imp (fun h => h) (fun h => by omega), K9.out.trans (Keep.of_below E2.out F) (fun k hk => .inl hk)⟩
        clear HS2 HX HC0 HROW HARGS HARG
        go_wp2_with fail
        go_end0
        exact ⟨rfl, HD.out⟩
      | false =>
        have HR2 := Lib.hid HR.out
        clear HS2 HR
        have HX3 := Lib.hid (show ((fun w' : World => w'.cell? ⟨W.heap.size, 0, none⟩ = some (.int .i64 y1) ∧ w'.cell? ⟨W.heap.size, 1, none⟩ = some (.int .i64 y2) ∧ w'.cell? ⟨W.heap.size, 2, none⟩ = some (.slice yA y3.length yc))) p2.drew from ⟨(E2.out.drew.cell (World.block_lt_of_cell? _ _ HX.out.1)).trans HX.out.1, (E2.out.drew.cell (World.block_lt_of_cell? _ _ HX.out.2.1)).trans HX.out.2.1, (E2.out.drew.cell (World.block_lt_of_cell? _ _ HX.out.2.2)).trans HX.out.2.2⟩)
        have T5 := Lib.hid (T9.out.grow (E2.out.drew))
        have K6 : Hid (Keep F W p2.drew) := Lib.hid (K9.out.trans (Keep.of_below E2.out.drew F) (fun k hk => .inl hk))
        have HSZ : Hid (W.heap.size ≤ p2.drew.heap.size) := Lib.hid K6.out.size
        have hgb : W.heap.size ≠ g := fun e => HNX9.out (by rw [e]; exact T9.out.Fg)
        have hfl : ∀ k, (Value.slice A4 cs.length c4).ownBlock = some k → F2 k := fun k hk => T9.out.Fcv k (by rw [EC.out]; exact hk)
        have HSK : Hid (∀ w', Keep (fun k => (Value.slice A4 cs.length c4).ownBlock = some k) p2.drew w' → ((fun w' : World => w'.cell? ⟨W.heap.size, 0, none⟩ = some (.int .i64 y1) ∧ w'.cell? ⟨W.heap.size, 1, none⟩ = some (.int .i64 y2) ∧ w'.cell? ⟨W.heap.size, 2, none⟩ = some (.slice yA y3.length yc))) w') := Lib.hid (fun w' hk => ⟨hk.cell HX3.out.1 (fun e => HNX9.out (hfl _ e)), hk.cell HX3.out.2.1 (fun e => HNX9.out (hfl _ e)), hk.cell HX3.out.2.2 (fun e => HNX9.out (hfl _ e))⟩)
        have HLK : Hid (∀ w', Keep (fun k => (Value.slice A4 cs.length c4).ownBlock = some k) p2.drew w' → w'.cell? ⟨g, 1, none⟩ = some (.slice A4 cs.length c4) ∧ w'.frozen? ⟨g, 1, none⟩ = false) := Lib.hid (fun w' hk => by
          have hn := T5.out.blk
          have hv := T5.out.cg
          rw [EC.out] at hn hv
          have h9 := (hk.block g (T5.out.lt _ T5.out.Fg).2 hv).trans hn
          exact ⟨block_cell h9 rfl, block_free h9⟩)
        have HOWN : Hid (∀ w', Below p2.drew.heap.size p2.drew w' → OwnY w' B (.slice A4 cs.length c4) cs) := Lib.hid (fun w' hb => by
          have := (T5.out.grow hb).cown
          rw [EC.out] at this
          exact this)
        have HB : Hid (B ≤ p2.drew.heap.size) := Lib.hid (by have := T5.out.lt g T5.out.Fg; omega)
        have HARG3 : Hid (∀ w', Below p2.drew.heap.size p2.drew w' → ArgY w' ((y1, y2, y3), yA, yc)) := Lib.hid (fun w' hb => HARG.out w' (E2.out.drew.trans (hb.mono E2.out.drew.size)))
        have HSF : Hid (∀ w' v, ((fun w' : World => w'.cell? ⟨W.heap.size, 0, none⟩ = some (.int .i64 y1) ∧ w'.cell? ⟨W.heap.size, 1, none⟩ = some (.int .i64 y2) ∧ w'.cell? ⟨W.heap.size, 2, none⟩ = some (.slice yA y3.length yc))) w' → ((fun w' : World => w'.cell? ⟨W.heap.size, 0, none⟩ = some (.int .i64 y1) ∧ w'.cell? ⟨W.heap.size, 1, none⟩ = some (.int .i64 y2) ∧ w'.cell? ⟨W.heap.size, 2, none⟩ = some (.slice yA y3.length yc))) (w'.setCell ⟨g, 1, none⟩ v)) := Lib.hid (fun w' v hs => by
          have kb : Keep (fun k => k = g) w' (w'.setCell ⟨g, 1, none⟩ v) := (Keep.refl (fun k => k = g) w').setCell (p := ⟨g, 1, none⟩) (.inl rfl) _
          exact ⟨kb.cell hs.1 hgb, kb.cell hs.2.1 hgb, kb.cell hs.2.2 hgb⟩)
        have E0 := Lib.hid (Below.refl p2.drew.heap.size p2.drew)
        clear HARG HROW HARGS HX HC0 hfl
        have HARG := HARG3
        clear HARG3
        go_wp2_with fail
        refine wp_region_held_drew (S := (fun w' : World => w'.cell? ⟨W.heap.size, 0, none⟩ = some (.int .i64 y1) ∧ w'.cell? ⟨W.heap.size, 1, none⟩ = some (.int .i64 y2) ∧ w'.cell? ⟨W.heap.size, 2, none⟩ = some (.slice yA y3.length yc))) (by kernel_rfl) (HSK.out _ (Keep.refl _ _)) (fun hHeld => ?_)
        refine wpAnyH_take (i := 0) (oi := ⟨_, _, _, _, _, _⟩) (v := ?_) rfl (by kernel_rfl) (by kernel_rfl) (by kernel_rfl) (fun _ _ _ h => h) (Or.inl ⟨by rfl, ?_⟩) (by assumption) ?_
        rotate_left
        · intro w' hSw; (try dsimp only at hSw); go_simp; (try with_reducible rfl)
        try simp only [Act.put, List.setIfInBounds_toArray, List.set_cons_zero, List.set_cons_succ]
        refine wpAnyH_take (i := 1) (oi := ⟨_, _, _, _, _, _⟩) (v := ?_) rfl (by kernel_rfl) (by kernel_rfl) (by kernel_rfl) (fun _ _ _ h => h) (Or.inl ⟨by rfl, ?_⟩) (by assumption) ?_
        rotate_left
        · intro w' hSw; (try dsimp only at hSw); go_simp; (try with_reducible rfl)
        try simp only [Act.put, List.setIfInBounds_toArray, List.set_cons_zero, List.set_cons_succ]
        refine wpAnyH_take (i := 2) (oi := ⟨_, _, _, _, _, _⟩) (v := ?_) rfl (by kernel_rfl) (by kernel_rfl) (by kernel_rfl) (fun _ _ _ h => h) (Or.inl ⟨by rfl, ?_⟩) (by assumption) ?_
        rotate_left
        · intro w' hSw; (try dsimp only at hSw); go_simp; (try with_reducible rfl)
        try simp only [Act.put, List.setIfInBounds_toArray, List.set_cons_zero, List.set_cons_succ]
        refine wpAnyH_take (i := 3) (oi := ⟨_, _, _, _, _, _⟩) (v := ?_) rfl (by kernel_rfl) (by kernel_rfl) (by kernel_rfl) (fun _ _ _ h => h) (Or.inl ⟨by rfl, ?_⟩) (by assumption) ?_
        rotate_left
        · intro w' hSw; (try dsimp only at hSw); go_simp; (try with_reducible rfl)
        try simp only [Act.put, List.setIfInBounds_toArray, List.set_cons_zero, List.set_cons_succ]
        refine wpAnyH_take (i := 5) (oi := ⟨_, _, _, _, _, _⟩) (v := ?_) rfl (by kernel_rfl) (by kernel_rfl) (by kernel_rfl) (fun _ _ _ h => h) (Or.inl ⟨by rfl, ?_⟩) (by assumption) ?_
        rotate_left
        · intro w' hSw; (try dsimp only at hSw); go_simp; (try with_reducible rfl)
        try simp only [Act.put, List.setIfInBounds_toArray, List.set_cons_zero, List.set_cons_succ]
        refine wpAnyH_ready (rs := [4, 6]) (by kernel_rfl) (by simp) ?_
        refine (AllReadyH.cons (o := ⟨_, _, _, _, _, _⟩) rfl (fun K9 hK9 => ?_) (AllReadyH.cons (o := ⟨_, _, _, _, _, _⟩) rfl (fun K9 hK9 => ?_) AllReadyH.nil))
        · have hc4 := (HLK.out _ (Keep.of_below E0.out _)).1
          go_simp
          clear hc4
          refine hK9.out _ _ (HSK.out _ (Keep.of_below E0.out _)) (fun hHeld => ?_)
          clear hK9 K9
          try simp only [Act.put, List.setIfInBounds_toArray, List.set_cons_zero, List.set_cons_succ]
          refine wpAnyH_ready (rs := [6]) (by kernel_rfl) (by simp) ?_
          refine AllReadyH.cons (o := ⟨_, _, _, _, _, _⟩) rfl (fun K9 hK9 => ?_) AllReadyH.nil
          go_simp
          (with_reducible refine (apart_c ((y1, y2, y3), yA, yc) _ (HARG.out _ E0.out)).mono ?_)
          rintro e s1 ⟨z, rfl, hz1, oz, bz⟩
          have E1 := Lib.hid (E0.out.trans (bz.mono E0.out.size))
          have HZ := Lib.hid hz1
          have OZ := Lib.hid (OwnW.mono oz E0.out.size)
          clear hz1 oz bz
          go_wp2_with fail
          refine hK9.out _ _ (HSK.out _ (Keep.of_below E1.out _)) (fun hHeld => ?_)
          clear hK9 K9
          try simp only [Act.put, List.setIfInBounds_toArray, List.set_cons_zero, List.set_cons_succ]
          refine wpAnyH_ready (rs := [7]) (by kernel_rfl) (by simp) ?_
          refine AllReadyH.cons (o := ⟨_, _, _, _, _, _⟩) rfl (fun K9 hK9 => ?_) AllReadyH.nil
          refine step_build1 (f := whyc) (m := 3) rfl 46 (.tmp 42) rfl 50 i0 zW Try.underlying46 hi hz0 hz1 (by decide) (by decide) z _ rfl (fillW z) ?_
          intro gb s2 nb hb hg1 _
          have E2 := Lib.hid (E1.out.trans (hb.mono E1.out.size))
          have NB := Lib.hid nb
          have OZ := Lib.hid (OwnW.below OZ.out hb)
          clear nb hb hg1
          refine hK9.out _ _ (HSK.out _ (Keep.of_below E2.out _)) (fun hHeld => ?_)
          clear hK9 K9
          try simp only [Act.put, List.setIfInBounds_toArray, List.set_cons_zero, List.set_cons_succ]
          refine wpAnyH_ready (rs := [8]) (by kernel_rfl) (by simp) ?_
          refine AllReadyH.cons (o := ⟨_, _, _, _, _, _⟩) rfl (fun K9 hK9 => ?_) AllReadyH.nil
          refine step_append_ownN (f := whyc) whyc_len whyc_flat (by decide) rfl (.tmp 40) (.tmp 43) 46 rfl B 50 i0 zW 40 Try.underlying46 hi hz0 hz1 hz2 rfl (.slice A4 cs.length c4) cs.length cs rfl (HOWN.out _ E2.out) (some ⟨gb, 0, none⟩) 1 [z] 1 rfl (fun h => by cases h) (NB.out.mono (fun _ h => h.elim)) rfl (by unfold maxLen; omega) (by omega) (Nat.le_trans HB.out E2.out.size) ?_
          intro v9 w8 ho hg hv9
          have KZ := Lib.hid (Keep.grown (F := fun k => ((.slice A4 cs.length c4) : Value).ownBlock = some k) (Keep.of_below E2.out _) hg (fun q hq => .inl hq))
          have OV := Lib.hid ho
          have HV := Lib.hid (hv9.imp (fun h => h) (fun h k hk => Nat.le_trans E2.out.size (h k hk)))
          have OZ8 := Lib.hid (OwnW.keep OZ.out ((Keep.refl (fun k => ((.slice A4 cs.length c4) : Value).ownBlock = some k) _).grown hg (fun q hq => .inl hq)) (fun k hk hk2 => own_apart OZ.out (HOWN.out _ E2.out) (by decide) k hk hk2))
          clear ho hg hv9
          obtain ⟨A9, c9, ev9, -, -, -, -⟩ := OwnW.rows (l := cs ++ [z]) (N := fun _ => False) whyc_len (by decide) OV.out (fun _ _ h => h)
          rw [List.length_append, List.length_singleton] at ev9
          subst ev9
          refine hK9.out _ _ (HSK.out _ KZ.out) (fun hHeld => ?_)
          clear hK9 K9
          try simp only [Act.put, List.setIfInBounds_toArray, List.set_cons_zero, List.set_cons_succ]
          refine wpAnyH_take (i := 9) (oi := ⟨_, _, _, _, _, _⟩) (v := ?_) rfl (by kernel_rfl) (by kernel_rfl) (by kernel_rfl) (fun _ _ _ h => h) (Or.inl ⟨by rfl, ?_⟩) (by assumption) ?_
          rotate_left
          · intro w' hSw; (try dsimp only at hSw); go_simp; (try with_reducible rfl)
          try simp only [Act.put, List.setIfInBounds_toArray, List.set_cons_zero, List.set_cons_succ]
          refine wpAnyH_take (i := 10) (oi := ⟨_, _, _, _, _, _⟩) (v := ?_) rfl (by kernel_rfl) (by kernel_rfl) (by kernel_rfl) (fun _ _ _ h => h) (Or.inl ⟨by rfl, ?_⟩) (by assumption) ?_
          rotate_left
          · intro w' hSw; (try dsimp only at hSw); go_simp; (try with_reducible rfl)
          try simp only [Act.put, List.setIfInBounds_toArray, List.set_cons_zero, List.set_cons_succ]
          refine wpAnyH_ready (rs := [11]) (by kernel_rfl) (by simp) ?_
          refine AllReadyH.cons (o := ⟨_, _, _, _, _, _⟩) rfl (fun K9 hK9 => ?_) AllReadyH.nil
          obtain ⟨hc11, hf11⟩ := HLK.out _ KZ.out
          go_simp
          clear hc11 hf11
          refine hK9.out _ _ (HSF.out _ _ (HSK.out _ KZ.out)) (fun hHeld => ?_)
          clear hK9 K9
          try simp only [Act.put, List.setIfInBounds_toArray, List.set_cons_zero, List.set_cons_succ]
          refine wpAnyH_done (by kernel_rfl) ?_ _
          clear hHeld
          have hz6 : z.1 = ((y1, y2, y3), yA, yc).1 := HZ.out
          obtain ⟨F3, t6, f3a, f3b, k6⟩ := T5.out.addC (v9 := .slice A9 (cs.length + 1) c9) (by rw [EC.out]; exact KZ.out) OV.out (by rw [EC.out]; exact HV.out) OZ8.out (by rw [hz6]; exact HYF.out) hcf
          have HD : Hid (SupR B F g m cs N id ((y1, y2, y3), yA, yc) W (w8.setCell ⟨g, 1, none⟩ (.slice A9 (cs.length + 1) c9))) := Lib.hid ⟨F3, _, cs ++ [z], _, t6, PL9.out, by
            rw [List.map_append, List.map_cons, List.map_nil, hz6]; unfold supC; rw [if_neg (by rw [← P2.out]; exact HNO.out), if_neg (of_decide_eq_false HR2.out.symm)], fun k hk => f3a k (F2F.out k hk), fun k hk => (f3b k hk).elim (fun h => (HFW9.out k h).imp (fun h => h) (fun h => by omega)) (fun h => .inr (by have := HSZ.out; omega)), K6.out.trans k6 (fun k hk => (HFW9.out k hk).imp (fun h => h) (fun h => by omega))⟩
          clear HOWN HSK HLK HSF HARG KZ OV HV OZ8 OZ HZ NB
          generalize (w8.setCell ⟨g, 1, none⟩ (.slice A9 (cs.length + 1) c9)) = w10 at HD ⊢
          go_wp2_with fail
          go_end0
          exact ⟨rfl, HD.out⟩
        · go_simp
          (with_reducible refine (apart_c ((y1, y2, y3), yA, yc) _ (HARG.out _ E0.out)).mono ?_)
          rintro e s3 ⟨z, rfl, hz1, oz, bz⟩
          have E3 := Lib.hid (E0.out.trans (bz.mono E0.out.size))
          have HZ := Lib.hid hz1
          have OZ := Lib.hid (OwnW.mono oz E0.out.size)
          clear hz1 oz bz
          go_wp2_with fail
          refine hK9.out _ _ (HSK.out _ (Keep.of_below E3.out _)) (fun hHeld => ?_)
          clear hK9 K9
          try simp only [Act.put, List.setIfInBounds_toArray, List.set_cons_zero, List.set_cons_succ]
          refine wpAnyH_ready (rs := [4, 7]) (by kernel_rfl) (by simp) ?_
          refine (AllReadyH.cons (o := ⟨_, _, _, _, _, _⟩) rfl (fun K9 hK9 => ?_) (AllReadyH.cons (o := ⟨_, _, _, _, _, _⟩) rfl (fun K9 hK9 => ?_) AllReadyH.nil))
          · have hc4 := (HLK.out _ (Keep.of_below E3.out _)).1
            go_simp
            clear hc4
            refine hK9.out _ _ (HSK.out _ (Keep.of_below E3.out _)) (fun hHeld => ?_)
            clear hK9 K9
            try simp only [Act.put, List.setIfInBounds_toArray, List.set_cons_zero, List.set_cons_succ]
            refine wpAnyH_ready (rs := [7]) (by kernel_rfl) (by simp) ?_
            refine AllReadyH.cons (o := ⟨_, _, _, _, _, _⟩) rfl (fun K9 hK9 => ?_) AllReadyH.nil
            refine step_build1 (f := whyc) (m := 3) rfl 46 (.tmp 42) rfl 50 i0 zW Try.underlying46 hi hz0 hz1 (by decide) (by decide) z _ rfl (fillW z) ?_
            intro gb s4 nb hb hg1 _
            have E4 := Lib.hid (E3.out.trans (hb.mono E3.out.size))
            have NB := Lib.hid nb
            have OZ := Lib.hid (OwnW.below OZ.out hb)
            clear nb hb hg1
            refine hK9.out _ _ (HSK.out _ (Keep.of_below E4.out _)) (fun hHeld => ?_)
            clear hK9 K9
            try simp only [Act.put, List.setIfInBounds_toArray, List.set_cons_zero, List.set_cons_succ]
            refine wpAnyH_ready (rs := [8]) (by kernel_rfl) (by simp) ?_
            refine AllReadyH.cons (o := ⟨_, _, _, _, _, _⟩) rfl (fun K9 hK9 => ?_) AllReadyH.nil
            refine step_append_ownN (f := whyc) whyc_len whyc_flat (by decide) rfl (.tmp 40) (.tmp 43) 46 rfl B 50 i0 zW 40 Try.underlying46 hi hz0 hz1 hz2 rfl (.slice A4 cs.length c4) cs.length cs rfl (HOWN.out _ E4.out) (some ⟨gb, 0, none⟩) 1 [z] 1 rfl (fun h => by cases h) (NB.out.mono (fun _ h => h.elim)) rfl (by unfold maxLen; omega) (by omega) (Nat.le_trans HB.out E4.out.size) ?_
            intro v9 w8 ho hg hv9
            have KZ := Lib.hid (Keep.grown (F := fun k => ((.slice A4 cs.length c4) : Value).ownBlock = some k) (Keep.of_below E4.out _) hg (fun q hq => .inl hq))
            have OV := Lib.hid ho
            have HV := Lib.hid (hv9.imp (fun h => h) (fun h k hk => Nat.le_trans E4.out.size (h k hk)))
            have OZ8 := Lib.hid (OwnW.keep OZ.out ((Keep.refl (fun k => ((.slice A4 cs.length c4) : Value).ownBlock = some k) _).grown hg (fun q hq => .inl hq)) (fun k hk hk2 => own_apart OZ.out (HOWN.out _ E4.out) (by decide) k hk hk2))
            clear ho hg hv9
            obtain ⟨A9, c9, ev9, -, -, -, -⟩ := OwnW.rows (l := cs ++ [z]) (N := fun _ => False) whyc_len (by decide) OV.out (fun _ _ h => h)
            rw [List.length_append, List.length_singleton] at ev9
            subst ev9
            refine hK9.out _ _ (HSK.out _ KZ.out) (fun hHeld => ?_)
            clear hK9 K9
            try simp only [Act.put, List.setIfInBounds_toArray, List.set_cons_zero, List.set_cons_succ]
            refine wpAnyH_take (i := 9) (oi := ⟨_, _, _, _, _, _⟩) (v := ?_) rfl (by kernel_rfl) (by kernel_rfl) (by kernel_rfl) (fun _ _ _ h => h) (Or.inl ⟨by rfl, ?_⟩) (by assumption) ?_
            rotate_left
            · intro w' hSw; (try dsimp only at hSw); go_simp; (try with_reducible rfl)
            try simp only [Act.put, List.setIfInBounds_toArray, List.set_cons_zero, List.set_cons_succ]
            refine wpAnyH_take (i := 10) (oi := ⟨_, _, _, _, _, _⟩) (v := ?_) rfl (by kernel_rfl) (by kernel_rfl) (by kernel_rfl) (fun _ _ _ h => h) (Or.inl ⟨by rfl, ?_⟩) (by assumption) ?_
            rotate_left
            · intro w' hSw; (try dsimp only at hSw); go_simp; (try with_reducible rfl)
            try simp only [Act.put, List.setIfInBounds_toArray, List.set_cons_zero, List.set_cons_succ]
            refine wpAnyH_ready (rs := [11]) (by kernel_rfl) (by simp) ?_
            refine AllReadyH.cons (o := ⟨_, _, _, _, _, _⟩) rfl (fun K9 hK9 => ?_) AllReadyH.nil
            obtain ⟨hc11, hf11⟩ := HLK.out _ KZ.out
            go_simp
            clear hc11 hf11
            refine hK9.out _ _ (HSF.out _ _ (HSK.out _ KZ.out)) (fun hHeld => ?_)
            clear hK9 K9
            try simp only [Act.put, List.setIfInBounds_toArray, List.set_cons_zero, List.set_cons_succ]
            refine wpAnyH_done (by kernel_rfl) ?_ _
            clear hHeld
            have hz6 : z.1 = ((y1, y2, y3), yA, yc).1 := HZ.out
            obtain ⟨F3, t6, f3a, f3b, k6⟩ := T5.out.addC (v9 := .slice A9 (cs.length + 1) c9) (by rw [EC.out]; exact KZ.out) OV.out (by rw [EC.out]; exact HV.out) OZ8.out (by rw [hz6]; exact HYF.out) hcf
            have HD : Hid (SupR B F g m cs N id ((y1, y2, y3), yA, yc) W (w8.setCell ⟨g, 1, none⟩ (.slice A9 (cs.length + 1) c9))) := Lib.hid ⟨F3, _, cs ++ [z], _, t6, PL9.out, by
              rw [List.map_append, List.map_cons, List.map_nil, hz6]; unfold supC; rw [if_neg (by rw [← P2.out]; exact HNO.out), if_neg (of_decide_eq_false HR2.out.symm)], fun k hk => f3a k (F2F.out k hk), fun k hk => (f3b k hk).elim (fun h => (HFW9.out k h).imp (fun h => h) (fun h => by omega)) (fun h => .inr (by have := HSZ.out; omega)), K6.out.trans k6 (fun k hk => (HFW9.out k hk).imp (fun h => h) (fun h => by omega))⟩
            clear HOWN HSK HLK HSF HARG KZ OV HV OZ8 OZ HZ NB
            generalize (w8.setCell ⟨g, 1, none⟩ (.slice A9 (cs.length + 1) c9)) = w10 at HD ⊢
            go_wp2_with fail
            go_end0
            exact ⟨rfl, HD.out⟩
          · refine step_build1 (f := whyc) (m := 3) rfl 46 (.tmp 42) rfl 50 i0 zW Try.underlying46 hi hz0 hz1 (by decide) (by decide) z _ rfl (fillW z) ?_
            intro gb s5 nb hb hg1 _
            have E5 := Lib.hid (E3.out.trans (hb.mono E3.out.size))
            have NB := Lib.hid nb
            have OZ := Lib.hid (OwnW.below OZ.out hb)
            clear nb hb hg1
            refine hK9.out _ _ (HSK.out _ (Keep.of_below E5.out _)) (fun hHeld => ?_)
            clear hK9 K9
            try simp only [Act.put, List.setIfInBounds_toArray, List.set_cons_zero, List.set_cons_succ]
            refine wpAnyH_ready (rs := [4]) (by kernel_rfl) (by simp) ?_
            refine AllReadyH.cons (o := ⟨_, _, _, _, _, _⟩) rfl (fun K9 hK9 => ?_) AllReadyH.nil
            have hc4 := (HLK.out _ (Keep.of_below E5.out _)).1
            go_simp
            clear hc4
            refine hK9.out _ _ (HSK.out _ (Keep.of_below E5.out _)) (fun hHeld => ?_)
            clear hK9 K9
            try simp only [Act.put, List.setIfInBounds_toArray, List.set_cons_zero, List.set_cons_succ]
            refine wpAnyH_ready (rs := [8]) (by kernel_rfl) (by simp) ?_
            refine AllReadyH.cons (o := ⟨_, _, _, _, _, _⟩) rfl (fun K9 hK9 => ?_) AllReadyH.nil
            refine step_append_ownN (f := whyc) whyc_len whyc_flat (by decide) rfl (.tmp 40) (.tmp 43) 46 rfl B 50 i0 zW 40 Try.underlying46 hi hz0 hz1 hz2 rfl (.slice A4 cs.length c4) cs.length cs rfl (HOWN.out _ E5.out) (some ⟨gb, 0, none⟩) 1 [z] 1 rfl (fun h => by cases h) (NB.out.mono (fun _ h => h.elim)) rfl (by unfold maxLen; omega) (by omega) (Nat.le_trans HB.out E5.out.size) ?_
            intro v9 w8 ho hg hv9
            have KZ := Lib.hid (Keep.grown (F := fun k => ((.slice A4 cs.length c4) : Value).ownBlock = some k) (Keep.of_below E5.out _) hg (fun q hq => .inl hq))
            have OV := Lib.hid ho
            have HV := Lib.hid (hv9.imp (fun h => h) (fun h k hk => Nat.le_trans E5.out.size (h k hk)))
            have OZ8 := Lib.hid (OwnW.keep OZ.out ((Keep.refl (fun k => ((.slice A4 cs.length c4) : Value).ownBlock = some k) _).grown hg (fun q hq => .inl hq)) (fun k hk hk2 => own_apart OZ.out (HOWN.out _ E5.out) (by decide) k hk hk2))
            clear ho hg hv9
            obtain ⟨A9, c9, ev9, -, -, -, -⟩ := OwnW.rows (l := cs ++ [z]) (N := fun _ => False) whyc_len (by decide) OV.out (fun _ _ h => h)
            rw [List.length_append, List.length_singleton] at ev9
            subst ev9
            refine hK9.out _ _ (HSK.out _ KZ.out) (fun hHeld => ?_)
            clear hK9 K9
            try simp only [Act.put, List.setIfInBounds_toArray, List.set_cons_zero, List.set_cons_succ]
            refine wpAnyH_take (i := 9) (oi := ⟨_, _, _, _, _, _⟩) (v := ?_) rfl (by kernel_rfl) (by kernel_rfl) (by kernel_rfl) (fun _ _ _ h => h) (Or.inl ⟨by rfl, ?_⟩) (by assumption) ?_
            rotate_left
            · intro w' hSw; (try dsimp only at hSw); go_simp; (try with_reducible rfl)
            try simp only [Act.put, List.setIfInBounds_toArray, List.set_cons_zero, List.set_cons_succ]
            refine wpAnyH_take (i := 10) (oi := ⟨_, _, _, _, _, _⟩) (v := ?_) rfl (by kernel_rfl) (by kernel_rfl) (by kernel_rfl) (fun _ _ _ h => h) (Or.inl ⟨by rfl, ?_⟩) (by assumption) ?_
            rotate_left
            · intro w' hSw; (try dsimp only at hSw); go_simp; (try with_reducible rfl)
            try simp only [Act.put, List.setIfInBounds_toArray, List.set_cons_zero, List.set_cons_succ]
            refine wpAnyH_ready (rs := [11]) (by kernel_rfl) (by simp) ?_
            refine AllReadyH.cons (o := ⟨_, _, _, _, _, _⟩) rfl (fun K9 hK9 => ?_) AllReadyH.nil
            obtain ⟨hc11, hf11⟩ := HLK.out _ KZ.out
            go_simp
            clear hc11 hf11
            refine hK9.out _ _ (HSF.out _ _ (HSK.out _ KZ.out)) (fun hHeld => ?_)
            clear hK9 K9
            try simp only [Act.put, List.setIfInBounds_toArray, List.set_cons_zero, List.set_cons_succ]
            refine wpAnyH_done (by kernel_rfl) ?_ _
            clear hHeld
            have hz6 : z.1 = ((y1, y2, y3), yA, yc).1 := HZ.out
            obtain ⟨F3, t6, f3a, f3b, k6⟩ := T5.out.addC (v9 := .slice A9 (cs.length + 1) c9) (by rw [EC.out]; exact KZ.out) OV.out (by rw [EC.out]; exact HV.out) OZ8.out (by rw [hz6]; exact HYF.out) hcf
            have HD : Hid (SupR B F g m cs N id ((y1, y2, y3), yA, yc) W (w8.setCell ⟨g, 1, none⟩ (.slice A9 (cs.length + 1) c9))) := Lib.hid ⟨F3, _, cs ++ [z], _, t6, PL9.out, by
              rw [List.map_append, List.map_cons, List.map_nil, hz6]; unfold supC; rw [if_neg (by rw [← P2.out]; exact HNO.out), if_neg (of_decide_eq_false HR2.out.symm)], fun k hk => f3a k (F2F.out k hk), fun k hk => (f3b k hk).elim (fun h => (HFW9.out k h).imp (fun h => h) (fun h => by omega)) (fun h => .inr (by have := HSZ.out; omega)), K6.out.trans k6 (fun k hk => (HFW9.out k hk).imp (fun h => h) (fun h => by omega))⟩
            clear HOWN HSK HLK HSF HARG KZ OV HV OZ8 OZ HZ NB
            generalize (w8.setCell ⟨g, 1, none⟩ (.slice A9 (cs.length + 1) c9)) = w10 at HD ⊢
            go_wp2_with fail
            go_end0
            exact ⟨rfl, HD.out⟩

end
end Go.Proofs.Ytonflknnlfffhaa
