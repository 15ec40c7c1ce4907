/- refr.Set: what it holds; New, Len, Mark, Has, Gone. -/
import Derived.Test.YtcffphojpnbcbaaDoorKa
import Derived.Test.YtcffphojpnbcbaaDoorMi
import Derived.Laws.OwnMore
import Derived.Lib.LazyBuf
import Derived.Lib.RowBridge
import Derived.Deep.RegionLaw
import Derived.Deep.RegionWith
import Derived.Deep.RegionHeld3
namespace Go.Proofs.YtcffphojpnbcbaaDoor
open Go.RowKit Go.Lib KP MR
theorem info3 : (Tryd.prog.info? 3).map (fun i => (i.zero, i.size, i.bytes)) = some (some (.int .i64 0), 1, 8) := by kernel_rfl
set_option maxHeartbeats 400000 in
theorem clone_nil (w : World) :
    Calls Tryd.prog 15 #[.slice none 0 0] w fun e w' => e = .returned (.slice none 0 0) ∧ w = w' := by
  have heq := fun w => Lib.run_eql_slice_nil (P := Tryd.prog) w 27 3 none 0 0 0 0 Tryd.underlying27
  go_enter Tryd.func15, Tryd.ntmps15
  go_wp2
  go_ret
  exact ⟨rfl, rfl⟩

set_option maxHeartbeats 400000 in
theorem clone_some (ad : Addr) (c : Nat) (l : List Int) (w : World) (hr : RowAt w (Value.int .i64) (some ad) l) (hb : l.length ≤ 1000) :
    Calls Tryd.prog 15 #[.slice (some ad) l.length c] w fun e w' => ∃ g cp, e = .returned (.slice (some ⟨g, 0, none⟩) l.length cp) ∧ w'.ownsRow w.heap.size 3 1 (.slice (some ⟨g, 0, none⟩) l.length cp) l.length (l.map (Value.int .i64)) ∧ l.length ≤ cp ∧ Below w.heap.size w w' := by
  obtain ⟨i0, hi, hz0, hz1, hz2⟩ := info_parts info3
  have heq := fun w => Lib.run_eql_slice_nil (P := Tryd.prog) w 27 3 (some ad) l.length c 0 0 Tryd.underlying27
  have H0 : (w.alloc (.cells #[] 3)).ownsRow w.heap.size 3 1 (.slice (some ⟨w.heap.size, 0, none⟩) 0 0) 0 [] := World.ownsRow_made w #[] 0 (Nat.le_refl _) (by unfold maxLen; omega) rfl
  have hnews : ∀ j u, (l.map (Value.int .i64))[j]? = some u → (w.alloc (.cells #[] 3)).cell? (ad.add j) = some u := fun j u hu => by
    have hj : j < l.length := by have := (List.getElem?_eq_some_iff.1 hu).1; simpa using this
    obtain ⟨ad', e, hlt, hcell⟩ := hr j hj
    injection e with e
    subst e
    rw [List.getElem?_map, List.getElem?_eq_getElem hj] at hu
    simp at hu
    subst hu
    exact (Below.cell ((Below.refl w.heap.size w).alloc (Nat.le_refl _) _) hlt).trans hcell
  have H0' := Lib.hid H0; clear H0
  have hnews' := Lib.hid hnews; clear hnews
  have hr' := Lib.hid hr; clear hr
  go_enter Tryd.func15, Tryd.ntmps15
  go_wp2_with (at_builtin; refine wpList_append_own _ rfl (.tmp 5) (.tmp 6) 27 rfl w.heap.size 3 i0 (.int .i64 0) 1 8 Tryd.underlying27 hi hz0 hz1 hz2 rfl (by decide) _ 0 [] rfl H0'.out ad l.length c (l.map (Value.int .i64)) rfl ?c0 hnews'.out ?c2 ?c3 ?c4 ?c5 ?_)
  case c0 => simp
  case c2 => intro u hu; obtain ⟨x, _, rfl⟩ := List.mem_map.1 hu; rfl
  case c3 => unfold maxLen; omega
  case c4 => omega
  case c5 => simp
  intro v' w1 hown hg hnil
  have hbel : Below w.heap.size w w1 := ((Below.refl _ _).alloc (Nat.le_refl _) _).grown hg (by simp) (fun k h => by simp [Value.ownBlock] at h; omega)
  have hv : ∃ g cp, v' = .slice (some ⟨g, 0, none⟩) l.length cp ∧ l.length ≤ cp := by
    rcases hown.2 with ⟨h1, h2⟩ | ⟨g, cap', _, h, _, _, h3, _⟩
    · exact absurd h1 hnil
    · exact ⟨g, cap', by simpa using h, by simpa using h3⟩
  obtain ⟨g, cp, rfl, hcp⟩ := hv
  have HO := Lib.hid hown; clear hown
  have HB := Lib.hid hbel; clear hbel
  clear hnil hg
  go_wp2
  go_ret
  exact ⟨g, cp, rfl, by simpa using HO.out, hcp, HB.out⟩

/-- A way in the set, with the slice in which its facts lie. -/
structure Wy where
  t : Wt
  A : Option Addr
  c : Nat
abbrev EV := Int × Option Addr × Nat × Nat
def eW (v : EV) : Value := .agg #[.int .i64 v.1, .slice v.2.1 v.2.2.1 v.2.2.2]
def Wy.p (x : Wy) : ByteArray × EV := (keyB x.t, (x.t.1, x.A, x.t.2.2.length, x.c))
/-- Its facts can be read, and lie apart from the set's own blocks. -/
def Wy.ok (B g m : Nat) (W : World) (x : Wy) : Prop := ∀ k (h : k < x.t.2.2.length), ∃ b, x.A = some ⟨b, 0, none⟩ ∧ B ≤ b ∧ b ≠ g ∧ b ≠ m ∧ W.cell? ⟨b, k, none⟩ = some (.int .i64 x.t.2.2[k])
theorem Wy.ok.keep {B g m : Nat} {W W' : World} {x : Wy} (h : x.ok B g m W) (hk : Keep (fun k => k = m) W W') : x.ok B g m W' := by
  intro k hlt
  obtain ⟨b, e, h1, h2, h3, h4⟩ := h k hlt
  exact ⟨b, e, h1, h2, h3, hk.cell h4 h3⟩
/-- Block g is a set (its map in block m) that holds just the ways T, in the order in which they came. -/
def Inv (B : Nat) (w0 : World) (g m : Nat) (T : List Wt) (W : World) : Prop :=
  ∃ ws : List Wy, ws.map Wy.t = T ∧ W.heap[g]? = some (.cells #[.map (some m)] 39 (0, 0)) ∧ IsMap W m Value.string eW (ws.map Wy.p) ∧ B ≤ g ∧ B ≤ m ∧ Below B w0 W ∧ ∀ x ∈ ws, x.ok B g m W
section
variable {B g m : Nat} {w0 W W' : World} {T : List Wt} {t : Wt}
theorem Inv.below (h : Inv B w0 g m T W) : Below B w0 W := by obtain ⟨_, _, _, _, _, _, h, _⟩ := h; exact h
theorem Inv.gm (h : Inv B w0 g m T W) : g ≠ m := by
  obtain ⟨_, _, h1, ⟨_, _, h2, _⟩, _⟩ := h
  intro e; subst e; rw [h1] at h2; cases h2
theorem Inv.cell (h : Inv B w0 g m T W) : W.cell? ⟨g, 0, none⟩ = some (.map (some m)) := by obtain ⟨_, _, h, _⟩ := h; exact block_cell h rfl
theorem Inv.lt (h : Inv B w0 g m T W) : g < W.heap.size ∧ m < W.heap.size := by
  obtain ⟨_, _, h1, h2, _⟩ := h
  exact ⟨(Array.getElem?_eq_some_iff.1 h1).1, h2.lt⟩
/-- Nothing but new blocks. -/
theorem Inv.grow (h : Inv B w0 g m T W) (hb : Below W.heap.size W W') (hB : B ≤ W.heap.size) : Inv B w0 g m T W' := by
  obtain ⟨ws, e, h1, h2, h3, h4, h5, h6⟩ := h
  exact ⟨ws, e, (hb.block g (Array.getElem?_eq_some_iff.1 h1).1).trans h1, h2.move (hb.block m h2.lt), h3, h4, h5.trans (hb.mono hB), fun x hx => (h6 x hx).keep (Keep.of_below hb _)⟩
theorem Inv.nodup (h : Inv B w0 g m T W) : T.Nodup := by
  obtain ⟨ws, e, _, h2, _⟩ := h
  have := h2.nodup
  rw [← e]
  rw [List.map_map] at this
  have h3 : (ws.map (Prod.fst ∘ Wy.p)) = (ws.map Wy.t).map keyB := by rw [List.map_map]; rfl
  rw [h3] at this
  exact (List.pairwise_map.1 this).imp (fun h e => h (congrArg keyB e))
theorem lk_key {ws : List Wy} : (lk (ws.map Wy.p) (keyB t)).isSome = decide (t ∈ ws.map Wy.t) := by
  unfold lk
  rw [Option.isSome_map]
  rw [Bool.eq_iff_iff, List.find?_isSome, decide_eq_true_iff]
  constructor
  · rintro ⟨p, hp, he⟩
    obtain ⟨x, hx, rfl⟩ := List.mem_map.1 hp
    exact List.mem_map.2 ⟨x, hx, keyB_inj (of_decide_eq_true he)⟩
  · intro h
    obtain ⟨x, hx, rfl⟩ := List.mem_map.1 h
    exact ⟨x.p, List.mem_map.2 ⟨x, hx, rfl⟩, decide_eq_true rfl⟩
/-- A way marked. -/
def mark (T : List Wt) (t : Wt) : List Wt := if t ∈ T then T else T ++ [t]
theorem put_map (ws : List Wy) (t : Wt) (A : Option Addr) (c : Nat) :
    ∃ ws' : List Wy, put (ws.map Wy.p) (keyB t) (t.1, A, t.2.2.length, c) = ws'.map Wy.p ∧ ws'.map Wy.t = mark (ws.map Wy.t) t ∧ ∀ x ∈ ws', x ∈ ws ∨ x = ⟨t, A, c⟩ := by
  have hany : ((ws.map Wy.p).any fun p => decide (p.1 = keyB t)) = decide (t ∈ ws.map Wy.t) := by
    rw [Bool.eq_iff_iff, List.any_eq_true, decide_eq_true_iff]
    constructor
    · rintro ⟨p, hp, he⟩
      obtain ⟨x, hx, rfl⟩ := List.mem_map.1 hp
      exact List.mem_map.2 ⟨x, hx, keyB_inj (of_decide_eq_true he)⟩
    · intro h
      obtain ⟨x, hx, rfl⟩ := List.mem_map.1 h
      exact ⟨x.p, List.mem_map.2 ⟨x, hx, rfl⟩, decide_eq_true rfl⟩
  unfold put
  rw [hany]
  by_cases ht : t ∈ ws.map Wy.t
  · rw [if_pos (decide_eq_true ht)]
    refine ⟨ws.map fun x => if x.t = t then ⟨t, A, c⟩ else x, ?_, ?_, ?_⟩
    · rw [List.map_map, List.map_map]
      apply List.map_congr_left
      intro x _
      simp only [Function.comp_def]
      by_cases e : x.t = t
      · rw [if_pos e, if_pos (show x.p.1 = keyB t from congrArg keyB e)]
        simp [Wy.p, e]
      · rw [if_neg e, if_neg (show ¬ x.p.1 = keyB t from fun h => e (keyB_inj h))]
    · rw [List.map_map, mark, if_pos ht]
      apply List.map_congr_left
      intro x _
      simp only [Function.comp_def]
      split
      · rename_i e; exact e.symm
      · rfl
    · intro x hx
      obtain ⟨y, hy, rfl⟩ := List.mem_map.1 hx
      split
      · exact .inr rfl
      · exact .inl hy
  · rw [if_neg (by simp [ht])]
    refine ⟨ws ++ [⟨t, A, c⟩], by simp [Wy.p], by simp [mark, ht], ?_⟩
    intro x hx
    rcases List.mem_append.1 hx with h | h
    · exact .inl h
    · exact .inr (by simpa using h)
end
section
variable {B g m : Nat} {w0 w : World} {T : List Wt} {t : Wt} {ops : Array Oper} {o : Oper} {a : Act} {K : Act → World → Prop} {Q : Exit → Act → World → Prop} {E : Prop}
theorem Inv.put (h : Inv B w0 g m T w) {A : Option Addr} {c : Nat} (hx : Wy.ok B g m w ⟨t, A, c⟩) :
    ∃ w', (Instr.mapUpdate 37 (.map (some m)) (.string (keyB t)) (.agg #[.int .i64 t.1, .slice A t.2.2.length c])).run Tryd.prog w = .ok () w' ∧ Inv B w0 g m (mark T t) w' ∧ Keep (fun k => k = m) w w' := by
  have hgm := h.gm
  obtain ⟨ws, e, h1, h2, h3, h4, h5, h6⟩ := h
  obtain ⟨w', hrun, r1, r2, _⟩ := h2.update (P := Tryd.prog) inj_str key_str Tryd.underlying37 Tryd.underlying9 (keyB t) ((t.1, A, t.2.2.length, c) : EV)
  have hk : Keep (fun k => k = m) w w' := (Keep.refl _ w).grown r2 (fun k hk => .inl (by injection hk with hk; exact hk.symm))
  obtain ⟨ws', e1, e2, e3⟩ := put_map ws t A c
  rw [e1] at r1
  refine ⟨w', hrun, ⟨ws', by rw [e2, e], (hk.block g (Array.getElem?_eq_some_iff.1 h1).1 hgm).trans h1, r1, h3, h4, h5.trans (hk.below (Nat.le_of_lt (Nat.lt_of_le_of_lt h4 h2.lt)) (fun k hk => by subst hk; exact h4)), fun x hx' => ?_⟩, hk⟩
  rcases e3 x hx' with h | h
  · exact (h6 x h).keep hk
  · subst h; exact hx.keep hk
theorem step_mark (hg : o.guard = none) (x y z : Operand) (ho : o.op = .mapUpdate 37 x y z) (h : Inv B w0 g m T w) {A : Option Addr} {c : Nat} (hx : a.eval x = .map (some m)) (hy : a.eval y = .string (keyB t)) (hz : a.eval z = .agg #[.int .i64 t.1, .slice A t.2.2.length c]) (hok : Wy.ok B g m w ⟨t, A, c⟩)
    (hK : ∀ w', Inv B w0 g m (mark T t) w' → Keep (fun k => k = m) w w' → K (a.put o.dst undef) w') : if Region.wanted o (yielded ops a.tmps) = true then Oper.wp Tryd.prog o a w K Q else E := by
  have hw : Region.wanted o (yielded ops a.tmps) = true := by simp [Region.wanted, hg]
  rw [if_pos hw]
  obtain ⟨w', hrun, r1, r2⟩ := h.put hok
  unfold Oper.wp
  simp [execOp, ho, hx, hy, hz, hrun, Result.andThen]
  exact hK w' r1 r2
end

theorem set_new (w : World) : Calls Tryd.prog 6 #[] w fun e w' => ∃ g m, e = .returned (.pointer (some ⟨g, 0, none⟩)) ∧ Inv w.heap.size w g m [] w' ∧ g < w'.heap.size ∧ Below w.heap.size w w' := by
  have hmm := @run_makeMap Tryd.prog
  go_enter Tryd.func6, Tryd.ntmps6
  go_wp2
  go_ret
  have hb : Below w.heap.size w ((w.alloc (Obj.map #[] 0)).alloc (Obj.cells #[Value.map (some w.heap.size)] 39)) := ((Below.refl _ w).alloc (Nat.le_refl _) _).alloc (by simp) _
  refine ⟨w.heap.size + 1, w.heap.size, rfl, ⟨[], rfl, ?_, (IsMap.made w _ _).move (Below.heap_alloc _ _ _ (by simp)), by omega, Nat.le_refl _, hb, fun x hx => by cases hx⟩, by simp, hb⟩
  have := heap_alloc_new (w.alloc (Obj.map #[] 0)) (Obj.cells #[Value.map (some w.heap.size)] 39)
  simpa using this
theorem set_len {B g m : Nat} {w0 W : World} {T : List Wt} (h : Inv B w0 g m T W) : Calls Tryd.prog 9 #[.pointer (some ⟨g, 0, none⟩)] W fun e w' => e = .returned (.int .i64 T.length) ∧ W = w' := by
  have hc := h.cell
  have hlen : (Builtin.len_ #[37] 3 #[.map (some m)]).run Tryd.prog W = .ok (.int .i64 T.length) W := by
    obtain ⟨ws, e, _, h2, _⟩ := h
    have := h2.len (P := Tryd.prog) Tryd.underlying37 3
    rw [this, ← e]; simp
  go_enter Tryd.func9, Tryd.ntmps9
  go_wp2
  go_ret
  exact ⟨rfl, rfl⟩
/-- A way's arguments: its facts lie in a row. -/
structure ArgOk (W : World) (t : Wt) (A : Option Addr) (c : Nat) : Prop where
  row : RowAt W (Value.int .i64) A t.2.2
  nil : A = none → c = 0
  few : t.2.2.length ≤ 1000
  r : okI t.1
  al : okI t.2.1
  fs : ∀ x ∈ t.2.2, okI x
theorem ArgOk.below {W W' : World} {t : Wt} {A : Option Addr} {c : Nat} (h : ArgOk W t A c) (hb : Below W.heap.size W W') : ArgOk W' t A c := ⟨h.row.below hb, h.nil, h.few, h.r, h.al, h.fs⟩
theorem key_w {W0 W : World} {t : Wt} {A : Option Addr} {c : Nat} (h : ArgOk W0 t A c) (ht : Tab W0) (hW : Below W0.heap.size W0 W) :
    Calls Tryd.prog 16 #[.int .i64 t.1, .int .i64 t.2.1, .slice A t.2.2.length c] W fun e w' => e = .returned (.string (keyB t)) ∧ Below W0.heap.size W0 w' := by
  have h' := h.below hW
  exact (key_any t.1 t.2.1 A c t.2.2 W h.r h.al h.fs h.few h'.row (ht.b hW)).mono fun _ _ h => ⟨h.1, hW.trans (h.2.mono hW.size)⟩
theorem key_w2 {W0 W : World} {t : Wt} {A : Option Addr} {c : Nat} (h : ArgOk W0 t A c) (ht : Tab W0) (hW : Below W0.heap.size W0 W) :
    Calls Tryd.prog 16 #[.int .i64 t.1, .int .i64 t.2.1, .slice A t.2.2.length c] W fun e w' => e = .returned (.string (keyB t)) ∧ Below W0.heap.size W0 w' ∧ Below W.heap.size W w' := by
  have h' := h.below hW
  exact (key_any t.1 t.2.1 A c t.2.2 W h.r h.al h.fs h.few h'.row (ht.b hW)).mono fun _ _ h => ⟨h.1, hW.trans (h.2.mono hW.size), h.2⟩
/-- The clone of a way's facts. -/
theorem clone_w {W0 W : World} {t : Wt} {A : Option Addr} {c : Nat} (B g m : Nat) (hg : g < W0.heap.size) (hm : m < W0.heap.size) (hB : B ≤ W0.heap.size) (h : ArgOk W0 t A c) (hW : Below W0.heap.size W0 W) :
    Calls Tryd.prog 15 #[.slice A t.2.2.length c] W fun e w' => ∃ A' c', e = .returned (.slice A' t.2.2.length c') ∧ Wy.ok B g m w' ⟨t, A', c'⟩ ∧ Below W0.heap.size W0 w' := by
  have h' := h.below hW
  cases A with
  | none =>
    obtain rfl := h.nil rfl
    have hl : t.2.2 = [] := by
      cases e : t.2.2 with
      | nil => rfl
      | cons x l =>
        have hr := h.row
        rw [e] at hr
        obtain ⟨_, e2, _⟩ := hr 0 (by simp)
        cases e2
    rw [show t.2.2.length = 0 by rw [hl]; rfl]
    refine (clone_nil W).mono ?_
    rintro e w' ⟨rfl, rfl⟩
    refine ⟨none, 0, rfl, fun k hk => ?_, hW⟩
    rw [hl] at hk
    cases hk
  | some ad =>
    refine (clone_some ad c t.2.2 W h'.row h.few).mono ?_
    rintro e w' ⟨b, cp, rfl, ho, _, hb⟩
    refine ⟨some ⟨b, 0, none⟩, cp, rfl, fun k hk => ?_, hW.trans (hb.mono hW.size)⟩
    have hblk := (ho.lt b rfl).1
    have hs := hW.size
    refine ⟨b, rfl, by omega, by omega, by omega, ?_⟩
    have := ho.cells (g := b) rfl k (.int .i64 t.2.2[k]) (by rw [List.getElem?_map, List.getElem?_eq_getElem hk]; rfl)
    have e2 : (⟨b, 0, none⟩ : Addr).add k = ⟨b, k, none⟩ := by simp [Addr.add]; omega
    rwa [e2] at this

set_option maxHeartbeats 1000000 in
theorem set_mark {B g m : Nat} {w0 W : World} {T : List Wt} {t : Wt} {A : Option Addr} {c : Nat} (hI : Inv B w0 g m T W) (ht : Tab W) (hB : B ≤ W.heap.size) (ha : ArgOk W t A c) :
    Calls Tryd.prog 7 #[.pointer (some ⟨g, 0, none⟩), .int .i64 t.1, .int .i64 t.2.1, .slice A t.2.2.length c] W fun e w' => e = .returned (.tuple #[]) ∧ Inv B w0 g m (mark T t) w' ∧ Keep (fun k => k = m) W w' := by
  have hcell : Hid (∀ w', Below W.heap.size W w' → w'.cell? ⟨g, 0, none⟩ = some (.map (some m))) := Lib.hid (fun w' h => (hI.grow h hB).cell)
  have hl := hI.lt
  have HI := Lib.hid (fun w' (h : Below W.heap.size W w') => hI.grow h hB)
  have KW := Lib.hid (fun w' (h : Below W.heap.size W w') => key_w ha ht h)
  have CW := Lib.hid (fun w' (h : Below W.heap.size W w') => clone_w B g m hl.1 hl.2 hB ha h)
  obtain ⟨r, al, l⟩ := t
  dsimp only at *
  clear hI ht ha hl
  have hc0 := hcell.out _ (Below.refl W.heap.size W)
  go_enter Tryd.func7, Tryd.ntmps7
  have D0 : Below W.heap.size W W.drew := ⟨rfl, rfl, rfl, Nat.le_refl _, fun _ _ => rfl⟩
  have hcd := hcell.out _ D0
  refine wp_region_held_drew (S := (fun w' => Keep (fun k => k = m) W w' ∧ w'.cell? ⟨g, 0, none⟩ = some (.map (some m)))) (by kernel_rfl) ⟨Keep.of_below D0 _, hcell.out _ D0⟩ (fun hHeld => ?_)
  refine wpAnyH_take (i := 0) (oi := ⟨_, _, _, _, _, _⟩) (v := ?_) rfl (by kernel_rfl) (by kernel_rfl) (by kernel_rfl) (fun _ _ _ h => h) (Or.inl ⟨by rfl, ?_⟩) (by assumption) ?_
  rotate_left
  · intro w' hSw; (try dsimp only at hSw); go_simp; (try with_reducible rfl)
  try simp only [Act.put, List.setIfInBounds_toArray, List.set_cons_zero, List.set_cons_succ]
  refine wpAnyH_take (i := 1) (oi := ⟨_, _, _, _, _, _⟩) (v := ?_) rfl (by kernel_rfl) (by kernel_rfl) (by kernel_rfl) (fun _ _ _ h => h) (Or.inl ⟨by rfl, ?_⟩) (by assumption) ?_
  rotate_left
  · intro w' hSw; (try dsimp only at hSw); go_simp; (try with_reducible rfl)
  try simp only [Act.put, List.setIfInBounds_toArray, List.set_cons_zero, List.set_cons_succ]
  refine wpAnyH_take (i := 2) (oi := ⟨_, _, _, _, _, _⟩) (v := ?_) rfl (by kernel_rfl) (by kernel_rfl) (by kernel_rfl) (fun _ _ _ h => h) (Or.inl ⟨by rfl, ?_⟩) (by assumption) ?_
  rotate_left
  · intro w' hSw; (try dsimp only at hSw); go_simp; (try with_reducible rfl)
  try simp only [Act.put, List.setIfInBounds_toArray, List.set_cons_zero, List.set_cons_succ]
  refine wpAnyH_take (i := 3) (oi := ⟨_, _, _, _, _, _⟩) (v := ?_) rfl (by kernel_rfl) (by kernel_rfl) (by kernel_rfl) (fun _ _ _ h => h) (Or.inl ⟨by rfl, ?_⟩) (by assumption) ?_
  rotate_left
  · intro w' hSw; (try dsimp only at hSw); go_simp; (try with_reducible rfl)
  try simp only [Act.put, List.setIfInBounds_toArray, List.set_cons_zero, List.set_cons_succ]
  refine wpAnyH_take (i := 4) (oi := ⟨_, _, _, _, _, _⟩) (v := ?_) rfl (by kernel_rfl) (by kernel_rfl) (by kernel_rfl) (fun _ _ _ h => h) (Or.inl ⟨by rfl, ?_⟩) (by assumption) ?_
  rotate_left
  · intro w' hSw; (try dsimp only at hSw); go_simp; (try with_reducible rfl)
  try simp only [Act.put, List.setIfInBounds_toArray, List.set_cons_zero, List.set_cons_succ]
  refine wpAnyH_take (i := 5) (oi := ⟨_, _, _, _, _, _⟩) (v := ?_) rfl (by kernel_rfl) (by kernel_rfl) (by kernel_rfl) (fun _ _ _ h => h) (Or.inl ⟨by rfl, ?_⟩) (by assumption) ?_
  rotate_left
  · intro w' hSw; (try dsimp only at hSw); go_simp; (try with_reducible rfl)
  try simp only [Act.put, List.setIfInBounds_toArray, List.set_cons_zero, List.set_cons_succ]
  refine wpAnyH_take (i := 6) (oi := ⟨_, _, _, _, _, _⟩) (v := ?_) rfl (by kernel_rfl) (by kernel_rfl) (by kernel_rfl) (fun _ _ _ h => h) (Or.inl ⟨by rfl, ?_⟩) (by assumption) ?_
  rotate_left
  · intro w' hSw; (try dsimp only at hSw); go_simp; (try with_reducible rfl)
  try simp only [Act.put, List.setIfInBounds_toArray, List.set_cons_zero, List.set_cons_succ]
  refine wpAnyH_take (i := 8) (oi := ⟨_, _, _, _, _, _⟩) (v := ?_) rfl (by kernel_rfl) (by kernel_rfl) (by kernel_rfl) (fun _ _ _ h => h) (Or.inl ⟨by rfl, ?_⟩) (by assumption) ?_
  rotate_left
  · intro w' hSw; (try dsimp only at hSw); go_simp; (try with_reducible rfl)
  try simp only [Act.put, List.setIfInBounds_toArray, List.set_cons_zero, List.set_cons_succ]
  refine wpAnyH_take (i := 9) (oi := ⟨_, _, _, _, _, _⟩) (v := ?_) rfl (by kernel_rfl) (by kernel_rfl) (by kernel_rfl) (fun _ _ _ h => h) (Or.inl ⟨by rfl, ?_⟩) (by assumption) ?_
  rotate_left
  · intro w' hSw; (try dsimp only at hSw); go_simp; (try with_reducible rfl)
  try simp only [Act.put, List.setIfInBounds_toArray, List.set_cons_zero, List.set_cons_succ]
  refine wpAnyH_ready (rs := [7]) (by kernel_rfl) (by simp) ?_
  refine AllReadyH.cons (o := ⟨_, _, _, _, _, _⟩) rfl (fun K9 hK9 => ?_) AllReadyH.nil
  go_simp
  (with_reducible refine (KW.out _ D0).mono ?_)
  rintro e w1 ⟨rfl, b1⟩
  go_wp2_with fail
  refine hK9.out _ _ ⟨Keep.of_below b1 _, hcell.out _ b1⟩ (fun hHeld => ?_)
  clear hK9 K9
  try simp only [Act.put, List.setIfInBounds_toArray, List.set_cons_zero, List.set_cons_succ]
  refine wpAnyH_ready (rs := [10]) (by kernel_rfl) (by simp) ?_
  refine AllReadyH.cons (o := ⟨_, _, _, _, _, _⟩) rfl (fun K9 hK9 => ?_) AllReadyH.nil
  go_simp
  (with_reducible refine (CW.out _ b1).mono ?_)
  rintro e w2 ⟨A', c', rfl, hok, b2⟩
  go_wp2_with fail
  refine hK9.out _ _ ⟨Keep.of_below b2 _, hcell.out _ b2⟩ (fun hHeld => ?_)
  clear hK9 K9
  try simp only [Act.put, List.setIfInBounds_toArray, List.set_cons_zero, List.set_cons_succ]
  refine wpAnyH_take (i := 11) (oi := ⟨_, _, _, _, _, _⟩) (v := ?_) rfl (by kernel_rfl) (by kernel_rfl) (by kernel_rfl) (fun _ _ _ h => h) (Or.inl ⟨by rfl, ?_⟩) (by assumption) ?_
  rotate_left
  · intro w' hSw; (try dsimp only at hSw); go_simp; (try with_reducible rfl)
  try simp only [Act.put, List.setIfInBounds_toArray, List.set_cons_zero, List.set_cons_succ]
  refine wpAnyH_ready (rs := [12]) (by kernel_rfl) (by simp) ?_
  refine AllReadyH.cons (o := ⟨_, _, _, _, _, _⟩) rfl (fun K9 hK9 => ?_) AllReadyH.nil
  refine step_mark (t := (r, al, l)) rfl (.tmp 11) (.tmp 15) (.tmp 19) rfl (HI.out _ b2) rfl rfl rfl hok ?_
  intro w3 hI3 hk3
  refine hK9.out _ _ ⟨(Keep.of_below b2 _).trans hk3 (fun k h => .inl h), hI3.cell⟩ (fun hHeld => ?_)
  clear hK9 K9
  simp only [Act.put]
  refine wpAnyH_done (by kernel_rfl) ?_ _
  go_wp2
  go_end0
  exact ⟨rfl, hI3, hHeld.1⟩
theorem look_is {B g m : Nat} {w0 W : World} {T : List Wt} {t : Wt} (h : Inv B w0 g m T W) :
    ∃ r A n c, ∀ w', Below W.heap.size W w' → (Instr.lookup 37 (.map (some m)) (.string (keyB t)) true).run Tryd.prog w' = .ok (.tuple #[.agg #[.int .i64 r, .slice A n c], .bool (decide (t ∈ T))]) w' := by
  obtain ⟨ws, e, _, h2, _⟩ := h
  have hz : ∀ w : World, (zeroValue 42).run Tryd.prog w = .ok (.agg #[.int .i64 0, .slice none 0 0]) w := fun _ => by kernel_rfl
  have hl := lk_key (ws := ws) (t := t)
  rw [e] at hl
  cases hk : lk (ws.map Wy.p) (keyB t) with
  | none =>
    refine ⟨0, none, 0, 0, fun w' hb => ?_⟩
    rw [hk] at hl
    have := (h2.move (hb.block m h2.lt)).lookup (P := Tryd.prog) inj_str key_str Tryd.underlying37 Tryd.underlying9 (hz w') (keyB t) true
    rw [hk] at this
    rw [this, ← hl]; rfl
  | some v =>
    refine ⟨v.1, v.2.1, v.2.2.1, v.2.2.2, fun w' hb => ?_⟩
    rw [hk] at hl
    have := (h2.move (hb.block m h2.lt)).lookup (P := Tryd.prog) inj_str key_str Tryd.underlying37 Tryd.underlying9 (hz w') (keyB t) true
    rw [hk] at this
    rw [this, ← hl]; rfl
theorem pkS {W w1 : World} (q : World → Prop) (h : Below W.heap.size W w1 ∧ q w1) : Below W.heap.size W w1 := h.1
theorem alS {W w1 : World} (q : World → Prop) (h : Below W.heap.size W w1 ∧ q w1) (o : Obj) : Below W.heap.size W (w1.alloc o) := h.1.alloc h.1.size o
theorem al2 {W w1 : World} (h : Below W.heap.size W w1) (o : Obj) : Below W.heap.size W (w1.alloc o) := h.alloc h.size o
theorem st2 {W w1 : World} {b i j : Nat} (h : Below W.heap.size W w1) (hb : W.heap.size ≤ b) (u v : Value) : Below W.heap.size W ((w1.setCell ⟨b, i, none⟩ u).setCell ⟨b, j, none⟩ v) := (h.setCell hb u).setCell hb v
theorem newS {W w1 : World} (h : Below (W.drew.alloc (.cells #[.int .i64 0, .slice none 0 0] 42)).heap.size (W.drew.alloc (.cells #[.int .i64 0, .slice none 0 0] 42)) w1) :
    (w1.cell? ⟨W.heap.size, 0, none⟩ = some (.int .i64 0) ∧ w1.cell? ⟨W.heap.size, 1, none⟩ = some (.slice none 0 0)) ∧ w1.frozen? ⟨W.heap.size, 0, none⟩ = false ∧ w1.frozen? ⟨W.heap.size, 1, none⟩ = false := by
  have e : w1.heap[W.heap.size]? = some (.cells #[.int .i64 0, .slice none 0 0] 42 (0, 0)) := (h.block W.heap.size (by simp)).trans (heap_alloc_new W.drew _)
  exact ⟨⟨block_cell e rfl, block_cell e rfl⟩, block_free e, block_free e⟩
theorem stS {W w1 : World} {b j : Nat} (q : World → Prop) (h : Below W.heap.size W w1 ∧ q w1) (hb : W.heap.size ≤ b) (v : Value) : Below W.heap.size W (w1.setCell ⟨b, j, none⟩ v) := h.1.setCell hb v
set_option maxHeartbeats 1000000 in
theorem set_has {B g m : Nat} {w0 W : World} {T : List Wt} {t : Wt} {A : Option Addr} {c : Nat} (hI : Inv B w0 g m T W) (ht : Tab W) (hB : B ≤ W.heap.size) (ha : ArgOk W t A c) :
    Calls Tryd.prog 10 #[.pointer (some ⟨g, 0, none⟩), .int .i64 t.1, .int .i64 t.2.1, .slice A t.2.2.length c] W fun e w' => e = .returned (.bool (decide (t ∈ T))) ∧ Below W.heap.size W w' := by
  obtain ⟨r0, A0, n0, c0, hlook⟩ := look_is (t := t) hI
  have KW := Lib.hid (fun w' (h : Below W.heap.size W w') => key_w2 ha ht h)
  obtain ⟨r, al, l⟩ := t
  dsimp only at *
  generalize hd : decide ((r, al, l) ∈ T) = v at *
  have HS : Hid (∀ w', Below W.heap.size W w' → (Below W.heap.size W w' ∧ w'.cell? ⟨g, 0, none⟩ = some (.map (some m)) ∧ (Instr.lookup 37 (.map (some m)) (.string (keyB (r, al, l))) true).run Tryd.prog w' = .ok (.tuple #[.agg #[.int .i64 r0, .slice A0 n0 c0], .bool v]) w')) :=
    Lib.hid (fun w' h => ⟨h, (hI.grow h hB).cell, hlook w' h⟩)
  clear hI ht ha hlook hd
  have D0 : Below W.heap.size W W.drew := ⟨rfl, rfl, rfl, Nat.le_refl _, fun _ _ => rfl⟩
  go_enter Tryd.func10, Tryd.ntmps10
  go_wp2_with fail
  go_region_held3 (fun w' => Below W.heap.size W w' ∧ w'.cell? ⟨g, 0, none⟩ = some (.map (some m)) ∧ (Instr.lookup 37 (.map (some m)) (.string (keyB (r, al, l))) true).run Tryd.prog w' = .ok (.tuple #[.agg #[.int .i64 r0, .slice A0 n0 c0], .bool v]) w')
    (first
      | exact HS.out _ (by assumption)
      | exact HS.out _ (pkS (fun w' => w'.cell? ⟨g, 0, none⟩ = some (.map (some m)) ∧ (Instr.lookup 37 (.map (some m)) (.string (keyB (r, al, l))) true).run Tryd.prog w' = .ok (.tuple #[.agg #[.int .i64 r0, .slice A0 n0 c0], .bool v]) w') (by assumption))
      | exact HS.out _ (alS (fun w' => w'.cell? ⟨g, 0, none⟩ = some (.map (some m)) ∧ (Instr.lookup 37 (.map (some m)) (.string (keyB (r, al, l))) true).run Tryd.prog w' = .ok (.tuple #[.agg #[.int .i64 r0, .slice A0 n0 c0], .bool v]) w') (by assumption) _)
      | exact HS.out _ (al2 (by assumption) _)
      | exact HS.out _ (st2 (by assumption) (Nat.le_refl _) _ _)
      | exact HS.out _ (stS (fun w' => w'.cell? ⟨g, 0, none⟩ = some (.map (some m)) ∧ (Instr.lookup 37 (.map (some m)) (.string (keyB (r, al, l))) true).run Tryd.prog w' = .ok (.tuple #[.agg #[.int .i64 r0, .slice A0 n0 c0], .bool v]) w') (by assumption) (by first | exact Nat.le_refl _ | exact Below.size (by assumption) | exact Below.size (pkS (fun w' => w'.cell? ⟨g, 0, none⟩ = some (.map (some m)) ∧ (Instr.lookup 37 (.map (some m)) (.string (keyB (r, al, l))) true).run Tryd.prog w' = .ok (.tuple #[.agg #[.int .i64 r0, .slice A0 n0 c0], .bool v]) w') (by assumption))) _))
    (first
      | (go_at_call 16; refine (KW.out _ (by first | assumption | exact pkS (fun w' => w'.cell? ⟨g, 0, none⟩ = some (.map (some m)) ∧ (Instr.lookup 37 (.map (some m)) (.string (keyB (r, al, l))) true).run Tryd.prog w' = .ok (.tuple #[.agg #[.int .i64 r0, .slice A0 n0 c0], .bool v]) w') (by assumption))).mono ?_; rintro e w1 ⟨rfl, b1, b1'⟩; (first | (have hn := newS b1'; clear b1'; obtain ⟨⟨_, _⟩, _, _⟩ := hn) | clear b1')))
  all_goals
    rename _ ∧ _ ∧ _ => hH
    have E := Lib.hid hH.1
    go_wp2
    go_ret
    exact ⟨rfl, E.out⟩
end Go.Proofs.YtcffphojpnbcbaaDoor
