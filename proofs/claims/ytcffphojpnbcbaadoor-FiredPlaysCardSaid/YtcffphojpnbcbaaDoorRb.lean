/- refr.Set: Gone, Clear. -/
import Derived.Test.YtcffphojpnbcbaaDoorRa
namespace Go.Proofs.YtcffphojpnbcbaaDoor
open Go.RowKit Go.Lib KP MR

section
variable {B g m : Nat} {w0 w W : World} {T : List Wt} {t : Wt} {ops : Array Oper} {o : Oper} {a : Act} {K : Act → World → Prop} {Q : Exit → Act → World → Prop} {E : Prop}
theorem ret_bool {a b : Bool} (h : a = b) : Ending.returned (.bool a) = .returned (.bool b) := by rw [h]
theorem filter_map_p (ws : List Wy) (f : Wt → Bool) (F : ByteArray × EV → Bool) (h : ∀ x ∈ ws, F x.p = f x.t) : (ws.map Wy.p).filter F = (ws.filter fun x => f x.t).map Wy.p := by
  rw [List.filter_map]
  congr 1
  exact List.filter_congr h
theorem filter_map_t (ws : List Wy) (f : Wt → Bool) : (ws.filter fun x => f x.t).map Wy.t = (ws.map Wy.t).filter f := by
  rw [List.filter_map]; rfl
theorem Inv.drop (h : Inv B w0 g m T w) (t : Wt) (ty : TypeId) :
    ∃ w', (Builtin.delete_ #[37, 9] ty #[.map (some m), .string (keyB t)]).run Tryd.prog w = .ok (.tuple #[]) w' ∧ Inv B w0 g m (T.filter fun x => decide (x ≠ t)) w' ∧ Keep (fun k => k = m) w w' := by
  have hgm := h.gm
  obtain ⟨ws, e, h1, h2, h3, h4, h5, h6⟩ := h
  obtain ⟨w', hrun, r1, r2, _⟩ := h2.delete (P := Tryd.prog) inj_str key_str Tryd.underlying37 Tryd.underlying9 (keyB t) ty 9
  have hk : Keep (fun k => k = m) w w' := (Keep.refl _ w).grown r2 (fun k hk => .inl (by injection hk with hk; exact hk.symm))
  have hd : del (ws.map Wy.p) (keyB t) = (ws.filter fun x => decide (x.t ≠ t)).map Wy.p :=
    filter_map_p ws (fun x => decide (x ≠ t)) _ (fun x _ => by
      have : (x.p.1 ≠ keyB t) ↔ (x.t ≠ t) := ⟨fun h e => h (congrArg keyB e), fun h e => h (keyB_inj e)⟩
      simp only [this])
  rw [hd] at r1
  exact ⟨w', hrun, ⟨ws.filter fun x => decide (x.t ≠ t), by rw [filter_map_t ws (fun x => decide (x ≠ t)), e], (hk.block g (Array.getElem?_eq_some_iff.1 h1).1 hgm).trans h1, r1, h3, h4, h5.trans (hk.below (Nat.le_of_lt (Nat.lt_of_le_of_lt h4 h2.lt)) (fun k hk => by subst hk; exact h4)), fun x hx => (h6 x ((List.mem_filter.1 hx).1)).keep hk⟩, hk⟩
theorem step_gone (hg : o.guard = none) (x y : Operand) (ho : o.op = .call { callee := .builtin .delete, args := #[x, y], argTypes := #[37, 9] }) (h : Inv B w0 g m T w) (hx : a.eval x = .map (some m)) (hy : a.eval y = .string (keyB t))
    (hK : ∀ w', Inv B w0 g m (T.filter fun x => decide (x ≠ t)) w' → Keep (fun k => k = m) w w' → K (a.put o.dst (.tuple #[])) w') : if Region.wanted o (yielded ops a.tmps) = true then Oper.wp Tryd.prog o a w K Q else E := by
  have hw : Region.wanted o (yielded ops a.tmps) = true := by simp [Region.wanted, hg]
  rw [if_pos hw]
  obtain ⟨w', hrun, r1, r2⟩ := h.drop t o.type
  unfold Oper.wp
  simp [execOp, ho, resolve, invoke, builtin, hx, hy, hrun, Result.andThen]
  exact hK w' r1 r2
end

set_option maxHeartbeats 1000000 in
theorem set_gone {B g m : Nat} {w0 W0 : World} {T : List Wt} {t : Wt} {A : Option Addr} {c : Nat} (hI0 : Inv B w0 g m T W0) (ht0 : Tab W0) (hB : B ≤ W0.heap.size) (ha0 : ArgOk W0 t A c) :
    Calls Tryd.prog 12 #[.pointer (some ⟨g, 0, none⟩), .int .i64 t.1, .int .i64 t.2.1, .slice A t.2.2.length c] W0 fun e w' => e = .returned (.bool (decide (t ∈ T))) ∧ Inv B w0 g m (T.filter fun x => decide (x ≠ t)) w' ∧ Keep (fun k => k = m) W0 w' := by
  have hH := set_has hI0 ht0 hB ha0
  generalize hd : decide (t ∈ T) = v at *
  clear hd
  have HH := Lib.hid hH
  have X := Lib.hid (fun W (b : Below W0.heap.size W0 W) => (⟨hI0.grow b hB, ht0.b b, Nat.le_trans hB b.size, ha0.below b⟩ : Inv B w0 g m T W ∧ Tab W ∧ B ≤ W.heap.size ∧ ArgOk W t A c))
  clear hI0 ht0 ha0 hH hB
  obtain ⟨r, al, l⟩ := t
  dsimp only at *
  go_enter Tryd.func12, Tryd.ntmps12
  go_wp2_with fail
  refine HH.out.mono ?_
  rintro e W ⟨rfl, b1⟩
  have E1 := Lib.hid b1
  obtain ⟨hI, ht, hB, ha⟩ := X.out _ b1
  clear b1
  have hcell : Hid (∀ w', Below W.heap.size W w' → w'.cell? ⟨g, 0, none⟩ = some (.map (some m))) := Lib.hid (fun w' h => (hI.grow h hB).cell)
  have HI := Lib.hid (fun w' (h : Below W.heap.size W w') => hI.grow h hB)
  have KW := Lib.hid (fun w' (h : Below W.heap.size W w') => key_w ha ht h)
  dsimp only at *
  clear hI ht ha
  go_wp2_with fail
  have D0 : Below W.heap.size W W.drew := ⟨rfl, rfl, rfl, Nat.le_refl _, fun _ _ => rfl⟩
  have hcd := hcell.out _ D0
  refine wp_region_held_drew (S := (fun w' => Keep (fun k => k = m) W w' ∧ w'.cell? ⟨g, 0, none⟩ = some (.map (some m)))) (by kernel_rfl) ⟨Keep.of_below D0 _, hcell.out _ D0⟩ (fun hHeld => ?_)
  refine wpAnyH_take (i := 0) (oi := ⟨_, _, _, _, _, _⟩) (v := ?_) rfl (by kernel_rfl) (by kernel_rfl) (by kernel_rfl) (fun _ _ _ h => h) (Or.inl ⟨by rfl, ?_⟩) (by assumption) ?_
  rotate_left
  · intro w' hSw; (try dsimp only at hSw); go_simp; (try with_reducible rfl)
  try simp only [Act.put, List.setIfInBounds_toArray, List.set_cons_zero, List.set_cons_succ]
  refine wpAnyH_take (i := 1) (oi := ⟨_, _, _, _, _, _⟩) (v := ?_) rfl (by kernel_rfl) (by kernel_rfl) (by kernel_rfl) (fun _ _ _ h => h) (Or.inl ⟨by rfl, ?_⟩) (by assumption) ?_
  rotate_left
  · intro w' hSw; (try dsimp only at hSw); go_simp; (try with_reducible rfl)
  try simp only [Act.put, List.setIfInBounds_toArray, List.set_cons_zero, List.set_cons_succ]
  refine wpAnyH_take (i := 2) (oi := ⟨_, _, _, _, _, _⟩) (v := ?_) rfl (by kernel_rfl) (by kernel_rfl) (by kernel_rfl) (fun _ _ _ h => h) (Or.inl ⟨by rfl, ?_⟩) (by assumption) ?_
  rotate_left
  · intro w' hSw; (try dsimp only at hSw); go_simp; (try with_reducible rfl)
  try simp only [Act.put, List.setIfInBounds_toArray, List.set_cons_zero, List.set_cons_succ]
  refine wpAnyH_take (i := 3) (oi := ⟨_, _, _, _, _, _⟩) (v := ?_) rfl (by kernel_rfl) (by kernel_rfl) (by kernel_rfl) (fun _ _ _ h => h) (Or.inl ⟨by rfl, ?_⟩) (by assumption) ?_
  rotate_left
  · intro w' hSw; (try dsimp only at hSw); go_simp; (try with_reducible rfl)
  try simp only [Act.put, List.setIfInBounds_toArray, List.set_cons_zero, List.set_cons_succ]
  refine wpAnyH_take (i := 4) (oi := ⟨_, _, _, _, _, _⟩) (v := ?_) rfl (by kernel_rfl) (by kernel_rfl) (by kernel_rfl) (fun _ _ _ h => h) (Or.inl ⟨by rfl, ?_⟩) (by assumption) ?_
  rotate_left
  · intro w' hSw; (try dsimp only at hSw); go_simp; (try with_reducible rfl)
  try simp only [Act.put, List.setIfInBounds_toArray, List.set_cons_zero, List.set_cons_succ]
  refine wpAnyH_take (i := 5) (oi := ⟨_, _, _, _, _, _⟩) (v := ?_) rfl (by kernel_rfl) (by kernel_rfl) (by kernel_rfl) (fun _ _ _ h => h) (Or.inl ⟨by rfl, ?_⟩) (by assumption) ?_
  rotate_left
  · intro w' hSw; (try dsimp only at hSw); go_simp; (try with_reducible rfl)
  try simp only [Act.put, List.setIfInBounds_toArray, List.set_cons_zero, List.set_cons_succ]
  refine wpAnyH_take (i := 6) (oi := ⟨_, _, _, _, _, _⟩) (v := ?_) rfl (by kernel_rfl) (by kernel_rfl) (by kernel_rfl) (fun _ _ _ h => h) (Or.inl ⟨by rfl, ?_⟩) (by assumption) ?_
  rotate_left
  · intro w' hSw; (try dsimp only at hSw); go_simp; (try with_reducible rfl)
  try simp only [Act.put, List.setIfInBounds_toArray, List.set_cons_zero, List.set_cons_succ]
  refine wpAnyH_ready (rs := [7]) (by kernel_rfl) (by simp) ?_
  refine AllReadyH.cons (o := ⟨_, _, _, _, _, _⟩) rfl (fun K9 hK9 => ?_) AllReadyH.nil
  go_simp
  (with_reducible refine (KW.out _ D0).mono ?_)
  rintro e w2 ⟨rfl, b2⟩
  go_wp2_with fail
  refine hK9.out _ _ ⟨Keep.of_below b2 _, hcell.out _ b2⟩ (fun hHeld => ?_)
  clear hK9 K9
  try simp only [Act.put, List.setIfInBounds_toArray, List.set_cons_zero, List.set_cons_succ]
  refine wpAnyH_ready (rs := [8]) (by kernel_rfl) (by simp) ?_
  refine AllReadyH.cons (o := ⟨_, _, _, _, _, _⟩) rfl (fun K9 hK9 => ?_) AllReadyH.nil
  refine step_gone (t := (r, al, l)) rfl (.tmp 18) (.tmp 22) rfl (HI.out _ b2) rfl rfl ?_
  intro w3 hI3 hk3
  refine hK9.out _ _ ⟨(Keep.of_below b2 _).trans hk3 (fun k h => .inl h), hI3.cell⟩ (fun hHeld => ?_)
  clear hK9 K9
  simp only [Act.put]
  refine wpAnyH_done (by kernel_rfl) ?_ _
  have EI := Lib.hid hI3
  have EK := Lib.hid ((Keep.of_below E1.out (fun k => k = m)).trans hHeld.1 (fun k h => .inl h))
  clear hI3 hHeld hk3
  go_wp2
  go_ret
  exact ⟨rfl, EI.out, EK.out⟩

theorem clos18 (k : ByteArray) (r : Int) (A : Option Addr) (n c : Nat) (q : Addr) (rule : Int) (W : World) (h : W.cell? q = some (.int .i64 rule)) :
    Calls Tryd.prog 18 #[.string k, .agg #[.int .i64 r, .slice A n c], .pointer (some q)] W fun e w' => e = .returned (.bool (decide (rule < 0) || decide (r = rule))) ∧ Below W.heap.size W w' := by
  have h2 : (W.alloc (.cells #[.int .i64 r, .slice A n c] 42)).cell? q = some (.int .i64 rule) := (Below.cell ((Below.refl _ W).alloc (Nat.le_refl _) _) (World.block_lt_of_cell? W q h)).trans h
  clear h
  by_cases h0 : rule < 0
  · go_enter Tryd.func18, Tryd.ntmps18
    go_wp2
    go_ret
    exact ⟨ret_bool (by simp [h0]), (Below.refl _ W).alloc (Nat.le_refl _) _⟩
  · have h0' : decide (rule < 0) = false := by simpa using h0
    have h0'' : 0 ≤ rule := by omega
    clear h0
    go_enter Tryd.func18, Tryd.ntmps18
    go_wp2
    go_ret
    exact ⟨ret_bool (by rw [h0', Bool.false_or, Bool.eq_iff_iff]; simp), (Below.refl _ W).alloc (Nat.le_refl _) _⟩
theorem len_is {B g m : Nat} {w0 W : World} {T : List Wt} (h : Inv B w0 g m T W) (ty : TypeId) : (Builtin.len_ #[37] ty #[.map (some m)]).run Tryd.prog W = .ok (.int .i64 T.length) W := by
  obtain ⟨ws, e, _, h2, _⟩ := h
  have := h2.len (P := Tryd.prog) Tryd.underlying37 ty
  rw [this, ← e]; simp

/-- Does a way stay when a rule is cleared? -/
def stayT (rule : Int) (t : Wt) : Bool := !(decide (rule < 0) || decide (t.1 = rule))
def stayP (rule : Int) (p : ByteArray × EV) : Bool := !(decide (rule < 0) || decide (p.2.1 = rule))
section
variable {w : World} {r m : Nat} {l todo : List (ByteArray × EV)} {ops : Array Oper} {rest' : List Oper} {o : Oper} {a : Act} {Q : Exit → Act → World → Prop}
def but (t : List (ByteArray × EV)) (k : ByteArray) : List (ByteArray × EV) := t.filter fun q => decide (q.1 ≠ k)
theorem refr_next (hg : o.guard = none) (it : Operand) (hop : o.op = Op.next it false) (h : Iter w r m Value.string eW l todo) (hit : a.eval it = .pointer (some ⟨r, 0, none⟩))
    (hDone : todo = [] → wpList Tryd.prog ops Q rest' (a.put o.dst (.tuple #[.bool false])) w)
    (hMore : ∀ k rr A n c w', (k, rr, A, n, c) ∈ todo → Iter w' r m Value.string eW l (but todo k) → w.grownBy w' (some r) → w'.heap.size = w.heap.size →
      (Instr.entry (.pointer (some ⟨r, 0, none⟩))).run Tryd.prog w' = .ok (.tuple #[.string k, .agg #[.int .i64 rr, .slice A n c]]) w' → wpList Tryd.prog ops Q rest' (a.put o.dst (.tuple #[.bool true, .string k, .agg #[.int .i64 rr, .slice A n c]])) w') : wpList Tryd.prog ops Q (o :: rest') a w :=
  wp_next hg it hop inj_str h hit hDone (fun p w' hp h1 h2 h3 h4 => hMore p.1 p.2.1 p.2.2.1 p.2.2.2.1 p.2.2.2.2 w' hp h1 h2 h3 h4)
end

set_option maxHeartbeats 1000000 in
theorem delete_func {m qb : Nat} {W : World} {L0 : List (ByteArray × EV)} (rule : Int) (hI : IsMap W m Value.string eW L0) (hq : W.cell? ⟨qb, 0, none⟩ = some (.int .i64 rule)) :
    Calls Tryd.prog 17 #[.map (some m), .func (.func 18) #[] #[.pointer (some ⟨qb, 0, none⟩)]] W fun e w' => e = .returned (.tuple #[]) ∧ IsMap w' m Value.string eW (L0.filter (stayP rule)) ∧ Keep (fun k => k = m) W w' := by
  have hn := Lib.hid hI.nodup
  have hqm : qb ≠ m := by
    rintro rfl
    obtain ⟨es, clock, hb, _⟩ := hI
    unfold World.cell? at hq
    rw [hb] at hq
    cases hq
  go_enter Tryd.func17, Tryd.ntmps17
  go_wp2_with (at_range; refine wp_range rfl (.tmp 6) 37 rfl Tryd.underlying37 hI rfl ?_; intro w0 hi0 hg0 hs0)
  go_frame
  have hk0 : Keep (fun k => k = m) W w0 := (Keep.refl _ W).grown hg0 (fun k hk => by cases hk)
  go_loopw [4] (fun _ wr => ∃ todo, Hid (Iter wr W.heap.size m Value.string eW (rest L0 (stayP rule) todo) todo) ∧ Hid (∀ p ∈ todo, p ∈ L0) ∧ Hid (Keep (fun k => k = m) W wr)) (fun _ wr => leftN wr W.heap.size m)
  case atStart => exact ⟨L0, Lib.hid (by rw [rest_start]; exact hi0), Lib.hid (fun _ h => h), Lib.hid hk0⟩
  case round =>
    obtain ⟨todo, hi, hsub, hk⟩ := hrel
    have hm0 := Lib.hid (hi.out.left)
    go_wp2_with (at_next; refine refr_next rfl (.tmp 7) rfl hi.out rfl ?_ ?_)
    · intro ht
      have HT := Lib.hid ht; clear ht
      go_wp2
      go_end0
      exact ⟨rfl, by have := hi.out.isMap; rwa [HT.out, rest_end] at this, hk.out⟩
    · intro k rr A n c w1 hp hi1 hg1 hs1 hen
      have hk1 : Keep (fun k => k = m) W w1 := hk.out.grown hg1 (fun k hk => .inr (by injection hk with hk; omega))
      have hq1 : w1.cell? ⟨qb, 0, none⟩ = some (.int .i64 rule) := hk1.cell hq hqm
      have hb1 := (Below.refl _ w1).alloc (Nat.le_refl _) (.cells #[.int .i64 rr, .slice A n c] 42)
      have hq2 := Lib.hid ((hb1.cell (p := ⟨qb, 0, none⟩) (World.block_lt_of_cell? _ _ hq1)).trans hq1)
      have X : Hid (∀ w2, Below (w1.alloc (.cells #[.int .i64 rr, .slice A n c] 42)).heap.size (w1.alloc (.cells #[.int .i64 rr, .slice A n c] 42)) w2 →
          Iter w2 W.heap.size m Value.string eW (rest L0 (stayP rule) todo) (but todo k) ∧ Keep (fun k => k = m) W w2) := Lib.hid (fun w2 h => by
        have h2 := hb1.trans (h.mono hb1.size)
        exact ⟨hi1.move (h2.block m hi1.isMap.lt) (h2.block _ hi1.lt), hk1.trans (Keep.of_below h2 (fun _ => False)) (fun _ h => h.elim)⟩)
      have HP := Lib.hid hp
      have HL := Lib.hid (todo_less hp)
      have HS : Hid (∀ q ∈ but todo k, q ∈ L0) := Lib.hid (fun q hq => hsub.out q (List.mem_filter.1 hq).1)
      clear hp hi1 hg1 hs1 hk1 hq1 hb1
      go_wp2_with fail
      refine (clos18 k rr A n c ⟨qb, 0, none⟩ rule _ hq2.out).mono ?_
      by_cases hst : stayP rule (k, rr, A, n, c) = true
      · rw [show (decide (rule < 0) || decide (rr = rule)) = false by simpa [stayP] using hst]
        rintro e w2 ⟨rfl, b2⟩
        obtain ⟨i2, k2⟩ := X.out _ b2
        have I2 := Lib.hid (show Iter w2 W.heap.size m Value.string eW (rest L0 (stayP rule) (but todo k)) (but todo k) by
          have := rest_stays (todo := todo) hn.out (hsub.out _ HP.out) hst
          dsimp only at this
          unfold but at *
          rw [this]; exact i2)
        have K2 := Lib.hid k2
        clear i2 k2 b2 X hst
        go_wp2
        go_roundw
        case rel => exact ⟨_, I2, HS, K2⟩
        case measure => rw [I2.out.left, hm0.out]; exact HL.out
      · have hst' : stayP rule (k, rr, A, n, c) = false := by simpa using hst
        rw [show (decide (rule < 0) || decide (rr = rule)) = true by revert hst'; unfold stayP; cases (decide (rule < 0) || decide (rr = rule)) <;> simp]
        rintro e w2 ⟨rfl, b2⟩
        obtain ⟨i2, k2⟩ := X.out _ b2
        have HR := Lib.hid (show rest L0 (stayP rule) (but todo k) = del (rest L0 (stayP rule) todo) k from rest_goes (todo := todo) hn.out (hsub.out _ HP.out) hst')
        have I2 := Lib.hid i2
        have K2 := Lib.hid k2
        have NT : Hid (∀ q ∈ but todo k, q.1 ≠ k) := Lib.hid (fun q hq => of_decide_eq_true (List.mem_filter.1 hq).2)
        clear i2 k2 b2 X hst hst'
        go_wp2_with (at_delete; refine wp_delete_it rfl (.tmp 17) (.tmp 18) 37 9 rfl inj_str key_str Tryd.underlying37 Tryd.underlying9 I2.out k NT.out rfl rfl ?_; intro w3 i3 g3 s3; go_frame)
        have I3 := Lib.hid (show Iter w3 W.heap.size m Value.string eW (rest L0 (stayP rule) (but todo k)) (but todo k) by rw [HR.out]; exact i3)
        have K3 := Lib.hid (K2.out.grown g3 (fun k hk => .inl (by injection hk with hk; exact hk.symm)))
        clear i3 g3 s3
        go_wp2
        go_roundw
        case rel => exact ⟨_, I3, HS, K3⟩
        case measure => rw [I3.out.left, hm0.out]; exact HL.out

theorem delete_inv {B g m qb : Nat} {w0 W : World} {T : List Wt} (rule : Int) (hI : Inv B w0 g m T W) (hq : W.cell? ⟨qb, 0, none⟩ = some (.int .i64 rule)) :
    Calls Tryd.prog 17 #[.map (some m), .func (.func 18) #[] #[.pointer (some ⟨qb, 0, none⟩)]] W fun e w' => e = .returned (.tuple #[]) ∧ Inv B w0 g m (T.filter (stayT rule)) w' ∧ Keep (fun k => k = m) W w' := by
  have hgm := hI.gm
  obtain ⟨ws, e, h1, h2, h3, h4, h5, h6⟩ := hI
  refine (delete_func rule h2 hq).mono ?_
  rintro e' w' ⟨rfl, i2, hk⟩
  rw [filter_map_p ws (stayT rule) (stayP rule) (fun x _ => rfl)] at i2
  exact ⟨rfl, ⟨ws.filter fun x => stayT rule x.t, by rw [filter_map_t ws (stayT rule), e], (hk.block g (Array.getElem?_eq_some_iff.1 h1).1 hgm).trans h1, i2, h3, h4, h5.trans (hk.below (Nat.le_of_lt (Nat.lt_of_le_of_lt h4 h2.lt)) (fun k hk => by subst hk; exact h4)), fun x hx => (h6 x (List.mem_filter.1 hx).1).keep hk⟩, hk⟩
set_option maxHeartbeats 1000000 in
theorem set_clear {B g m : Nat} {w0 W : World} {T : List Wt} (rule : Int) (hI : Inv B w0 g m T W) (hB : B ≤ W.heap.size) (hT : T.length ≤ 100000) :
    Calls Tryd.prog 8 #[.pointer (some ⟨g, 0, none⟩), .int .i64 rule] W fun e w' => e = .returned (.int .i64 ((T.length : Int) - ((T.filter (stayT rule)).length : Int))) ∧ Inv B w0 g m (T.filter (stayT rule)) w' ∧ Keep (fun k => k = m) W w' := by
  have hb := (Below.refl _ W).alloc (Nat.le_refl _) (.cells #[.int .i64 rule] 3)
  have hI1 := hI.grow hb hB
  have hc := hI1.cell
  have hl := len_is hI1 3
  have hq : (W.alloc (.cells #[.int .i64 rule] 3)).cell? ⟨W.heap.size, 0, none⟩ = some (.int .i64 rule) := block_cell (heap_alloc_new W _) rfl
  have D := Lib.hid (delete_inv rule hI1 hq)
  have HB := Lib.hid hb
  have hf : (T.filter (stayT rule)).length ≤ T.length := List.length_filter_le _ _
  clear hI hI1 hq hb
  go_enter Tryd.func8, Tryd.ntmps8
  go_wp2_with fail
  refine D.out.mono ?_
  rintro e w1 ⟨rfl, i1, k1⟩
  have hc1 := i1.cell
  have hl1 := len_is i1 3
  have I1 := Lib.hid i1
  have K1 := Lib.hid ((Keep.of_below HB.out (fun k => k = m)).trans k1 (fun k h => .inl h))
  clear i1 k1 hc hl
  generalize hn1 : (T.filter (stayT rule)).length = n1 at *
  generalize hn0 : T.length = n0 at *
  have H1 := Lib.hid hn1
  have H0 := Lib.hid hn0
  clear hn1 hn0
  go_wp2
  go_ret
  exact ⟨by rw [H0.out, H1.out]; rfl, I1.out, K1.out⟩
end Go.Proofs.YtcffphojpnbcbaaDoor
