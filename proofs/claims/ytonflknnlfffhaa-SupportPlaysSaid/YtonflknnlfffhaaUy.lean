/- The table and the law's row beside it: each step told. -/
import Derived.Test.YtonflknnlfffhaaUx
namespace Go.Proofs.Ytonflknnlfffhaa
open Go.RowKit Go.Lib KP MR RW
/-- A table and the law's row, as they are before act i. -/
structure Sq (w1 : World) (g : Nat) (l : List Af) (i : Nat) (F : Nat → Prop) (P : Pl) (C : List Wy) (vo : Value) (R : List Sf) (W : World) : Prop where
  tab : Tab w1.heap.size w1 F g P C W
  good : Good P C
  few : C.length ≤ i
  pl : R.map Sf.pl = P
  row : RowS w1.heap.size F (okY l) i vo R W
/-- A fact's stand is there: at place j. -/
structure Sm (w1 : World) (g : Nat) (l : List Af) (i : Nat) (F : Nat → Prop) (P : Pl) (C : List Wy) (vo : Value) (R : List Sf) (id : Int) (j : Nat) (W : World) : Prop where
  tab : Tab w1.heap.size w1 F g P C W
  good : Good P C
  few : C.length ≤ i
  pl : R.map Sf.pl = ofP P id
  row : RowS w1.heap.size F (okY l) (i + 1) vo R W
  lens : ∀ s ∈ R, s.1.2.2.length ≤ i
  at_ : ∃ h : j < R.length, R[j].1.1 = id
theorem pos_dec {l : List Wy} {w : Wy} {i : Int} (h : PosIs l w i) : decide (i < 0) = decide (w ∉ l) := by
  by_cases hm : w ∈ l
  · rw [pos_yes h hm, decide_eq_false (fun h2 => h2 hm)]
  · rw [pos_no h hm, decide_eq_true hm]
    rfl
section
variable {w1 W W' : World} {g i : Nat} {l : List Af} {F F' : Nat → Prop} {P P' : Pl} {C C' : List Wy} {vo : Value} {R R' : List Sf} {id : Int} {j : Nat}
theorem Sq.below (h : Sq w1 g l i F P C vo R W) (hb : Below W.heap.size W W') : Sq w1 g l i F P C vo R W' := ⟨h.tab.grow hb, h.good, h.few, h.pl, h.row.below hb⟩
theorem Sq.more (h : Sq w1 g l i F P C vo R W) : Sq w1 g l (i + 1) F P C vo R W := ⟨h.tab, h.good, Nat.le_succ_of_le h.few, h.pl, h.row.more (Nat.le_succ _)⟩
theorem Sm.below (h : Sm w1 g l i F P C vo R id j W) (hb : Below W.heap.size W W') : Sm w1 g l i F P C vo R id j W' := ⟨h.tab.grow hb, h.good, h.few, h.pl, h.row.below hb, h.lens, h.at_⟩
theorem pl_get (h : R.map Sf.pl = P) (hj : j < R.length) : ∃ h2 : j < P.length, P[j] = R[j].pl := by
  subst h
  exact ⟨by rw [List.length_map]; exact hj, by rw [List.getElem_map]⟩
theorem Sq.has (h : Sq w1 g l i F P C vo R W) (hj : j < R.length) (e : R[j].1.1 = id) : Sm w1 g l i F P C vo R id j W := by
  refine ⟨h.tab, h.good, h.few, ?_, h.row.more (Nat.le_succ _), h.row.few, hj, e⟩
  rw [h.pl]
  refine (ofP_yes (p := R[j].pl) ?_ e).symm
  rw [← h.pl]
  exact List.mem_map.2 ⟨_, List.getElem_mem hj, rfl⟩
theorem Sq.not (h : Sq w1 g l i F P C vo R W) (hn : ∀ s ∈ R, s.1.1 ≠ id) : ∀ p ∈ P, p.1 ≠ id := by
  rw [← h.pl]
  intro p hp
  obtain ⟨s, hs, rfl⟩ := List.mem_map.1 hp
  exact hn s hs
/-- A stand is put behind the others. -/
theorem Sq.add {b : Nat} {v' : Value} (h : Sq w1 g l i F P C vo R W) (hn : ∀ s ∈ R, s.1.1 ≠ id) (hb : Below W.heap.size W W') (ho : OwnW W' b 65 3 v' (R.length + 1) ((R ++ [((id, false, []), none, 0)]).flatMap standc)) (hbW : W.heap.size ≤ b) : Sm w1 g l i F P C v' (R ++ [((id, false, []), none, 0)]) id R.length W' := by
  refine ⟨h.tab.grow hb, h.good, h.few, ?_, ?_, fun s hs => ?_, by simp, by simp⟩
  · rw [ofP_no (h.not hn), List.map_append, h.pl]; rfl
  · refine h.row.fresh hb (by rw [List.length_append]; exact ho) h.tab.2.2 hbW (fun q hq => (h.tab.lt q hq).2) (fun s hs => ?_) (by have := h.row.len; simp; omega) (Nat.le_succ _)
    rcases List.mem_append.1 hs with h1 | h1
    · exact .inl h1
    · rw [List.mem_singleton.1 h1]; exact .inr ⟨rfl, rfl⟩
  · rcases List.mem_append.1 hs with h1 | h1
    · exact h.row.few s h1
    · rw [List.mem_singleton.1 h1]; exact Nat.zero_le _
theorem Sm.few80 (h : Sm w1 g l i F P C vo R id j W) : P.length ≤ i + 1 ∧ ∀ p ∈ P, p.2.2.length ≤ i := by
  have hl : P.length ≤ (ofP P id).length := by unfold ofP; split <;> simp
  have hs : ∀ p ∈ P, p ∈ ofP P id := fun p hp => by unfold ofP; split; exact hp; exact List.mem_append.2 (.inl hp)
  rw [← h.pl] at hl hs
  refine ⟨Nat.le_trans hl (by rw [List.length_map]; exact h.row.len), fun p hp => ?_⟩
  obtain ⟨s, hs2, rfl⟩ := List.mem_map.1 (hs p hp)
  simpa using h.lens s hs2
theorem Sm.get (h : Sm w1 g l i F P C vo R id j W) : ∃ h1 : j < R.length, ∃ h2 : j < (ofP P id).length, (ofP P id)[j] = R[j].pl ∧ (ofP P id)[j].1 = id := by
  obtain ⟨h1, e⟩ := h.at_
  obtain ⟨h2, e2⟩ := pl_get h.pl h1
  exact ⟨h1, h2, e2, by rw [e2]; exact e⟩
theorem Sm.ls (h : Sm w1 g l i F P C vo R id j W) (h1 : j < R.length) : lsP P id = R[j].1.2.2.map (·.1) := by
  obtain ⟨h1, h2, e1, e2⟩ := h.get
  have := ls_of (p := (ofP P id)[j]) h.good.keys (by rw [e2]; exact List.getElem_mem h2)
  rw [e2, e1] at this
  exact this
/-- Freed: the law's row tells it as well. -/
theorem Sm.free {rd : Addr} {rc : Nat} (h : Sm w1 g l i F P C (.slice (some rd) R.length rc) R id j W) (hT : Tab w1.heap.size w1 F' g (freeP P id) C W') (hk : Keep F W W') (hF : ∀ q, F' q → F q ∨ W.heap.size ≤ q) (hj : j < R.length) {s : Sf} (es : R[j] = s) :
    Sq w1 g l (i + 1) F' (freeP P id) C (.slice (some rd) (R.set j ((s.1.1, true, s.1.2.2), s.2)).length rc) (R.set j ((s.1.1, true, s.1.2.2), s.2)) (W'.setCell ⟨(rd.add (j * 3)).block, (rd.add (j * 3)).off + 1, none⟩ (.bool true)) ∧ W'.frozen? ⟨(rd.add (j * 3)).block, (rd.add (j * 3)).off + 1, none⟩ = false := by
  subst es
  have hr := h.row.table hk hF
  obtain ⟨p1, p2, cs, p3, p4⟩ := hr.put (i' := i + 1) hj (j := 1) (by decide) (.bool true) ((R[j].1.1, true, R[j].1.2.2), R[j].2) rfl (hr.each R[j] (List.getElem_mem hj)) (hr.nil R[j] (List.getElem_mem hj)) (hr.of R[j] (List.getElem_mem hj)) (Nat.le_refl _) (hr.few R[j] (List.getElem_mem hj))
  refine ⟨⟨hT.keep p2 (fun k hk2 he => hr.nf k he hk2) (fun k he => (hr.own.lt he).1), good_free h.good id, Nat.le_succ_of_le h.few, ?_, p1⟩, block_free p3⟩
  obtain ⟨h1, h2, e1, e2⟩ := h.get
  unfold freeP
  rw [List.map_set, h.pl, map_at (good_of h.good id).keys h2 e2 (fun p => (p.1, true, p.2.2)), e1]
/-- A support that was there. -/
theorem Sm.sup_old (h : Sm w1 g l i F P C vo R id j W) {x : Wf} (hT : Tab w1.heap.size w1 F' g (supP P id x.1) (supC P C id x.1) W') (hk : Keep F W W') (hF : ∀ q, F' q → F q ∨ W.heap.size ≤ q) (hj : j < R.length) {s : Sf} (es : R[j] = s) (hx : x.1 ∈ s.1.2.2.map (·.1)) :
    Sq w1 g l (i + 1) F' (supP P id x.1) (supC P C id x.1) vo R W' := by
  subst es
  refine ⟨hT, good_sup h.good id x.1, Nat.le_trans (sup_few P id x.1 C) (Nat.succ_le_succ h.few), ?_, h.row.table hk hF⟩
  unfold supP
  rw [h.ls hj, if_pos hx, h.pl]
/-- A support that is new. -/
theorem Sm.sup_new {rd : Addr} {rc : Nat} (h : Sm w1 g l i F P C (.slice (some rd) R.length rc) R id j W) {x : Wf} (hT : Tab w1.heap.size w1 F' g (supP P id x.1) (supC P C id x.1) W') (hk : Keep F W W') (hF : ∀ q, F' q → F q ∨ W.heap.size ≤ q) (hj : j < R.length) {s : Sf} (es : R[j] = s) (hx : x.1 ∉ s.1.2.2.map (·.1)) (hok : okY l x)
    {w9 : World} {A9 : Option Addr} {c9 b : Nat} (hb : Below W'.heap.size W' w9) (ho : OwnW w9 b 50 3 (.slice A9 (s.1.2.2.length + 1) c9) (s.1.2.2.length + 1) ((s.1.2.2 ++ [x]).flatMap whyc)) (hbW : W'.heap.size ≤ b) :
    Sq w1 g l (i + 1) F' (supP P id x.1) (supC P C id x.1) (.slice (some rd) (R.set j ((s.1.1, s.1.2.1, s.1.2.2 ++ [x]), A9, c9)).length rc) (R.set j ((s.1.1, s.1.2.1, s.1.2.2 ++ [x]), A9, c9)) (w9.setCell ⟨(rd.add (j * 3)).block, (rd.add (j * 3)).off + 2, none⟩ (.slice A9 (s.1.2.2.length + 1) c9)) ∧ ∃ cs, w9.heap[(rd.add (j * 3)).block]? = some (.cells cs 65 (0, 0)) ∧ (rd.add (j * 3)).off + 2 < cs.size := by
  subst es
  have hr := (h.row.table hk hF).below hb
  have hT9 := hT.grow hb
  have hlF : ∀ q, F' q → q < W'.heap.size := fun q hq => (hT.lt q hq).2
  have hlO : ∀ q, (Value.slice (some rd) R.length rc).ownBlock = some q → q < W'.heap.size := fun q hq => ((h.row.table hk hF).own.lt hq).2
  have hl9 : (R[j].1.2.2 ++ [x]).length = R[j].1.2.2.length + 1 := by simp
  have ho' := ho
  rw [← hl9] at ho'
  obtain ⟨A', c', e', hrow, -, hc, hA⟩ := OwnW.rows (N := fun q => F' q ∨ (Value.slice (some rd) R.length rc).ownBlock = some q) whyc_len (by decide) ho' (fun k hk2 hN => by
    have h1 := (ho'.lt hk2).1
    rcases hN with h2 | h2
    · have := hlF k h2; omega
    · have := hlO k h2; omega)
  injection e' with e1 _ e2
  subst e1 e2
  obtain ⟨p1, p2, p3⟩ := hr.put (i' := i + 1) hj (j := 2) (by decide) (.slice A9 (R[j].1.2.2.length + 1) c9) ((R[j].1.1, R[j].1.2.1, R[j].1.2.2 ++ [x]), A9, c9) (by simp) hrow ⟨hA, hc⟩ (fun y hy => by
    rcases List.mem_append.1 hy with h1 | h1
    · exact hr.of _ (List.getElem_mem hj) y h1
    · rw [List.mem_singleton.1 h1]; exact hok) (Nat.le_refl _) (by have := h.lens _ (List.getElem_mem hj); simp; exact this)
  refine ⟨⟨hT9.keep p2 (fun k hk2 he => hr.nf k he hk2) (fun k he => (hr.own.lt he).1), good_sup h.good id x.1, Nat.le_trans (sup_few P id x.1 C) (Nat.succ_le_succ h.few), ?_, p1⟩, p3⟩
  obtain ⟨h1, h2, e1, e2⟩ := h.get
  unfold supP
  rw [h.ls hj, if_neg hx, List.map_set, h.pl, map_at (good_of h.good id).keys h2 e2 (fun p => (p.1, p.2.1, p.2.2 ++ [x.1])), e1]
  simp [Sf.pl]
/-- Forgotten: none was there. -/
theorem Sq.forget_no (h : Sq w1 g l i F P C vo R W) (hn : ∀ s ∈ R, s.1.1 ≠ id) (hT : Tab w1.heap.size w1 F g (P.filter fun p => decide (p.1 ≠ id)) (C.filter (usedP (P.filter fun p => decide (p.1 ≠ id)))) W') (hk : Keep F W W') :
    Sq w1 g l (i + 1) F (P.filter fun p => decide (p.1 ≠ id)) (C.filter (usedP (P.filter fun p => decide (p.1 ≠ id)))) vo R W' :=
  ⟨hT, good_forget h.good id, Nat.le_trans (List.length_filter_le _ _) (Nat.le_succ_of_le h.few), by rw [filter_none (h.not hn)]; exact h.pl, (h.row.table hk (fun _ h => .inl h)).more (Nat.le_succ _)⟩
/-- Forgotten: it was at place j. -/
theorem Sq.forget_yes {v' : Value} {b : Nat} {w9 : World} (h : Sq w1 g l i F P C vo R W) (hj : j < R.length) (e : R[j].1.1 = id) (hT : Tab w1.heap.size w1 F g (P.filter fun p => decide (p.1 ≠ id)) (C.filter (usedP (P.filter fun p => decide (p.1 ≠ id)))) W') (hk : Keep F W W')
    (hb : Below W'.heap.size W' w9) (ho : OwnW w9 b 65 3 v' (R.take j ++ R.drop (j + 1)).length ((R.take j ++ R.drop (j + 1)).flatMap standc)) (hbW : W'.heap.size ≤ b) :
    Sq w1 g l (i + 1) F (P.filter fun p => decide (p.1 ≠ id)) (C.filter (usedP (P.filter fun p => decide (p.1 ≠ id)))) v' (R.take j ++ R.drop (j + 1)) w9 := by
  refine ⟨hT.grow hb, good_forget h.good id, Nat.le_trans (List.length_filter_le _ _) (Nat.le_succ_of_le h.few), ?_, ?_⟩
  · obtain ⟨h2, e2⟩ := pl_get h.pl hj
    rw [filter_at h.good.keys h2 (by rw [e2]; exact e), ← h.pl, List.map_append, List.map_take, List.map_drop]
  · refine (h.row.table hk (fun _ h => .inl h)).fresh hb ho hT.2.2 hbW (fun q hq => (hT.lt q hq).2) (fun s hs => .inl ?_) (by have := h.row.len; rw [List.length_append, List.length_take, List.length_drop]; omega) (Nat.le_succ _)
    rcases List.mem_append.1 hs with h1 | h1
    · exact List.mem_of_mem_take h1
    · exact List.mem_of_mem_drop h1
/-- The law's tell, at a table and its row. -/
theorem Sq.tell {RA : Option Addr} {rc : Nat} (h : Sq w1 g l i F P C (.slice RA R.length rc) R W) (hi : i ≤ 81) (hA : ∀ x, okY l x → ArgY W x) : Calls Try.prog 33 #[.pointer (some ⟨g, 0, none⟩), .slice RA R.length rc] W fun e w' => e = .returned (.bool true) ∧ Below W.heap.size W w' := by
  obtain ⟨A', c', e, hr, -, -⟩ := h.row.row
  injection e with e1 _ _
  subst e1
  exact tell_c h.tab h.good _ rc R h.pl hr (fun s hs => ⟨(h.row.each s hs).mono (fun _ h => h.elim), (h.row.nil s hs).1⟩) (fun s hs x hx => hA x (h.row.of s hs x hx)) (by have := h.row.len; omega) (fun s hs => by have := h.row.few s hs; omega) (by have := h.few; omega)
end
def fW (w : Wy) (p : Int × Bool × List Wy) : Int × Bool × List Wy := (p.1, p.2.1, noW w p.2.2)
theorem fW_all (P : Pl) (w : Wy) : P.map (fW w) = loseP P w := rfl
/-- The law's loop: k stands have lost the support, kg of them have been looked at. -/
structure Sl (w1 : World) (g : Nat) (l : List Af) (i : Nat) (F : Nat → Prop) (P : Pl) (C : List Wy) (vo gv : Value) (y : Wy) (k kg : Nat) (R : List Sf) (W : World) : Prop where
  tab : Tab w1.heap.size w1 F g P C W
  good : Good P C
  few : C.length ≤ i
  pl : R.map Sf.pl = (P.take k).map (fW y) ++ P.drop k
  kl : k ≤ P.length
  row : RowS w1.heap.size (fun q => F q ∨ gv.ownBlock = some q) (okY l) i vo R W
  gone : OwnI W w1.heap.size gv (((P.take kg).filter fun p => goneQ y (some p.2)).map (·.1))
  gF : ∀ q, gv.ownBlock = some q → ¬ F q
section
variable {w1 W W' : World} {g i k kg : Nat} {l : List Af} {F F' : Nat → Prop} {P P' : Pl} {C C' : List Wy} {vo gv gv' : Value} {R R' : List Sf} {y : Wy}
theorem Sl.below (h : Sl w1 g l i F P C vo gv y k kg R W) (hb : Below W.heap.size W W') : Sl w1 g l i F P C vo gv y k kg R W' := ⟨h.tab.grow hb, h.good, h.few, h.pl, h.kl, h.row.below hb, OwnW.below h.gone hb, h.gF⟩
theorem Sq.start (h : Sq w1 g l i F P C vo R W) (y : Wy) : Sl w1 g l i F P C vo (.slice none 0 0) y 0 0 R W :=
  ⟨h.tab, h.good, h.few, by simpa using h.pl, Nat.zero_le _, by
    obtain ⟨a1, a2, a3, a4, a5, a6, a7⟩ := h.row
    exact ⟨a1, fun q hq hF => hF.elim (a2 q hq) (fun h => by cases h), fun s hs => (a3 s hs).mono (fun q hq => by
      rcases hq with (hq | hq) | hq
      · exact .inl hq
      · cases hq
      · exact .inr hq), a4, a5, a6, a7⟩, OwnW.nil _ _ _ _, fun q hq => by cases hq⟩
theorem Sl.len (h : Sl w1 g l i F P C vo gv y k kg R W) : R.length = P.length := by
  have := congrArg List.length h.pl
  simp at this
  have := h.kl
  omega
theorem Sl.get (h : Sl w1 g l i F P C vo gv y k kg R W) (hk : k < R.length) : ∃ h2 : k < P.length, P[k] = R[k].pl := by
  have h2 : k < P.length := by rw [← h.len]; exact hk
  refine ⟨h2, ?_⟩
  have := congrArg (fun l => l[k]?) h.pl
  simp only [List.getElem?_map, List.getElem?_eq_getElem hk, Option.map_some] at this
  rw [List.getElem?_append_right (by rw [List.length_map, List.length_take]; omega), List.length_map, List.length_take, Nat.min_eq_left (by omega), List.getElem?_drop] at this
  rw [Nat.sub_self, Nat.add_zero, List.getElem?_eq_getElem h2] at this
  injection this with this
  exact this.symm
theorem fW_next (P : Pl) (y : Wy) (h : k < P.length) : ((P.take k).map (fW y) ++ P.drop k).set k (fW y P[k]) = (P.take (k + 1)).map (fW y) ++ P.drop (k + 1) := by
  rw [List.set_append_right _ _ (by rw [List.length_map, List.length_take]; omega), List.length_map, List.length_take, Nat.min_eq_left (by omega), Nat.sub_self, ← List.getElem_cons_drop h, List.set_cons_zero, List.take_succ_eq_append_getElem h, List.map_append, List.append_assoc]
  rfl
theorem gone_next (P : Pl) (y : Wy) (h : k < P.length) : ((P.take (k + 1)).filter fun p => goneQ y (some p.2)).map (·.1) = ((P.take k).filter fun p => goneQ y (some p.2)).map (·.1) ++ (if goneQ y (some P[k].2) then [P[k].1] else []) := by
  rw [List.take_succ_eq_append_getElem h, List.filter_append, List.map_append, List.filter_cons, List.filter_nil]
  split <;> rfl
theorem gone_len (P : Pl) (y : Wy) (kg : Nat) : (((P.take kg).filter fun p => goneQ y (some p.2)).map (·.1)).length ≤ kg := by
  rw [List.length_map]
  refine Nat.le_trans (List.length_filter_le _ _) ?_
  rw [List.length_take]
  omega
theorem goneQ_at {b0 : Bool} {ls : List Wy} {n : Nat} (hy : y ∈ ls) (h9 : n = (noW y ls).length) : goneQ y (some (b0, ls)) = !(b0 || decide (0 < n)) := by
  unfold goneQ
  dsimp only
  rw [decide_eq_true hy, Bool.true_and, h9]
theorem cut_at {L : List Wf} {y : Wy} {pre post : List Wy} (e : L.map (·.1) = pre ++ y :: post) (hn : (L.map (·.1)).Nodup) (h : y ∉ pre) : (L.take pre.length ++ L.drop (pre.length + 1)).map (·.1) = noW y (L.map (·.1)) ∧ pre.length < L.length := by
  have hl := congrArg List.length e
  simp only [List.length_map, List.length_append, List.length_cons] at hl
  refine ⟨?_, by omega⟩
  rw [List.map_append, List.map_take, List.map_drop, e, noW_at (by rw [← e]; exact hn) h, List.take_append_of_le_length (Nat.le_refl _), List.take_length]
  congr 1
  rw [List.drop_append]
  simp
/-- The support was not there. -/
theorem Sl.skip (h : Sl w1 g l i F P C vo gv y k k R W) (hk : k < R.length) {s : Sf} (es : R[k] = s) (hy : y ∉ s.1.2.2.map (·.1)) : Sl w1 g l i F P C vo gv y (k + 1) (k + 1) R W := by
  obtain ⟨h2, e⟩ := h.get hk
  subst es
  have e1 : fW y P[k] = P[k] := by
    rw [e]
    unfold fW
    rw [noW_not hy]
  have e2 : goneQ y (some P[k].2) = false := by
    rw [e]
    unfold goneQ
    dsimp only
    rw [decide_eq_false hy, Bool.false_and]
  refine ⟨h.tab, h.good, h.few, ?_, h2, h.row, ?_, h.gF⟩
  · rw [← fW_next P y h2, e1, h.pl]
    refine (List.ext_getElem? (fun j => ?_))
    rw [List.getElem?_set]
    split
    · rename_i hj
      subst hj
      have h3 := congrArg (fun l => l[k]?) h.pl
      simp only [List.getElem?_map, List.getElem?_eq_getElem hk, Option.map_some] at h3
      rw [if_pos (by rw [List.length_append, List.length_map, List.length_take, List.length_drop]; omega), ← h3, e]
    · rfl
  · rw [gone_next P y h2, e2]
    simpa using h.gone
/-- The support is cut out. -/
theorem Sl.cut {rd : Addr} {rc : Nat} (h : Sl w1 g l i F P C (.slice (some rd) R.length rc) gv y k k R W) (hk : k < R.length) {s : Sf} (es : R[k] = s) {w9 : World} {A9 : Option Addr} {c9 b n9 : Nat} {l9 : List Wf} (hl9 : l9.length = n9) (h9 : l9.map (·.1) = noW y (s.1.2.2.map (·.1))) (hsub : ∀ z ∈ l9, z ∈ s.1.2.2)
    (hb : Below W.heap.size W w9) (ho : OwnW w9 b 50 3 (.slice A9 n9 c9) n9 (l9.flatMap whyc)) (hbW : W.heap.size ≤ b) :
    Sl w1 g l i F P C (.slice (some rd) (R.set k ((s.1.1, s.1.2.1, l9), A9, c9)).length rc) gv y (k + 1) k (R.set k ((s.1.1, s.1.2.1, l9), A9, c9)) (w9.setCell ⟨(rd.add (k * 3)).block, (rd.add (k * 3)).off + 2, none⟩ (.slice A9 n9 c9)) ∧ Keep (fun q => (Value.slice (some rd) R.length rc).ownBlock = some q) w9 (w9.setCell ⟨(rd.add (k * 3)).block, (rd.add (k * 3)).off + 2, none⟩ (.slice A9 n9 c9)) ∧ ∃ cs, w9.heap[(rd.add (k * 3)).block]? = some (.cells cs 65 (0, 0)) ∧ (rd.add (k * 3)).off + 2 < cs.size := by
  obtain ⟨h2, e⟩ := h.get hk
  subst es
  subst hl9
  have hr := h.row.below hb
  have hlF : ∀ q, F q → q < W.heap.size := fun q hq => (h.tab.lt q hq).2
  have hlO : ∀ q, (Value.slice (some rd) R.length rc).ownBlock = some q → q < W.heap.size := fun q hq => (h.row.own.lt hq).2
  have hlG : ∀ q, gv.ownBlock = some q → q < W.heap.size := fun q hq => (OwnW.lt h.gone hq).2
  obtain ⟨A', c', e', hrow, -, hc, hA⟩ := OwnW.rows (N := fun q => (F q ∨ gv.ownBlock = some q) ∨ (Value.slice (some rd) R.length rc).ownBlock = some q) whyc_len (by decide) ho (fun k hk2 hN => by
    have h1 := (ho.lt hk2).1
    rcases hN with (h2 | h2) | h2
    · have := hlF k h2; omega
    · have := hlG k h2; omega
    · have := hlO k h2; omega)
  injection e' with e1 _ e2
  subst e1 e2
  have hlen : l9.length ≤ R[k].1.2.2.length := by
    have h3 := congrArg List.length h9
    rw [List.length_map] at h3
    rw [h3]
    refine Nat.le_trans (List.length_filter_le _ _) ?_
    rw [List.length_map]
    exact Nat.le_refl _
  obtain ⟨p1, p2, p3⟩ := hr.put (i' := i) hk (j := 2) (by decide) (.slice A9 l9.length c9) ((R[k].1.1, R[k].1.2.1, l9), A9, c9) (by simp) hrow ⟨hA, hc⟩ (fun z hz => hr.of _ (List.getElem_mem hk) z (hsub z hz)) (Nat.le_refl _) (Nat.le_trans hlen (hr.few R[k] (List.getElem_mem hk)))
  refine ⟨⟨(h.tab.grow hb).keep p2 (fun q hq he => h.row.nf q he (.inl hq)) (fun q he => (h.row.own.lt he).1), h.good, h.few, ?_, h2, p1, OwnW.keep (OwnW.below h.gone hb) p2 (fun q hq he => h.row.nf q he (.inr hq)), h.gF⟩, p2, p3⟩
  rw [← fW_next P y h2, List.map_set, h.pl, e]
  congr 1
  show (R[k].1.1, R[k].1.2.1, l9.map (·.1)) = _
  rw [h9]
  rfl
/-- It stands yet. -/
theorem Sl.stay (h : Sl w1 g l i F P C vo gv y (k + 1) k R W) (h2 : k < P.length) (hg : goneQ y (some P[k].2) = false) : Sl w1 g l i F P C vo gv y (k + 1) (k + 1) R W :=
  ⟨h.tab, h.good, h.few, h.pl, h.kl, h.row, by rw [gone_next P y h2, hg]; simpa using h.gone, h.gF⟩
/-- It stands no more. -/
theorem Sl.goes (h : Sl w1 g l i F P C vo gv y (k + 1) k R W) (h2 : k < P.length) (hg : goneQ y (some P[k].2) = true) {b1 : World} (hb : Below W.heap.size W b1) (ho : OwnI W' w1.heap.size gv' (((P.take k).filter fun p => goneQ y (some p.2)).map (·.1) ++ [P[k].1])) (hgr : b1.grownBy W' gv.ownBlock) (hv : gv'.ownBlock = gv.ownBlock ∨ ∀ q, gv'.ownBlock = some q → b1.heap.size ≤ q) :
    Sl w1 g l i F P C vo gv' y (k + 1) (k + 1) R W' := by
  have h1 := h.below hb
  have kg : Keep (fun q => gv.ownBlock = some q) b1 W' := (Keep.refl _ _).grown hgr (fun q hq => .inl hq)
  have hgl : ∀ q, gv.ownBlock = some q → w1.heap.size ≤ q := fun q hq => (OwnW.lt h1.gone hq).1
  refine ⟨h1.tab.keep kg (fun q hq he => h.gF q he hq) hgl, h.good, h.few, h.pl, h.kl, ?_, by rw [gone_next P y h2, hg]; exact ho, fun q hq hF => ?_⟩
  · obtain ⟨a1, a2, a3, a4, a5, a6, a7⟩ := h1.row
    refine ⟨a1.keep kg (fun q hq he => a2 q hq (.inr he)), fun q hq hF => ?_, fun s hs => ?_, a4, a5, a6, a7⟩
    · rcases hF with hF | hF
      · exact a2 q hq (.inl hF)
      · rcases hv with e | e
        · exact a2 q hq (.inr (by rw [← e]; exact hF))
        · have h3 := e q hF
          have h4 := (a1.lt hq).2
          omega
    · refine ((RowsAt.old whyc_len (by decide) (a3 s hs)).keep kg (fun q hq => .inl (.inl (.inr hq)))).mono (fun q hq => ?_)
      rcases hq with (hq | hq) | hq
      · exact .inl (.inl (.inl hq))
      · rcases hv with e | e
        · exact .inl (.inl (.inr (by rw [← e]; exact hq)))
        · exact .inr (e q hq)
      · exact .inl (.inr hq)
  · rcases hv with e | e
    · exact h.gF q (by rw [← e]; exact hq) hF
    · have h3 := e q hq
      have h4 := (h1.tab.lt q hF).2
      omega
/-- All looked at, the table has lost it as well. -/
theorem Sl.done (h : Sl w1 g l i F P C vo gv y k kg R W) (hk : k = P.length) (hT : Tab w1.heap.size w1 F g (loseP P y) (C.filter (usedP (loseP P y))) W') (hkp : Keep F W W') : Sq w1 g l (i + 1) F (loseP P y) (C.filter (usedP (loseP P y))) vo R W' := by
  subst hk
  refine ⟨hT, good_lose h.good y, Nat.le_trans (List.length_filter_le _ _) (Nat.le_succ_of_le h.few), ?_, ?_⟩
  · rw [h.pl, List.take_length, List.drop_length, List.append_nil, fW_all]
  · obtain ⟨a1, a2, a3, a4, a5, a6, a7⟩ := h.row
    have hr : RowS w1.heap.size F (okY l) i vo R W := ⟨a1, fun q hq hF => a2 q hq (.inl hF), fun s hs => (a3 s hs).mono (fun q hq => by
      rcases hq with hq | hq
      · exact .inl (.inl hq)
      · exact .inr hq), a4, a5, a6, a7⟩
    exact (hr.table hkp (fun _ h => .inl h)).more (Nat.le_succ _)
end
end Go.Proofs.Ytonflknnlfffhaa
