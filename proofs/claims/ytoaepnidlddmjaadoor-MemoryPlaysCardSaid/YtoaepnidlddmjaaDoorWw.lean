/- MemoryPlays: the twin's elder is emptied; what is answered is overwritten. -/
import Derived.Test.YtoaepnidlddmjaaDoorWu
import Derived.Deep.MidRow
namespace Go.Proofs.YtoaepnidlddmjaaDoor
open Go.RowKit Go.Lib KP MR RW
section
variable {B : Nat} {F F' : Nat → Prop} {g g' : Nat} {T : List Ft} {nx : Int} {w0 w1 W W' : World} {vo : Value} {rs : List Fs}
theorem Inv.keep (h : Inv B w0 F' g T nx W) (hk : Keep F W W') (hd : ∀ k, F' k → ¬ F k) (hB : ∀ k, F k → B ≤ k) : Inv B w0 F' g T nx W' := by
  have hs := h.size
  obtain ⟨m, v, xs, e, hm, h0⟩ := h
  exact ⟨m, v, xs, e, ⟨(hk.block g (hm.lt g hm.Fg).2 (hd g hm.Fg)).trans hm.blk, hm.map.move (hk.block m (hm.lt m hm.Fm).2 (hd m hm.Fm)), hm.own.keep hk (fun k hk2 => hd k (hm.Fv k hk2)), hm.Fg, hm.Fm, hm.Fv, fun k hF => ⟨(hm.lt k hF).1, Nat.lt_of_lt_of_le (hm.lt k hF).2 hk.size⟩, fun x hx => ⟨(hm.vals x hx).row.keep hk (fun k hF hn => hd k hn.1 hF), (hm.vals x hx).nil, (hm.vals x hx).few, (hm.vals x hx).ok⟩, hm.ts, hm.ris, hm.ids, hm.nx1, hm.nx2, hm.few⟩, h0.trans (hk.below hs hB)⟩
/-- The elder memory, while it is emptied; the twin. -/
structure Tk (w1 : World) (g : Nat) (F : Nat → Prop) (g' : Nat) (F' : Nat → Prop) (T : List Ft) (nx : Int) (vo : Value) (rs : List Fs) (W : World) : Prop where
  old : ∃ T', Inv w1.heap.size w1 F g T' nx W
  new : St w1 g' F' T nx vo rs W
  nf : ∀ k, vo.ownBlock = some k → ¬ F k
  frn : ∀ y ∈ rs, ∀ k, (Value.slice y.2.1 y.1.2.2.length y.2.2).ownBlock = some k → ¬ F k
  dj : ∀ k, F' k → ¬ F k
theorem Tk.start (h : St w1 g F T nx vo rs W) (ht : Inv W.heap.size W F' g' T nx W') : Tk w1 g F g' F' T nx vo rs W' :=
  have hb : Below W.heap.size W W' := ht.below
  ⟨⟨T, h.inv.grow hb h.inv.size⟩, ⟨ht.rebase h.inv.below h.inv.size, h.eq, h.own.below hb, fun k hk hF => by
    have h1 := (h.own.lt hk).2
    have h2 := (ht.lt k hF).1
    omega, fun y hy => (h.fr y hy).below hb, fun y hy k hk hF => by
    have h1 := ((h.fr y hy).own.lt hk).2
    have h2 := (ht.lt k hF).1
    omega⟩, h.nf, h.frn, fun k hF' hF => by
    have h1 := (h.inv.lt k hF).2
    have h2 := (ht.lt k hF').1
    omega⟩
theorem Tk.below (h : Tk w1 g F g' F' T nx vo rs W) (hb : Below W.heap.size W W') : Tk w1 g F g' F' T nx vo rs W' := by
  obtain ⟨T', ho⟩ := h.old
  exact ⟨⟨T', ho.grow hb ho.size⟩, h.new.below hb, h.nf, h.frn, h.dj⟩
theorem Tk.step {T' : List Ft} (h : Tk w1 g F g' F' T nx vo rs W) (hk : Keep F W W') (ho : Inv w1.heap.size w1 F g T' nx W') : Tk w1 g F g' F' T nx vo rs W' :=
  ⟨⟨T', ho⟩, ⟨h.new.inv.keep hk h.dj (fun k hF => (ho.lt k hF).1), h.new.eq, h.new.own.keep hk h.nf, h.new.nf, fun y hy => (h.new.fr y hy).keep hk (h.frn y hy), h.new.frn⟩, h.nf, h.frn, h.dj⟩
end
/-- Retract, whatever it finds. -/
theorem retract_any (id : Int) {w1 : World} {g g' : Nat} {F F' : Nat → Prop} {T : List Ft} {nx : Int} {vo : Value} {rs : List Fs} {W : World} (h : Tk w1 g F g' F' T nx vo rs W) (htab : Tab W) : Calls Tryd.prog 11 #[.pointer (some ⟨g, 0, none⟩), .int .i64 id] W fun e w' => (∃ b, e = .returned (.bool b)) ∧ Tk w1 g F g' F' T nx vo rs w' := by
  obtain ⟨T', ho⟩ := h.old
  by_cases hy : ∃ t ∈ T', t.1 = id
  · refine (retract_yes id ho hy htab).mono ?_
    rintro e w' ⟨rfl, h1, h2⟩
    exact ⟨⟨_, rfl⟩, h.step h2 h1⟩
  · refine (retract_no id ho (fun t ht e => hy ⟨t, ht, e⟩)).mono ?_
    rintro e w' ⟨rfl, h1⟩
    exact ⟨⟨_, rfl⟩, h.below h1⟩
/-- The answered facts, while their values are overwritten. -/
structure Al (W0 W : World) (A : Option Addr) (ys : List Fs) : Prop where
  below : Below W0.heap.size W0 W
  own : OwnW W W0.heap.size 55 3 (.slice A ys.length ys.length) ys.length (ys.flatMap fsc)
  room : ∀ y ∈ ys, ∀ j, j < y.1.2.2.length → ∃ gr cur, y.2.1 = some ⟨gr, 0, none⟩ ∧ W0.heap.size ≤ gr ∧ W.heap[gr]? = some (.cells cur 29 (0, 0)) ∧ j * 3 + 3 ≤ cur.size
section
variable {W0 W W' : World} {A : Option Addr} {ys : List Fs}
theorem Al.start (hb : Below W0.heap.size W0 W) (ho : OwnW W W0.heap.size 55 3 (.slice A ys.length ys.length) ys.length (ys.flatMap fsc)) (hf : ∀ y ∈ ys, FreshV W0.heap.size W y) : Al W0 W A ys :=
  ⟨hb, ho, fun y hy j hj => by
    rcases (hf y hy).own.2 with ⟨_, h2⟩ | ⟨gr, cap, cur, ev, hB, hg, hn, _, hs, _⟩
    · omega
    · injection ev with e1 e2 e3
      exact ⟨gr, cur, e1, hB, hg, by have h5 : (j + 1) * 3 ≤ cap * 3 := Nat.mul_le_mul_right 3 (by omega); omega⟩⟩
theorem Al.grow (h : Al W0 W A ys) (hb : Below W.heap.size W W') : Al W0 W' A ys :=
  ⟨h.below.trans (hb.mono h.below.size), h.own.below hb, fun y hy j hj => by
    obtain ⟨gr, cur, e, h1, h2, h3⟩ := h.room y hy j hj
    exact ⟨gr, cur, e, h1, keepB h2 hb, h3⟩⟩
theorem Al.there (h : Al W0 W A ys) {y : Fs} (hy : y ∈ ys) {j : Nat} (hj : j < y.1.2.2.length) : ∃ gr, y.2.1 = some ⟨gr, 0, none⟩ ∧ W.there gr (j * 3) 3 := by
  obtain ⟨gr, cur, e, h1, h2, h3⟩ := h.room y hy j hj
  refine ⟨gr, e, fun i hi => ⟨?_, frozen_of_row _ _ _ _ _ h2⟩⟩
  rw [cell_of_row _ _ _ _ _ _ h2, Array.getElem?_eq_getElem (by omega)]
  rfl
theorem Al.store (h : Al W0 W A ys) {y : Fs} (hy : y ∈ ys) {j : Nat} (hj : j < y.1.2.2.length) {gr : Nat} (e : y.2.1 = some ⟨gr, 0, none⟩) (u1 u2 u3 : Value) (o : Nat) : Al W0 (W.setCells gr o [u1, u2, u3]) A ys := by
  obtain ⟨gr', cur, e', h1, h2, h3⟩ := h.room y hy j hj
  obtain rfl : gr' = gr := by rw [e'] at e; injection e with e; injection e
  have hk : Keep (fun k => k = gr') W (W.setCells gr' o [u1, u2, u3]) := by
    simp only [World.setCells]
    exact (((Keep.refl (fun k => k = gr') W).setCell (F := fun k => k = gr') (p := ⟨gr', o, none⟩) (.inl rfl) u1).setCell (F := fun k => k = gr') (p := ⟨gr', o + 1, none⟩) (.inl rfl) u2).setCell (F := fun k => k = gr') (p := ⟨gr', o + 1 + 1, none⟩) (.inl rfl) u3
  refine ⟨h.below.trans (hk.below h.below.size (fun k e => by omega)), h.own.keep hk (fun k hk2 e => ?_), fun z hz i hi => ?_⟩
  · subst e
    exact h.own.ne h2 (by decide) hk2
  · obtain ⟨gz, cz, ez, z1, z2, z3⟩ := h.room z hz i hi
    by_cases e2 : gz = gr'
    · subst e2
      obtain rfl : cz = cur := by rw [z2] at h2; injection h2 with h2; injection h2
      refine ⟨gz, _, ez, z1, by simp only [World.setCells]; exact heap_setCell_same _ _ _ _ _ _ (heap_setCell_same _ _ _ _ _ _ (heap_setCell_same _ _ _ _ _ _ z2)), by simpa using z3⟩
    · exact ⟨gz, cz, ez, z1, (hk.block gz (Array.getElem?_eq_some_iff.1 z2).1 e2).trans z2, z3⟩
theorem Al.row (h : Al W0 W A ys) : RowsAt fsc 3 (fun _ => False) W A ys := by
  obtain ⟨A', c', e, hr, _, _, _⟩ := h.own.rows (N := fun _ => False) fsc_len (by decide) (fun _ _ h => h)
  obtain rfl : A = A' := by injection e
  exact hr
end
theorem step_build0 {P : Program} {ops : Array Oper} {o : Oper} {a : Act} {K : Act → World → Prop} {Q : Exit → Act → World → Prop} {E : Prop} {w : World} (hgd : o.guard = none) (t : TypeId) (ho : o.op = .buildSlice t 0 #[]) (e : TypeId) (i : TypeInfo) (m base : Nat) (ht : P.underlying t = some (.slice e)) (hi : P.info? e = some i) (hb : base ≤ w.heap.size)
    (h : ∀ v w', OwnW w' base e m v 0 [] → Below w.heap.size w w' → K (a.put o.dst v) w') : if Region.wanted o (yielded ops a.tmps) = true then Oper.wp P o a w K Q else E := by
  have hw : Region.wanted o (yielded ops a.tmps) = true := by simp [Region.wanted, hgd]
  rw [if_pos hw]
  have hr : (Instr.buildSlice t 0 #[]).run P w = .ok (.slice (some ⟨w.heap.size, 0, none⟩) 0 0) (w.alloc (.cells #[] e)) := by
    simp [Instr.buildSlice, run_underlying ht, sizeOf, typeInfo, hi, newRow, Instr.fill]
    rw [Array.eq_empty_of_size_eq_zero (by simp : (Array.map (fun _ => (default : Value)) (Array.range 0)).size = 0)]
  unfold Oper.wp execOp
  simp only [ho, List.map_toArray, List.map_nil, Sem.run_bind, hr, Result.andThen_ok]
  exact h _ _ (OwnW.of (World.ownsRow_made w #[] (e := e) (size := m) (base := base) 0 hb (by unfold maxLen; omega) (by simp))) ((Below.refl _ _).alloc (Nat.le_refl _) _)
theorem step_store_mid {P : Program} {ops : Array Oper} {o : Oper} {a : Act} {K : Act → World → Prop} {Q : Exit → Act → World → Prop} {E : Prop} {w : World} (hgd : o.guard = none) (ty : TypeId) (x y : Operand) (ho : o.op = .store ty x y)
    (b o' : Nat) (cells : Array Value) (hx : a.eval x = .pointer (some ⟨b, o', none⟩)) (hy : a.eval y = .agg cells) (ht : w.there b o' cells.size) (hi : (P.info? ty).map (·.size) = some cells.size) (h1 : cells.all (·.oneCell') = true)
    (h : K (a.put o.dst undef) (w.setCells b o' cells.toList)) : if Region.wanted o (yielded ops a.tmps) = true then Oper.wp P o a w K Q else E := by
  have hw : Region.wanted o (yielded ops a.tmps) = true := by simp [Region.wanted, hgd]
  rw [if_pos hw]
  exact wp_store_mid ty x y ho b o' cells hx hy ht hi h1 h
theorem OwnW.apart {w : World} {b b' e e' m m' n n' : Nat} {v v' : Value} {xs xs' : List Value} (h : OwnW w b e m v n xs) (h2 : OwnW w b' e' m' v' n' xs') (hT : e ≠ e') : ∀ k, v.ownBlock = some k → v'.ownBlock ≠ some k := by
  intro k hk
  rcases h.2 with ⟨rfl, _⟩ | ⟨g, cap, cur, rfl, a2, a3, _⟩
  · cases hk
  · injection hk with hk
    subst hk
    exact h2.ne a3 hT
theorem OwnW.grown {w w' : World} {b e m n : Nat} {v : Value} {xs : List Value} {row : Option Nat} (h : OwnW w b e m v n xs) (hg : w.grownBy w' row) (hr : ∀ k, v.ownBlock = some k → row ≠ some k) : OwnW w' b e m v n xs :=
  h.keep (F := fun k => row = some k) ⟨hg.os, hg.tape, hg.output, hg.size, fun k hk hn => hg.block k hk (fun e => hn e.symm)⟩ (fun k hk => hr k hk)
theorem new_st {w1 Q q : World} {g : Nat} {F : Nat → Prop} {T : List Ft} {nx : Int} {vo v12 : Value} {rs : List Fs} {x2 : ByteArray} {x4 : List Vl} {A' : Option Addr} {c' : Nat} (hI : Inv w1.heap.size w1 F g (T ++ [(nx, x2, x4)]) (nx + 1) Q) (heq : rs.map (fun y : Fs => y.1) = T)
    (hR : OwnW Q w1.heap.size 43 3 vo rs.length (rs.flatMap fsc) ∧ (∀ k, vo.ownBlock = some k → ¬ F k) ∧ (∀ y ∈ rs, FreshV w1.heap.size Q y) ∧ ∀ y ∈ rs, ∀ k, (Value.slice y.2.1 y.1.2.2.length y.2.2).ownBlock = some k → ¬ F k)
    (hb : Below Q.heap.size Q q) (h12 : OwnW q Q.heap.size 43 3 v12 (0 + rs.length + 1) ((([] ++ rs) ++ [((nx, x2, x4), A', c')]).flatMap fsc)) (h9 : OwnW q Q.heap.size 29 3 (.slice A' x4.length c') x4.length (x4.flatMap v3)) (hl : x4.length ≤ 1000) (ho : ∀ v ∈ x4, okV v) (hts : x2.size ≤ 100000) :
    St w1 g F (T ++ [(nx, x2, x4)]) (nx + 1) v12 (rs ++ [((nx, x2, x4), A', c')]) q := by
  have hq := hI.size
  refine ⟨hI.grow hb hq, by rw [List.map_append, heq]; rfl, ?_, fun k hk h2 => ?_, fun y hy => ?_, fun y hy k hk h2 => ?_⟩
  · have h := h12.mono hq
    rw [show 0 + rs.length + 1 = (rs ++ [((nx, x2, x4), A', c')]).length from by simp] at h
    exact h
  · have h3 := (h12.lt hk).1
    have h4 := (hI.lt k h2).2
    omega
  · rcases List.mem_append.1 hy with h | h
    · exact (hR.2.2.1 y h).below hb
    · rw [List.mem_singleton.1 h]
      exact ⟨h9.mono hq, hl, ho, hts⟩
  · rcases List.mem_append.1 hy with h | h
    · exact hR.2.2.2 y h k hk h2
    · rw [List.mem_singleton.1 h] at hk
      have h3 := (h9.lt hk).1
      have h4 := (hI.lt k h2).2
      omega
/-- What Get tells. -/
def GetI (T : List Ft) (id : Int) (W : World) (e : Ending) (w' : World) : Prop := ∃ (z : Fs) (b : Bool), e = .returned (.tuple #[.agg #[.int .i64 z.1.1, .string z.1.2.1, .slice z.2.1 z.1.2.2.length z.2.2], .bool b]) ∧ ((b = true → z.1 ∈ T ∧ z.1.1 = id) ∧ (b = false → ∀ t ∈ T, t.1 ≠ id)) ∧ ValsAt (fun _ => False) w' z.2.1 z.1.2.2 ∧ z.1.2.2.length ≤ 1000 ∧ Below W.heap.size W w'
theorem get_any (id : Int) {B : Nat} {F : Nat → Prop} {g : Nat} {T : List Ft} {nx : Int} {w0 W : World} (h : Inv B w0 F g T nx W) : Calls Tryd.prog 22 #[.pointer (some ⟨g, 0, none⟩), .int .i64 id] W (GetI T id W) := by
  by_cases hy : ∃ t ∈ T, t.1 = id
  · refine (get_yes id h hy).mono ?_
    rintro e w' ⟨y, rfl, h1, h2, h3, h4⟩
    exact ⟨y, true, by rw [h2], ⟨fun _ => ⟨h1, h2⟩, fun h => (by cases h)⟩, RowsAt.mono h3.arg.row (fun _ h => h.elim), h3.few, h4⟩
  · refine (get_no id h (fun t ht e => hy ⟨t, ht, e⟩)).mono ?_
    rintro e w' ⟨rfl, h1⟩
    exact ⟨((0, ⟨#[]⟩, []), none, 0), false, rfl, ⟨fun h => (by cases h), fun _ t ht e => hy ⟨t, ht, e⟩⟩, RowsAt.nil _ _ _, by simp, h1⟩
/-- Of two of the row's facts with one number there is one. -/
theorem id_uniq {B : Nat} {F : Nat → Prop} {g : Nat} {T : List Ft} {nx : Int} {w0 W : World} (h : Inv B w0 F g T nx W) {s t : Ft} (hs : s ∈ T) (ht : t ∈ T) (e : s.1 = t.1) : s = t := by
  have hr := h.rise
  obtain ⟨i, hi, rfl⟩ := List.getElem_of_mem hs
  obtain ⟨j, hj, rfl⟩ := List.getElem_of_mem ht
  rcases Nat.lt_trichotomy i j with h1 | h1 | h1
  · have := List.pairwise_iff_getElem.1 hr i j hi hj h1; omega
  · subst h1; rfl
  · have := List.pairwise_iff_getElem.1 hr j i hj hi h1; omega
/-- Is a fact of number d among the first j? -/
def InK (rs : List Fs) (d : Int) (j : Nat) (c : Bool) : Prop := c = true ↔ ∃ m, ∃ h : m < rs.length, m < j ∧ rs[m].1.1 = d
theorem inK_true {rs : List Fs} {d : Int} {j : Nat} (h : InK rs d j true) : InK rs d (j + 1) true := ⟨fun _ => by
  obtain ⟨m, hm, h1, h2⟩ := h.1 rfl
  exact ⟨m, hm, by omega, h2⟩, fun _ => rfl⟩
theorem inK_no {rs : List Fs} {d : Int} {j : Nat} (h : InK rs d j false) (hj : j < rs.length) (hn : rs[j].1.1 ≠ d) : InK rs d (j + 1) false := ⟨fun h => by (cases h), fun ⟨m, hm, h1, h2⟩ => by
  by_cases e : m = j
  · subst e; exact absurd h2 hn
  · exact h.2 ⟨m, hm, by omega, h2⟩⟩
theorem inK_yes {rs : List Fs} {d : Int} {j : Nat} (hj : j < rs.length) (hn : rs[j].1.1 = d) : InK rs d (j + 1) true := ⟨fun _ => ⟨j, hj, by omega, hn⟩, fun _ => rfl⟩
theorem inK_end {w1 W : World} {g : Nat} {F : Nat → Prop} {T : List Ft} {nx : Int} {vo : Value} {rs : List Fs} (h : St w1 g F T nx vo rs W) {d : Int} {c b : Bool} {z : Ft} (hc : InK rs d rs.length c) (hb : (b = true → z ∈ T ∧ z.1 = d) ∧ (b = false → ∀ t ∈ T, t.1 ≠ d)) : b = c := by
  cases b with
  | true =>
    obtain ⟨h1, h2⟩ := hb.1 rfl
    rw [← h.eq] at h1
    obtain ⟨y, hy, rfl⟩ := List.mem_map.1 h1
    obtain ⟨m, hm, rfl⟩ := List.getElem_of_mem hy
    exact (hc.2 ⟨m, hm, hm, h2⟩).symm
  | false =>
    cases c with
    | false => rfl
    | true =>
      obtain ⟨m, hm, _, h2⟩ := hc.1 rfl
      exact absurd h2 (hb.2 rfl _ (by rw [← h.eq]; exact List.mem_map.2 ⟨_, List.getElem_mem hm, rfl⟩))
end Go.Proofs.YtoaepnidlddmjaaDoor
