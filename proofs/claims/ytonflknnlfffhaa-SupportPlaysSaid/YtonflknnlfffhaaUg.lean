/- tms.Table: what it holds. -/
import Derived.Test.YtonflknnlfffhaaUf
import Derived.Test.YtonflknnlfffhaaFl
namespace Go.Proofs.Ytonflknnlfffhaa
open Go.RowKit Go.Lib KP MR RW
/-- A row: its block, whether it is free, its supports' slice, its supports. -/
structure Rd where
  b : Nat
  free : Bool
  lv : Value
  ls : List Wf
abbrev Rd.val (r : Rd) : Value := .pointer (some ⟨r.b, 0, none⟩)
abbrev Tb := List (Int × Rd)
/-- A support's facts lie in blocks of the table's own. -/
structure Fc (B : Nat) (F : Nat → Prop) (W : World) (y : Wf) : Prop where
  own : OwnI W B y.sl y.1.2.2
  few : y.1.2.2.length ≤ 1000
  Ff : ∀ k, y.sl.ownBlock = some k → F k
theorem Fc.arg {B : Nat} {F : Nat → Prop} {W : World} {y : Wf} (h : Fc B F W y) : ArgY W y := ArgY.of h.own h.few
/-- A table in the blocks F: its own block g, its map m, its rows N, all that came. -/
structure TS (B : Nat) (F : Nat → Prop) (g m : Nat) (cv : Value) (cs : List Wf) (N : Tb) (W : World) : Prop where
  blk : W.heap[g]? = some (.cells #[.map (some m), cv] 87 (0, 0))
  map : IsMap W m (Value.int .i64) Rd.val N
  node : ∀ p ∈ N, W.heap[p.2.b]? = some (.cells #[.bool p.2.free, p.2.lv] 92 (0, 0))
  own : ∀ p ∈ N, OwnY W B p.2.lv p.2.ls
  cown : OwnY W B cv cs
  facts : ∀ y, (y ∈ cs ∨ ∃ p ∈ N, y ∈ p.2.ls) → Fc B F W y
  nb : N.Pairwise fun p q => p.2.b ≠ q.2.b
  nl : N.Pairwise fun p q => ∀ k, p.2.lv.ownBlock = some k → q.2.lv.ownBlock ≠ some k
  nc : ∀ p ∈ N, ∀ k, p.2.lv.ownBlock = some k → cv.ownBlock ≠ some k
  Fg : F g
  Fm : F m
  Fb : ∀ p ∈ N, F p.2.b
  Fl : ∀ p ∈ N, ∀ k, p.2.lv.ownBlock = some k → F k
  Fcv : ∀ k, cv.ownBlock = some k → F k
  lt : ∀ k, F k → B ≤ k ∧ k < W.heap.size
  few : N.length ≤ 1000
  lf : ∀ p ∈ N, p.2.ls.length ≤ 10000
  cf : cs.length ≤ 10000
  keys : ∀ p ∈ N, (Lit.int .i64 p.1).wf = true
/-- A row is another one now. -/
def setR (N : Tb) (id : Int) (f : Bool) (v : Value) (ls : List Wf) : Tb := N.map fun p => if p.1 = id then (p.1, { p.2 with free := f, lv := v, ls := ls }) else p
section
variable {B : Nat} {F F' G : Nat → Prop} {g m : Nat} {cv v : Value} {cs ls : List Wf} {N : Tb} {W W' : World} {id : Int} {nd : Rd} {f : Bool}
theorem TS.gm (h : TS B F g m cv cs N W) : g ≠ m := by
  obtain ⟨_, _, hb, _⟩ := h.map
  intro e
  have := h.blk
  rw [e, hb] at this
  cases this
theorem TS.bm (h : TS B F g m cv cs N W) {p : Int × Rd} (hp : p ∈ N) : p.2.b ≠ m := by
  obtain ⟨_, _, hb, _⟩ := h.map
  intro e
  have := h.node p hp
  rw [e, hb] at this
  cases this
theorem TS.bg (h : TS B F g m cv cs N W) {p : Int × Rd} (hp : p ∈ N) : p.2.b ≠ g := by
  intro e
  have := h.node p hp
  rw [e, h.blk] at this
  injection this with this
  injection this with _ this
  revert this
  decide
theorem TS.vg (h : TS B F g m cv cs N W) {p : Int × Rd} (hp : p ∈ N) : p.2.lv.ownBlock ≠ some g := (h.own p hp).ne h.blk (by decide)
theorem TS.vm (h : TS B F g m cv cs N W) {p : Int × Rd} (hp : p ∈ N) : p.2.lv.ownBlock ≠ some m := by
  obtain ⟨_, _, hb, _⟩ := h.map
  exact (h.own p hp).neMap hb
theorem TS.vb (h : TS B F g m cv cs N W) {p q : Int × Rd} (hp : p ∈ N) (hq : q ∈ N) : p.2.lv.ownBlock ≠ some q.2.b := (h.own p hp).ne (h.node q hq) (by decide)
theorem TS.cg (h : TS B F g m cv cs N W) : cv.ownBlock ≠ some g := h.cown.ne h.blk (by decide)
theorem TS.cm (h : TS B F g m cv cs N W) : cv.ownBlock ≠ some m := by
  obtain ⟨_, _, hb, _⟩ := h.map
  exact h.cown.neMap hb
theorem TS.cb (h : TS B F g m cv cs N W) {q : Int × Rd} (hq : q ∈ N) : cv.ownBlock ≠ some q.2.b := h.cown.ne (h.node q hq) (by decide)
theorem TS.nodup (h : TS B F g m cv cs N W) : (N.map (·.1)).Nodup := h.map.nodup
theorem Fc.keep {y : Wf} (h : Fc B F W y) (hk : Keep G W W') (hd : ∀ k, y.sl.ownBlock = some k → ¬ G k) : Fc B F W' y := ⟨h.own.keep hk hd, h.few, h.Ff⟩
theorem Fc.mono {y : Wf} (h : Fc B F W y) (hF : ∀ k, F k → F' k) : Fc B F' W y := ⟨h.own, h.few, fun k hk => hF k (h.Ff k hk)⟩
/-- As long as its blocks are not touched. -/
theorem TS.keep (h : TS B F g m cv cs N W) (hk : Keep G W W') (hd : ∀ k, F k → ¬ G k) : TS B F g m cv cs N W' :=
  ⟨(hk.block g (h.lt g h.Fg).2 (hd g h.Fg)).trans h.blk, h.map.move (hk.block m (h.lt m h.Fm).2 (hd m h.Fm)), fun p hp => (hk.block _ (h.lt _ (h.Fb p hp)).2 (hd _ (h.Fb p hp))).trans (h.node p hp),
   fun p hp => (h.own p hp).keep hk (fun k hk2 => hd k (h.Fl p hp k hk2)), h.cown.keep hk (fun k hk2 => hd k (h.Fcv k hk2)), fun y hy => (h.facts y hy).keep hk (fun k hk2 => hd k ((h.facts y hy).Ff k hk2)), h.nb, h.nl, h.nc, h.Fg, h.Fm, h.Fb, h.Fl, h.Fcv,
   fun k hF => ⟨(h.lt k hF).1, Nat.lt_of_lt_of_le (h.lt k hF).2 hk.size⟩, h.few, h.lf, h.cf, h.keys⟩
theorem TS.grow (h : TS B F g m cv cs N W) (hb : Below W.heap.size W W') : TS B F g m cv cs N W' := h.keep (Keep.of_below hb (fun _ => False)) (fun _ _ h => h)
/-- A facts' block is none of the table's others. -/
theorem TS.fx (h : TS B F g m cv cs N W) {y : Wf} (hy : Fc B F W y) : y.sl.ownBlock ≠ some g ∧ y.sl.ownBlock ≠ some m ∧ (∀ p ∈ N, y.sl.ownBlock ≠ some p.2.b ∧ ∀ k, y.sl.ownBlock = some k → p.2.lv.ownBlock ≠ some k) ∧ ∀ k, y.sl.ownBlock = some k → cv.ownBlock ≠ some k := by
  obtain ⟨_, _, hb, _⟩ := h.map
  exact ⟨hy.own.ne h.blk (by decide), hy.own.neMap hb, fun p hp => ⟨hy.own.ne (h.node p hp) (by decide), own_apart hy.own (h.own p hp) (by decide)⟩, own_apart hy.own h.cown (by decide)⟩
/-- 'delete(t.by, id)'. -/
theorem TS.sub (h : TS B F g m cv cs N W) (fl : Int × Rd → Bool) (hm : IsMap W' m (Value.int .i64) Rd.val (N.filter fl)) (hk : Keep (fun k => k = m) W W') : TS B F g m cv cs (N.filter fl) W' :=
  have mem : ∀ p ∈ N.filter fl, p ∈ N := fun p hp => (List.mem_filter.1 hp).1
  have hfc : ∀ y, (y ∈ cs ∨ ∃ p ∈ N.filter fl, y ∈ p.2.ls) → Fc B F W y := fun y hy => h.facts y (hy.imp id (fun ⟨p, hp, hy⟩ => ⟨p, mem p hp, hy⟩))
  ⟨(hk.block g (h.lt g h.Fg).2 h.gm).trans h.blk, hm, fun p hp => (hk.block _ (h.lt _ (h.Fb p (mem p hp))).2 (h.bm (mem p hp))).trans (h.node p (mem p hp)),
   fun p hp => (h.own p (mem p hp)).keep hk (fun k hk2 e => h.vm (mem p hp) (by rw [← e]; exact hk2)), h.cown.keep hk (fun k hk2 e => h.cm (by rw [← e]; exact hk2)), fun y hy => (hfc y hy).keep hk (fun k hk2 e => (h.fx (hfc y hy)).2.1 (by rw [← e]; exact hk2)),
   h.nb.sublist List.filter_sublist, h.nl.sublist List.filter_sublist, fun p hp => h.nc p (mem p hp), h.Fg, h.Fm, fun p hp => h.Fb p (mem p hp), fun p hp => h.Fl p (mem p hp), h.Fcv,
   fun k hF => ⟨(h.lt k hF).1, Nat.lt_of_lt_of_le (h.lt k hF).2 hk.size⟩, Nat.le_trans (List.length_filter_le _ _) h.few, fun p hp => h.lf p (mem p hp), h.cf, fun p hp => h.keys p (mem p hp)⟩
theorem setR_map (N : Tb) (id : Int) (f : Bool) (v : Value) (ls : List Wf) : (setR N id f v ls).map (fun p => (Value.int .i64 p.1, p.2.val)) = N.map fun p => (Value.int .i64 p.1, p.2.val) := by
  unfold setR
  rw [List.map_map]
  refine List.map_congr_left (fun p _ => ?_)
  simp only [Function.comp_apply]
  split <;> rfl
theorem setR_keys (N : Tb) (id : Int) (f : Bool) (v : Value) (ls : List Wf) : (setR N id f v ls).map (·.1) = N.map (·.1) := by
  unfold setR
  rw [List.map_map]
  refine List.map_congr_left (fun p _ => ?_)
  simp only [Function.comp_apply]
  split <;> rfl
theorem setR_mem {p : Int × Rd} (hp : p ∈ setR N id f v ls) : ∃ q ∈ N, p.1 = q.1 ∧ p.2.b = q.2.b ∧ (q.1 = id → p.2.free = f ∧ p.2.lv = v ∧ p.2.ls = ls) ∧ (q.1 ≠ id → p = q) := by
  unfold setR at hp
  obtain ⟨q, hq, rfl⟩ := List.mem_map.1 hp
  refine ⟨q, hq, ?_⟩
  by_cases e : q.1 = id
  · rw [if_pos e]; exact ⟨rfl, rfl, fun _ => ⟨rfl, rfl, rfl⟩, fun h => absurd e h⟩
  · rw [if_neg e]; exact ⟨rfl, rfl, fun h => absurd h e, fun _ => rfl⟩
theorem TS.one (h : TS B F g m cv cs N W) (hl : lk N id = some nd) : ∀ p ∈ N, p.1 = id → p = (id, nd) := by
  intro p hp e
  have := mem_lk h.nodup (k := p.1) (v := p.2) hp
  rw [e, hl] at this
  injection this with this
  exact Prod.ext e this.symm
theorem TS.apart (h : TS B F g m cv cs N W) (hl : lk N id = some nd) : ∀ p ∈ N, p.1 ≠ id → p.2.b ≠ nd.b ∧ ∀ k, p.2.lv.ownBlock = some k → nd.lv.ownBlock ≠ some k := by
  have hmem := lk_some hl
  intro p hp hne
  obtain ⟨i, hi, rfl⟩ := List.getElem_of_mem hp
  obtain ⟨j, hj, e⟩ := List.getElem_of_mem hmem
  rcases Nat.lt_trichotomy i j with hij | hij | hij
  · have h1 := List.pairwise_iff_getElem.1 h.nb i j hi hj hij
    have h2 := List.pairwise_iff_getElem.1 h.nl i j hi hj hij
    rw [e] at h1 h2
    exact ⟨h1, h2⟩
  · subst hij; rw [e] at hne; exact absurd rfl hne
  · have h1 := List.pairwise_iff_getElem.1 h.nb j i hj hi hij
    have h2 := List.pairwise_iff_getElem.1 h.nl j i hj hi hij
    rw [e] at h1 h2
    exact ⟨h1.symm, fun k hk1 hk2 => h2 k hk2 hk1⟩
/-- A row is another one now. -/
theorem TS.setR (h : TS B F g m cv cs N W) (hl : lk N id = some nd) (hk : Keep (fun k => k = nd.b ∨ nd.lv.ownBlock = some k) W W') (hb : W'.heap[nd.b]? = some (.cells #[.bool f, v] 92 (0, 0))) (ho : OwnY W' B v ls)
    (hv : ∀ k, v.ownBlock = some k → nd.lv.ownBlock = some k ∨ W.heap.size ≤ k) (hF : ∀ k, F k → F' k) (hFv : ∀ k, v.ownBlock = some k → F' k) (hlt : ∀ k, F' k → F k ∨ W.heap.size ≤ k ∧ k < W'.heap.size) (hls : ls.length ≤ 10000) (hB : B ≤ W.heap.size) (hfc : ∀ y ∈ ls, y ∈ nd.ls ∨ Fc B F' W' y) :
    TS B F' g m cv cs (Go.Proofs.Ytonflknnlfffhaa.setR N id f v ls) W' := by
  have hmem := lk_some hl
  have one := h.one hl
  have apart := h.apart hl
  have kold : ∀ p ∈ N, ∀ k, p.2.lv.ownBlock = some k → k < W.heap.size := fun p hp k hk2 => (h.lt k (h.Fl p hp k hk2)).2
  have old : ∀ y, (y ∈ cs ∨ ∃ p ∈ N, y ∈ p.2.ls) → Fc B F' W' y := fun y hy => ((h.facts y hy).keep hk (fun k hk2 => by
    obtain ⟨_, _, h3, _⟩ := h.fx (h.facts y hy)
    obtain ⟨h4, h5⟩ := h3 _ hmem
    rintro (e | e)
    · exact h4 (by rw [← e]; exact hk2)
    · exact h5 k hk2 e)).mono hF
  refine ⟨(hk.block g (h.lt g h.Fg).2 ?_).trans h.blk, ?_, ?_, ?_, ?_, ?_, ?_, ?_, ?_, hF g h.Fg, hF m h.Fm, ?_, ?_, fun k hk2 => hF k (h.Fcv k hk2), ?_, ?_, ?_, h.cf, ?_⟩
  · rintro (e | e)
    · exact h.bg hmem e.symm
    · exact h.vg hmem e
  · have hm := h.map.move (hk.block m (h.lt m h.Fm).2 (by
      rintro (e | e)
      · exact h.bm hmem e.symm
      · exact h.vm hmem e))
    obtain ⟨es, clock, a1, a2, a3⟩ := hm
    exact ⟨es, clock, a1, a2, by rw [a3, setR_map]⟩
  · intro p hp
    obtain ⟨q, hq, e1, e2, e5, e6⟩ := setR_mem hp
    by_cases e : q.1 = id
    · obtain rfl := one q hq e
      rw [e2, (e5 rfl).1, (e5 rfl).2.1]
      exact hb
    · obtain rfl := e6 e
      refine (hk.block _ (h.lt _ (h.Fb p hq)).2 ?_).trans (h.node p hq)
      rintro (h1 | h1)
      · exact (apart p hq e).1 h1
      · exact h.vb hmem hq h1
  · intro p hp
    obtain ⟨q, hq, e1, e2, e5, e6⟩ := setR_mem hp
    by_cases e : q.1 = id
    · rw [(e5 e).2.1, (e5 e).2.2]
      exact ho
    · obtain rfl := e6 e
      refine (h.own p hq).keep hk (fun k hk2 => ?_)
      rintro (h1 | h1)
      · subst h1; exact h.vb hq hmem hk2
      · exact (apart p hq e).2 k hk2 h1
  · refine h.cown.keep hk (fun k hk2 => ?_)
    rintro (h1 | h1)
    · subst h1; exact h.cb hmem hk2
    · exact h.nc _ hmem k h1 hk2
  · rintro y (hy | ⟨p, hp, hy⟩)
    · exact old y (.inl hy)
    · obtain ⟨q, hq, e1, e2, e5, e6⟩ := setR_mem hp
      by_cases e : q.1 = id
      · obtain rfl := one q hq e
        rw [(e5 rfl).2.2] at hy
        rcases hfc y hy with h1 | h1
        · exact old y (.inr ⟨_, hq, h1⟩)
        · exact h1
      · obtain rfl := e6 e
        exact old y (.inr ⟨p, hq, hy⟩)
  · unfold Go.Proofs.Ytonflknnlfffhaa.setR
    rw [List.pairwise_map]
    refine h.nb.imp (fun {p q} hpq => ?_)
    split <;> split <;> exact hpq
  · unfold Go.Proofs.Ytonflknnlfffhaa.setR
    rw [List.pairwise_map]
    have hN : N.Pairwise (fun p q => p.1 ≠ q.1) := by have := h.nodup; rw [List.Nodup, List.pairwise_map] at this; exact this
    refine ((h.nl.and hN).imp_of_mem (fun {p q} hp hq hpq => ?_))
    obtain ⟨h1, h2⟩ := hpq
    by_cases e1 : p.1 = id
    · have e2 : ¬ q.1 = id := fun e => h2 (e1.trans e.symm)
      rw [if_pos e1, if_neg e2]
      intro k hk1 hk2
      rcases hv k hk1 with h3 | h3
      · exact (apart q hq e2).2 k hk2 h3
      · have := kold q hq k hk2; omega
    · rw [if_neg e1]
      by_cases e2 : q.1 = id
      · rw [if_pos e2]
        intro k hk1 hk2
        rcases hv k hk2 with h3 | h3
        · exact (apart p hp e1).2 k hk1 h3
        · have := kold p hp k hk1; omega
      · rw [if_neg e2]; exact h1
  · intro p hp k hk2 hk3
    obtain ⟨q, hq, e1, e2, e5, e6⟩ := setR_mem hp
    by_cases e : q.1 = id
    · rw [(e5 e).2.1] at hk2
      rcases hv k hk2 with h3 | h3
      · exact h.nc _ hmem k h3 hk3
      · have := (h.lt k (h.Fcv k hk3)).2; omega
    · obtain rfl := e6 e
      exact h.nc p hq k hk2 hk3
  · intro p hp
    obtain ⟨q, hq, e1, e2, _⟩ := setR_mem hp
    rw [e2]; exact hF _ (h.Fb q hq)
  · intro p hp k hk2
    obtain ⟨q, hq, e1, e2, e5, e6⟩ := setR_mem hp
    by_cases e : q.1 = id
    · rw [(e5 e).2.1] at hk2; exact hFv k hk2
    · obtain rfl := e6 e
      exact hF k (h.Fl p hq k hk2)
  · intro k hk2
    rcases hlt k hk2 with h1 | h1
    · exact ⟨(h.lt k h1).1, Nat.lt_of_lt_of_le (h.lt k h1).2 hk.size⟩
    · exact ⟨by omega, h1.2⟩
  · have := congrArg List.length (setR_keys N id f v ls)
    simp only [List.length_map] at this
    rw [this]; exact h.few
  · intro p hp
    obtain ⟨q, hq, e1, e2, e5, e6⟩ := setR_mem hp
    by_cases e : q.1 = id
    · rw [(e5 e).2.2]; exact hls
    · obtain rfl := e6 e
      exact h.lf p hq
  · intro p hp
    obtain ⟨q, hq, e1, _⟩ := setR_mem hp
    rw [e1]; exact h.keys q hq
/-- All that came is another row now. -/
theorem TS.setC (h : TS B F g m cv cs N W) (hk : Keep (fun k => k = g ∨ cv.ownBlock = some k) W W') (hb : W'.heap[g]? = some (.cells #[.map (some m), v] 87 (0, 0))) (ho : OwnY W' B v ls)
    (hv : ∀ k, v.ownBlock = some k → cv.ownBlock = some k ∨ W.heap.size ≤ k) (hF : ∀ k, F k → F' k) (hFv : ∀ k, v.ownBlock = some k → F' k) (hlt : ∀ k, F' k → F k ∨ W.heap.size ≤ k ∧ k < W'.heap.size) (hls : ls.length ≤ 10000) (hB : B ≤ W.heap.size) (hfc : ∀ y ∈ ls, y ∈ cs ∨ Fc B F' W' y) :
    TS B F' g m v ls N W' := by
  have old : ∀ y, (y ∈ cs ∨ ∃ p ∈ N, y ∈ p.2.ls) → Fc B F' W' y := fun y hy => ((h.facts y hy).keep hk (fun k hk2 => by
    obtain ⟨h4, _, _, h5⟩ := h.fx (h.facts y hy)
    rintro (e | e)
    · exact h4 (by rw [← e]; exact hk2)
    · exact h5 k hk2 e)).mono hF
  refine ⟨hb, h.map.move (hk.block m (h.lt m h.Fm).2 ?_), ?_, ?_, ho, ?_, h.nb, h.nl, ?_, hF g h.Fg, hF m h.Fm, fun p hp => hF _ (h.Fb p hp), fun p hp k hk2 => hF k (h.Fl p hp k hk2), hFv, ?_, h.few, h.lf, hls, h.keys⟩
  · rintro (e | e)
    · exact h.gm e.symm
    · exact h.cm e
  · intro p hp
    refine (hk.block _ (h.lt _ (h.Fb p hp)).2 ?_).trans (h.node p hp)
    rintro (e | e)
    · exact h.bg hp e
    · exact h.cb hp e
  · intro p hp
    refine (h.own p hp).keep hk (fun k hk2 => ?_)
    rintro (e | e)
    · subst e; exact h.vg hp hk2
    · exact h.nc p hp k hk2 e
  · rintro y (hy | hy)
    · rcases hfc y hy with h1 | h1
      · exact old y (.inl h1)
      · exact h1
    · exact old y (.inr hy)
  · intro p hp k hk2 hk3
    rcases hv k hk3 with h1 | h1
    · exact h.nc p hp k hk2 h1
    · have := (h.lt k (h.Fl p hp k hk2)).2; omega
  · intro k hk2
    rcases hlt k hk2 with h1 | h1
    · exact ⟨(h.lt k h1).1, Nat.lt_of_lt_of_le (h.lt k h1).2 hk.size⟩
    · exact ⟨by omega, h1.2⟩
end
theorem zeroR (w : World) : (zeroValue 88).run Try.prog w = .ok (.pointer none) w := by kernel_rfl
section
variable {B : Nat} {F : Nat → Prop} {g m : Nat} {cv : Value} {cs : List Wf} {N : Tb} {W : World} {id : Int} {nd : Rd}
set_option maxRecDepth 100000 in
/-- 't.by[id]'. -/
theorem TS.look (h : TS B F g m cv cs N W) (id : Int) :
    (Instr.lookup 85 (.map (some m)) (.int .i64 id) false).run Try.prog W = .ok (((lk N id).map Rd.val).getD (.pointer none)) W :=
  h.map.lookup (P := Try.prog) inj_int key_int Try.underlying85 Try.underlying3 (zeroR W) id false
theorem TS.look_yes (h : TS B F g m cv cs N W) (hl : lk N id = some nd) : (Instr.lookup 85 (.map (some m)) (.int .i64 id) false).run Try.prog W = .ok nd.val W := by
  have := h.look id
  rw [hl] at this
  exact this
theorem TS.look_no (h : TS B F g m cv cs N W) (hl : lk N id = none) : (Instr.lookup 85 (.map (some m)) (.int .i64 id) false).run Try.prog W = .ok (.pointer none) W := by
  have := h.look id
  rw [hl] at this
  exact this
set_option maxRecDepth 100000 in
theorem TS.delete (h : TS B F g m cv cs N W) (id : Int) (ty kt : TypeId) : ∃ w', (Builtin.delete_ #[85, kt] ty #[.map (some m), .int .i64 id]).run Try.prog W = .ok (.tuple #[]) w' ∧ TS B F g m cv cs (del N id) w' ∧ Keep F W w' := by
  obtain ⟨w', hrun, r1, r2, r3⟩ := h.map.delete (P := Try.prog) inj_int key_int Try.underlying85 Try.underlying3 id ty kt
  have k3 : Keep (fun k => k = m) W w' := (Keep.refl _ W).grown r2 (fun k hk => .inl (by injection hk with hk; exact hk.symm))
  exact ⟨w', hrun, h.sub _ r1 k3, k3.mono (fun k hk => by subst hk; exact h.Fm)⟩
set_option maxRecDepth 100000 in
/-- 't.by[id] = &row{}'. -/
theorem TS.put (h : TS B F g m cv cs N W) (hl : lk N id = none) (hid : (Lit.int .i64 id).wf = true) (hf : N.length ≤ 900) :
    ∃ w', (Instr.mapUpdate 85 (.map (some m)) (.int .i64 id) (.pointer (some ⟨W.heap.size, 0, none⟩))).run Try.prog (W.alloc (.cells #[.bool false, .slice none 0 0] 92)) = .ok () w' ∧
      TS B (fun k => F k ∨ k = W.heap.size) g m cv cs (N ++ [(id, ⟨W.heap.size, false, .slice none 0 0, []⟩)]) w' ∧ Keep F W w' := by
  have h1 := h.grow ((Below.refl W.heap.size W).alloc (Nat.le_refl _) (.cells #[.bool false, .slice none 0 0] 92))
  obtain ⟨w', hrun, r1, r2, r3⟩ := h1.map.update (P := Try.prog) inj_int key_int Try.underlying85 Try.underlying3 id ⟨W.heap.size, false, .slice none 0 0, []⟩
  rw [put_none hl] at r1
  have k3 : Keep (fun k => k = m) (W.alloc (.cells #[.bool false, .slice none 0 0] 92)) w' := (Keep.refl _ _).grown r2 (fun k hk => .inl (by injection hk with hk; exact hk.symm))
  have hsz : w'.heap.size = W.heap.size + 1 := by rw [r3]; simp
  have hm : m < W.heap.size := (h.lt m h.Fm).2
  have hbs : ∀ p ∈ N, p.2.b < W.heap.size := fun p hp => (h.lt _ (h.Fb p hp)).2
  have mem : ∀ p ∈ N ++ [(id, (⟨W.heap.size, false, .slice none 0 0, []⟩ : Rd))], p ∈ N ∨ p = (id, ⟨W.heap.size, false, .slice none 0 0, []⟩) := fun p hp => (List.mem_append.1 hp).imp (fun h => h) List.mem_singleton.1
  refine ⟨w', hrun, ⟨(k3.block g (h1.lt g h1.Fg).2 h1.gm).trans h1.blk, r1, ?_, ?_, h1.cown.keep k3 (fun k hk2 e => h1.cm (by rw [← e]; exact hk2)), ?_, ?_, ?_, ?_, .inl h.Fg, .inl h.Fm, ?_, ?_, fun k hk2 => .inl (h.Fcv k hk2), ?_, by simp; omega, ?_, h.cf, ?_⟩, ?_⟩
  · intro p hp
    rcases mem p hp with hp | rfl
    · exact (k3.block _ (h1.lt _ (h1.Fb p hp)).2 (h1.bm hp)).trans (h1.node p hp)
    · exact (k3.block _ (by simp) (by show W.heap.size ≠ m; omega)).trans (heap_alloc_new W _)
  · intro p hp
    rcases mem p hp with hp | rfl
    · exact (h1.own p hp).keep k3 (fun k hk2 e => h1.vm hp (by rw [← e]; exact hk2))
    · exact OwnW.nil _ _ _ _
  · intro y hy
    have hy2 : y ∈ cs ∨ ∃ p ∈ N, y ∈ p.2.ls := hy.imp (fun h => h) (fun ⟨p, hp, hy⟩ => by
      rcases mem p hp with hp | rfl
      · exact ⟨p, hp, hy⟩
      · cases hy)
    exact ((h1.facts y hy2).keep k3 (fun k hk2 e => (h1.fx (h1.facts y hy2)).2.1 (by rw [← e]; exact hk2))).mono (fun k hF => .inl hF)
  · refine List.pairwise_append.2 ⟨h.nb, List.pairwise_singleton _ _, fun p hp q hq => ?_⟩
    obtain rfl := List.mem_singleton.1 hq
    have := hbs p hp
    show p.2.b ≠ W.heap.size
    omega
  · refine List.pairwise_append.2 ⟨h.nl, List.pairwise_singleton _ _, fun p hp q hq k _ hk2 => ?_⟩
    obtain rfl := List.mem_singleton.1 hq
    cases hk2
  · intro p hp k hk2
    rcases mem p hp with hp | rfl
    · exact h.nc p hp k hk2
    · cases hk2
  · intro p hp
    rcases mem p hp with hp | rfl
    · exact .inl (h.Fb p hp)
    · exact .inr rfl
  · intro p hp k hk2
    rcases mem p hp with hp | rfl
    · exact .inl (h.Fl p hp k hk2)
    · cases hk2
  · rintro k (hF | rfl)
    · exact ⟨(h.lt k hF).1, by have := (h.lt k hF).2; omega⟩
    · exact ⟨by have := h.lt g h.Fg; omega, by omega⟩
  · intro p hp
    rcases mem p hp with hp | rfl
    · exact h.lf p hp
    · exact Nat.zero_le _
  · intro p hp
    rcases mem p hp with hp | rfl
    · exact h.keys p hp
    · exact hid
  · exact ((Keep.refl F W).alloc _).trans k3 (fun k e => .inl (by rw [e]; exact h.Fm))
end
end Go.Proofs.Ytonflknnlfffhaa
