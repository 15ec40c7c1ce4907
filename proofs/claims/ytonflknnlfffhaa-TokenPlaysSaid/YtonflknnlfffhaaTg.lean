/- token.Tree: what it holds; New, Len. -/
import Derived.Test.YtonflknnlfffhaaFo
import Derived.Test.YtonflknnlfffhaaMi
namespace Go.Proofs.Ytonflknnlfffhaa
open Go.RowKit Go.Lib KP MR RW
/-- A node: its block, its parent, its fact, its kids' slice, its kids. -/
structure Nd where
  b : Nat
  par : Int
  fact : Int
  kv : Value
  kids : List Int
abbrev Nd.val (nd : Nd) : Value := .pointer (some ⟨nd.b, 0, none⟩)
abbrev Tab := List (Int × Nd)
/-- A tree in the blocks F: its own block g, its map m, its nodes N. -/
structure TM (B : Nat) (F : Nat → Prop) (g m : Nat) (N : Tab) (last : Int) (W : World) : Prop where
  blk : W.heap[g]? = some (.cells #[.map (some m), .int .i64 last] 77 (0, 0))
  map : IsMap W m (Value.int .i64) Nd.val N
  node : ∀ p ∈ N, W.heap[p.2.b]? = some (.cells #[.int .i64 p.2.par, .int .i64 p.2.fact, p.2.kv] 74 (0, 0))
  own : ∀ p ∈ N, OwnI W B p.2.kv p.2.kids
  nb : N.Pairwise fun p q => p.2.b ≠ q.2.b
  nk : N.Pairwise fun p q => ∀ k, p.2.kv.ownBlock = some k → q.2.kv.ownBlock ≠ some k
  Fg : F g
  Fm : F m
  Fb : ∀ p ∈ N, F p.2.b
  Fk : ∀ p ∈ N, ∀ k, p.2.kv.ownBlock = some k → F k
  lt : ∀ k, F k → B ≤ k ∧ k < W.heap.size
  few : N.length ≤ 1000
  keys : ∀ p ∈ N, 0 ≤ p.1 ∧ p.1 ≤ 1000000
  kf : ∀ p ∈ N, p.2.kids.length ≤ 1000
  last1 : 0 ≤ last ∧ last ≤ 1000000
theorem Nd.val_inj {a b : Nd} (h : a.val = b.val) : a.b = b.b := by
  injection h with h
  injection h with h
  injection h
/-- The kids of a node are others now. -/
def setK (N : Tab) (id : Int) (v : Value) (ks : List Int) : Tab := N.map fun p => if p.1 = id then (p.1, { p.2 with kv := v, kids := ks }) else p
section
variable {B : Nat} {F F' G : Nat → Prop} {g m : Nat} {N : Tab} {last : Int} {W W' : World} {id : Int} {nd : Nd} {v : Value} {ks : List Int}
theorem TM.gm (h : TM B F g m N last W) : g ≠ m := by
  obtain ⟨_, _, hb, _⟩ := h.map
  intro e
  have := h.blk
  rw [e, hb] at this
  cases this
theorem TM.bm (h : TM B F g m N last W) {p : Int × Nd} (hp : p ∈ N) : p.2.b ≠ m := by
  obtain ⟨_, _, hb, _⟩ := h.map
  intro e
  have := h.node p hp
  rw [e, hb] at this
  cases this
theorem TM.bg (h : TM B F g m N last W) {p : Int × Nd} (hp : p ∈ N) : p.2.b ≠ g := by
  intro e
  have := h.node p hp
  rw [e, h.blk] at this
  injection this with this
  injection this with _ this
  revert this
  decide
theorem TM.vg (h : TM B F g m N last W) {p : Int × Nd} (hp : p ∈ N) : p.2.kv.ownBlock ≠ some g := (h.own p hp).ne h.blk (by decide)
theorem TM.vm (h : TM B F g m N last W) {p : Int × Nd} (hp : p ∈ N) : p.2.kv.ownBlock ≠ some m := by
  obtain ⟨_, _, hb, _⟩ := h.map
  exact (h.own p hp).neMap hb
theorem TM.vb (h : TM B F g m N last W) {p q : Int × Nd} (hp : p ∈ N) (hq : q ∈ N) : p.2.kv.ownBlock ≠ some q.2.b := (h.own p hp).ne (h.node q hq) (by decide)
theorem TM.nodup (h : TM B F g m N last W) : (N.map (·.1)).Nodup := h.map.nodup
/-- As long as its blocks are not touched. -/
theorem TM.keep (h : TM B F g m N last W) (hk : Keep G W W') (hd : ∀ k, F k → ¬ G k) : TM B F g m N last W' :=
  ⟨(hk.block g (h.lt g h.Fg).2 (hd g h.Fg)).trans h.blk, h.map.move (hk.block m (h.lt m h.Fm).2 (hd m h.Fm)), fun p hp => (hk.block _ (h.lt _ (h.Fb p hp)).2 (hd _ (h.Fb p hp))).trans (h.node p hp),
   fun p hp => (h.own p hp).keep hk (fun k hk2 => hd k (h.Fk p hp k hk2)), h.nb, h.nk, h.Fg, h.Fm, h.Fb, h.Fk, fun k hF => ⟨(h.lt k hF).1, Nat.lt_of_lt_of_le (h.lt k hF).2 hk.size⟩, h.few, h.keys, h.kf, h.last1⟩
theorem TM.grow (h : TM B F g m N last W) (hb : Below W.heap.size W W') : TM B F g m N last W' := h.keep (Keep.of_below hb (fun _ => False)) (fun _ _ h => h)
theorem TM.mem (_ : TM B F g m N last W) (hl : lk N id = some nd) : (id, nd) ∈ N := lk_some hl
/-- Fewer nodes. -/
theorem TM.sub (h : TM B F g m N last W) (f : Int × Nd → Bool) (hm : IsMap W' m (Value.int .i64) Nd.val (N.filter f)) (hk : Keep (fun k => k = m) W W') : TM B F g m (N.filter f) last W' :=
  have mem : ∀ p ∈ N.filter f, p ∈ N := fun p hp => (List.mem_filter.1 hp).1
  ⟨(hk.block g (h.lt g h.Fg).2 h.gm).trans h.blk, hm, fun p hp => (hk.block _ (h.lt _ (h.Fb p (mem p hp))).2 (h.bm (mem p hp))).trans (h.node p (mem p hp)),
   fun p hp => (h.own p (mem p hp)).keep hk (fun k hk2 e => h.vm (mem p hp) (by rw [← e]; exact hk2)), h.nb.sublist List.filter_sublist, h.nk.sublist List.filter_sublist, h.Fg, h.Fm, fun p hp => h.Fb p (mem p hp), fun p hp => h.Fk p (mem p hp),
   fun k hF => ⟨(h.lt k hF).1, Nat.lt_of_lt_of_le (h.lt k hF).2 hk.size⟩, Nat.le_trans (List.length_filter_le _ _) h.few, fun p hp => h.keys p (mem p hp), fun p hp => h.kf p (mem p hp), h.last1⟩
set_option maxRecDepth 100000 in
/-- 'delete(t.by, id)'. -/
theorem TM.delete (h : TM B F g m N last W) (id : Int) (ty kt : TypeId) : ∃ w', (Builtin.delete_ #[75, kt] ty #[.map (some m), .int .i64 id]).run Try.prog W = .ok (.tuple #[]) w' ∧ TM B F g m (del N id) last w' ∧ Keep F W w' := by
  obtain ⟨w', hrun, r1, r2, r3⟩ := h.map.delete (P := Try.prog) inj_int key_int Try.underlying75 Try.underlying3 id ty kt
  have k3 : Keep (fun k => k = m) W w' := (Keep.refl _ W).grown r2 (fun k hk => .inl (by injection hk with hk; exact hk.symm))
  exact ⟨w', hrun, h.sub _ r1 k3, k3.mono (fun k hk => by subst hk; exact h.Fm)⟩
theorem setK_map (N : Tab) (id : Int) (v : Value) (ks : List Int) : (setK N id v ks).map (fun p => (Value.int .i64 p.1, p.2.val)) = N.map fun p => (Value.int .i64 p.1, p.2.val) := by
  unfold setK
  rw [List.map_map]
  refine List.map_congr_left (fun p _ => ?_)
  simp only [Function.comp_apply]
  split <;> rfl
theorem setK_keys (N : Tab) (id : Int) (v : Value) (ks : List Int) : (setK N id v ks).map (·.1) = N.map (·.1) := by
  unfold setK
  rw [List.map_map]
  refine List.map_congr_left (fun p _ => ?_)
  simp only [Function.comp_apply]
  split <;> rfl
theorem setK_mem {p : Int × Nd} (hp : p ∈ setK N id v ks) : ∃ q ∈ N, p.1 = q.1 ∧ p.2.b = q.2.b ∧ p.2.par = q.2.par ∧ p.2.fact = q.2.fact ∧ (q.1 = id → p.2.kv = v ∧ p.2.kids = ks) ∧ (q.1 ≠ id → p = q) := by
  unfold setK at hp
  obtain ⟨q, hq, rfl⟩ := List.mem_map.1 hp
  refine ⟨q, hq, ?_⟩
  by_cases e : q.1 = id
  · rw [if_pos e]; exact ⟨rfl, rfl, rfl, rfl, fun _ => ⟨rfl, rfl⟩, fun h => absurd e h⟩
  · rw [if_neg e]; exact ⟨rfl, rfl, rfl, rfl, fun h => absurd h e, fun _ => rfl⟩
/-- The kids' slice of a node is another one now. -/
theorem TM.setK (h : TM B F g m N last W) (hl : lk N id = some nd) (hk : Keep (fun k => k = nd.b ∨ nd.kv.ownBlock = some k) W W') (hb : W'.heap[nd.b]? = some (.cells #[.int .i64 nd.par, .int .i64 nd.fact, v] 74 (0, 0))) (ho : OwnI W' B v ks)
    (hv : ∀ k, v.ownBlock = some k → nd.kv.ownBlock = some k ∨ W.heap.size ≤ k) (hF : ∀ k, F k → F' k) (hFv : ∀ k, v.ownBlock = some k → F' k) (hlt : ∀ k, F' k → F k ∨ W.heap.size ≤ k ∧ k < W'.heap.size) (hks : ks.length ≤ 1000) (hB : B ≤ W.heap.size) :
    TM B F' g m (setK N id v ks) last W' := by
  have hmem := lk_some hl
  have one : ∀ p ∈ N, p.1 = id → p = (id, nd) := by
    intro p hp e
    have := mem_lk h.nodup (k := p.1) (v := p.2) hp
    rw [e, hl] at this
    injection this with this
    exact Prod.ext e this.symm
  have apart : ∀ p ∈ N, p.1 ≠ id → p.2.b ≠ nd.b ∧ ∀ k, p.2.kv.ownBlock = some k → nd.kv.ownBlock ≠ some k := by
    intro p hp hne
    obtain ⟨i, hi, rfl⟩ := List.getElem_of_mem hp
    obtain ⟨j, hj, e⟩ := List.getElem_of_mem hmem
    rcases Nat.lt_trichotomy i j with hij | hij | hij
    · have h1 := List.pairwise_iff_getElem.1 h.nb i j hi hj hij
      have h2 := List.pairwise_iff_getElem.1 h.nk i j hi hj hij
      rw [e] at h1 h2
      exact ⟨h1, h2⟩
    · subst hij; rw [e] at hne; exact absurd rfl hne
    · have h1 := List.pairwise_iff_getElem.1 h.nb j i hj hi hij
      have h2 := List.pairwise_iff_getElem.1 h.nk j i hj hi hij
      rw [e] at h1 h2
      exact ⟨h1.symm, fun k hk1 hk2 => h2 k hk2 hk1⟩
  have kold : ∀ p ∈ N, ∀ k, p.2.kv.ownBlock = some k → k < W.heap.size := fun p hp k hk2 => (h.lt k (h.Fk p hp k hk2)).2
  refine ⟨(hk.block g (h.lt g h.Fg).2 ?_).trans h.blk, ?_, ?_, ?_, ?_, ?_, hF g h.Fg, hF m h.Fm, ?_, ?_, ?_, ?_, ?_, ?_, h.last1⟩
  · rintro (e | e)
    · exact h.bg hmem e.symm
    · exact h.vg hmem e
  · have hm := h.map.move (hk.block m (h.lt m h.Fm).2 (by
      rintro (e | e)
      · exact h.bm hmem e.symm
      · exact h.vm hmem e))
    obtain ⟨es, clock, a1, a2, a3⟩ := hm
    exact ⟨es, clock, a1, a2, by rw [a3, setK_map]⟩
  · intro p hp
    obtain ⟨q, hq, e1, e2, e3, e4, e5, e6⟩ := setK_mem hp
    by_cases e : q.1 = id
    · obtain rfl := one q hq e
      rw [e2, e3, e4, (e5 rfl).1]
      exact hb
    · obtain rfl := e6 e
      refine (hk.block _ (h.lt _ (h.Fb p hq)).2 ?_).trans (h.node p hq)
      rintro (h1 | h1)
      · exact (apart p hq e).1 h1
      · exact h.vb hmem hq h1
  · intro p hp
    obtain ⟨q, hq, e1, e2, e3, e4, e5, e6⟩ := setK_mem hp
    by_cases e : q.1 = id
    · rw [(e5 e).1, (e5 e).2]
      exact ho
    · obtain rfl := e6 e
      refine (h.own p hq).keep hk (fun k hk2 => ?_)
      rintro (h1 | h1)
      · subst h1; exact h.vb hq hmem hk2
      · exact (apart p hq e).2 k hk2 h1
  · unfold Go.Proofs.Ytonflknnlfffhaa.setK
    rw [List.pairwise_map]
    refine h.nb.imp (fun {p q} hpq => ?_)
    split <;> split <;> exact hpq
  · unfold Go.Proofs.Ytonflknnlfffhaa.setK
    rw [List.pairwise_map]
    have hN : N.Pairwise (fun p q => p.1 ≠ q.1) := by have := h.nodup; rw [List.Nodup, List.pairwise_map] at this; exact this
    refine ((h.nk.and hN).imp_of_mem (fun {p q} hp hq hpq => ?_))
    obtain ⟨h1, h2⟩ := hpq
    by_cases e1 : p.1 = id
    · have e2 : ¬ q.1 = id := fun e => h2 (e1.trans e.symm)
      rw [if_pos e1, if_neg e2]
      intro k hk1 hk2
      rcases hv k hk1 with h3 | h3
      · exact (apart q hq e2).2 k hk2 h3
      · have := kold q hq k hk2; omega
    · rw [if_neg e1]
      by_cases e2 : q.1 = id
      · rw [if_pos e2]
        intro k hk1 hk2
        rcases hv k hk2 with h3 | h3
        · exact (apart p hp e1).2 k hk1 h3
        · have := kold p hp k hk1; omega
      · rw [if_neg e2]; exact h1
  · intro p hp
    obtain ⟨q, hq, e1, e2, _⟩ := setK_mem hp
    rw [e2]; exact hF _ (h.Fb q hq)
  · intro p hp k hk2
    obtain ⟨q, hq, e1, e2, e3, e4, e5, e6⟩ := setK_mem hp
    by_cases e : q.1 = id
    · rw [(e5 e).1] at hk2; exact hFv k hk2
    · obtain rfl := e6 e
      exact hF k (h.Fk p hq k hk2)
  · intro k hk2
    rcases hlt k hk2 with h1 | h1
    · exact ⟨(h.lt k h1).1, Nat.lt_of_lt_of_le (h.lt k h1).2 hk.size⟩
    · exact ⟨by omega, h1.2⟩
  · have := congrArg List.length (setK_keys N id v ks)
    simp only [List.length_map] at this
    rw [this]; exact h.few
  · intro p hp
    obtain ⟨q, hq, e1, _⟩ := setK_mem hp
    rw [e1]; exact h.keys q hq
  · intro p hp
    obtain ⟨q, hq, e1, e2, e3, e4, e5, e6⟩ := setK_mem hp
    by_cases e : q.1 = id
    · rw [(e5 e).2]; exact hks
    · obtain rfl := e6 e
      exact h.kf p hq
end
theorem zeroP (w : World) : (zeroValue 72).run Try.prog w = .ok (.pointer none) w := by kernel_rfl
set_option maxRecDepth 100000 in
/-- 't.by[id]'. -/
theorem TM.look {B : Nat} {F : Nat → Prop} {g m : Nat} {N : Tab} {last : Int} {W : World} (h : TM B F g m N last W) (id : Int) (ok : Bool) :
    (Instr.lookup 75 (.map (some m)) (.int .i64 id) ok).run Try.prog W = .ok (if ok then .tuple #[((lk N id).map Nd.val).getD (.pointer none), .bool (lk N id).isSome] else ((lk N id).map Nd.val).getD (.pointer none)) W :=
  h.map.lookup (P := Try.prog) inj_int key_int Try.underlying75 Try.underlying3 (zeroP W) id ok
set_option maxRecDepth 100000 in
theorem new_c (w : World) : Calls Try.prog 8 #[] w fun e w' => ∃ g m b F, e = .returned (.pointer (some ⟨g, 0, none⟩)) ∧ TM w.heap.size F g m [(0, ⟨b, -1, 0, .slice none 0 0, []⟩)] 0 w' ∧ Below w.heap.size w w' := by
  have hmm := @run_makeMap Try.prog
  have hb1 : Below w.heap.size w (w.alloc (Obj.map #[] 0)) := (Below.refl _ _).alloc (Nat.le_refl _) _
  have hb2 := hb1.alloc hb1.size (Obj.cells #[.int .i64 (-1), .int .i64 0, .slice none 0 0] 74)
  have m2 : IsMap ((w.alloc (Obj.map #[] 0)).alloc (Obj.cells #[.int .i64 (-1), .int .i64 0, .slice none 0 0] 74)) w.heap.size (Value.int .i64) Nd.val [] := (IsMap.made w _ _).move (Below.heap_alloc _ _ _ (by simp))
  obtain ⟨w3, hrun, m3, g3, s3⟩ := m2.update (P := Try.prog) inj_int key_int Try.underlying75 Try.underlying3 0 ⟨w.heap.size + 1, -1, 0, .slice none 0 0, []⟩
  have hs3 : w3.heap.size = w.heap.size + 2 := by rw [s3]; simp
  have k3 : Keep (fun k => k = w.heap.size) ((w.alloc (Obj.map #[] 0)).alloc (Obj.cells #[.int .i64 (-1), .int .i64 0, .slice none 0 0] 74)) w3 := (Keep.refl _ _).grown g3 (fun k hk => .inl (by injection hk with hk; exact hk.symm))
  have b3 : Below w.heap.size w w3 := hb2.grown g3 hb2.size (fun j hj => by cases hj; exact Nat.le_refl _)
  have n3 : w3.heap[w.heap.size + 1]? = some (.cells #[.int .i64 (-1), .int .i64 0, .slice none 0 0] 74 (0, 0)) := by
    refine (k3.block _ (by simp) (by omega)).trans ?_
    have := heap_alloc_new (w.alloc (Obj.map #[] 0)) (Obj.cells #[.int .i64 (-1), .int .i64 0, .slice none 0 0] 74)
    simpa using this
  have HR := Lib.hid hrun
  have HE := Lib.hid (show ∃ g m b F, Ending.returned (.pointer (some ⟨w3.heap.size, 0, none⟩)) = .returned (.pointer (some ⟨g, 0, none⟩)) ∧ TM w.heap.size F g m [(0, ⟨b, -1, 0, .slice none 0 0, []⟩)] 0 (w3.alloc (Obj.cells #[.map (some w.heap.size), .int .i64 0] 77)) ∧ Below w.heap.size w (w3.alloc (Obj.cells #[.map (some w.heap.size), .int .i64 0] 77)) from
    ⟨w3.heap.size, w.heap.size, w.heap.size + 1, fun k => w.heap.size ≤ k ∧ k ≤ w.heap.size + 2, rfl, ⟨heap_alloc_new w3 _, m3.move (Below.heap_alloc _ _ _ (by omega)), (fun p hp => by obtain rfl := List.mem_singleton.1 hp; exact (Below.heap_alloc _ _ _ (by show w.heap.size + 1 < _; omega)).trans n3), (fun p hp => by obtain rfl := List.mem_singleton.1 hp; exact OwnW.nil _ _ _ _), List.pairwise_singleton _ _, List.pairwise_singleton _ _, ⟨by omega, by omega⟩, ⟨Nat.le_refl _, by omega⟩, (fun p hp => by obtain rfl := List.mem_singleton.1 hp; exact ⟨by show _ ≤ w.heap.size + 1; omega, by show w.heap.size + 1 ≤ _; omega⟩), (fun p hp k hk => by obtain rfl := List.mem_singleton.1 hp; cases hk), (fun k hk => ⟨hk.1, by simp; omega⟩), by simp, (fun p hp => by obtain rfl := List.mem_singleton.1 hp; exact ⟨Int.le_refl _, by show (0 : Int) ≤ 1000000; omega⟩), (fun p hp => by obtain rfl := List.mem_singleton.1 hp; exact Nat.zero_le _), ⟨by omega, by omega⟩⟩, b3.alloc b3.size _⟩)
  clear hrun b3 n3 k3 m3 m2 g3 hb1 hb2 hs3 s3
  go_enter Try.func8, Try.ntmps8
  go_wp2_with fail
  rw [HR.out]
  simp only [Result.andThen]
  rw [Oper.upon_skip]
  go_wp2_with fail
  go_ret
  exact HE.out
theorem len_c {B : Nat} {F : Nat → Prop} {g m : Nat} {N : Tab} {last : Int} {W : World} (h : TM B F g m N last W) : Calls Try.prog 15 #[.pointer (some ⟨g, 0, none⟩)] W fun e w' => e = .returned (.int .i64 ((N.length : Int) - 1)) ∧ W = w' := by
  have hc := block_cell (j := 0) h.blk rfl
  have hlen := h.map.len (P := Try.prog) Try.underlying75 3
  have hf := h.few
  have hfI : (N.length : Int) ≤ 1000 := by omega
  clear h
  go_enter Try.func15, Try.ntmps15
  go_wp2_with fail
  go_ret
  exact ⟨rfl, rfl⟩
end Go.Proofs.Ytonflknnlfffhaa
