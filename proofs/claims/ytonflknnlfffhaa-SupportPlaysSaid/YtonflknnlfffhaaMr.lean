/- Maps as rows of pairs: what a block that is a map holds, and what lookup, update, delete and len do to it. Over any program. -/
import Derived.MapKept
import Derived.Maps.OwnSet
import Derived.WalkKit
namespace Go.Proofs.Ytonflknnlfffhaa.MR
open Go.MapKept Go.RowKit
section
variable {K V : Type} [DecidableEq K]

def lk (l : List (K × V)) (k : K) : Option V := (l.find? fun p => decide (p.1 = k)).map (·.2)
def put (l : List (K × V)) (k : K) (v : V) : List (K × V) := if l.any (fun p => decide (p.1 = k)) then l.map (fun p => if p.1 = k then (p.1, v) else p) else l ++ [(k, v)]
def del (l : List (K × V)) (k : K) : List (K × V) := l.filter fun p => decide (p.1 ≠ k)

/-- Block r is a map whose entries are l, in the order in which they came. -/
def IsMap (w : World) (r : Nat) (eK : K → Value) (eV : V → Value) (l : List (K × V)) : Prop :=
  ∃ es clock, w.heap[r]? = some (.map es clock) ∧ Stamped es clock ∧ es.toList.map (fun e => (e.key, e.val)) = l.map (fun p => (eK p.1, eV p.2))

variable {P : Program} {w w1 : World} {r mty kt et : Nat} {d : TypeDesc} {eK : K → Value} {eV : V → Value} {l : List (K × V)} {k : K} {v : V} {z : Value}

theorem nodup_inj {α : Type} {l : List α} (hn : l.Nodup) {i j : Nat} {x : α} (hi : l[i]? = some x) (hj : l[j]? = some x) : i = j := by
  obtain ⟨hi', ei⟩ := List.getElem?_eq_some_iff.1 hi
  obtain ⟨hj', ej⟩ := List.getElem?_eq_some_iff.1 hj
  rcases Nat.lt_trichotomy i j with h | h | h
  · exact absurd (ei.trans ej.symm) (List.pairwise_iff_getElem.1 hn i j hi' hj' h)
  · exact h
  · exact absurd (ej.trans ei.symm) (List.pairwise_iff_getElem.1 hn j i hj' hi' h)
theorem lk_none (h : lk l k = none) : ∀ p ∈ l, p.1 ≠ k := by
  intro p hp
  simp only [lk, Option.map_eq_none_iff, List.find?_eq_none, decide_eq_true_eq] at h
  exact h p hp
theorem lk_some (h : lk l k = some v) : (k, v) ∈ l := by
  simp only [lk, Option.map_eq_some_iff] at h
  obtain ⟨p, hp, rfl⟩ := h
  have h1 := List.find?_some hp
  have h2 := List.mem_of_find?_eq_some hp
  simp only [decide_eq_true_eq] at h1
  subst h1
  exact h2
omit [DecidableEq K] in
theorem IsMap.nodup (h : IsMap w r eK eV l) : (l.map (·.1)).Nodup := by
  obtain ⟨es, clock, _, hs, he⟩ := h
  have h3 := hs.2.2
  have : es.toList.map (·.key) = (l.map (·.1)).map eK := by
    have := congrArg (List.map Prod.fst) he
    simpa [List.map_map, Function.comp_def] using this
  rw [this] at h3
  exact (List.pairwise_map.1 h3).imp (fun h e => h (congrArg eK e))
theorem mem_lk (hn : (l.map (·.1)).Nodup) (h : (k, v) ∈ l) : lk l k = some v := by
  induction l with
  | nil => cases h
  | cons p l ih =>
    simp only [List.map_cons, List.nodup_cons] at hn
    rcases List.mem_cons.1 h with e | h'
    · subst e
      simp [lk]
    · have hne : p.1 ≠ k := fun e => hn.1 (e ▸ List.mem_map.2 ⟨_, h', rfl⟩)
      have := ih hn.2 h'
      simp only [lk] at this ⊢
      rw [List.find?_cons_of_neg (by simp [hne])]
      exact this
omit [DecidableEq K] in
theorem IsMap.keys (hk : ∀ k, IsKey d (eK k)) {es : Array MapEntry} (he : es.toList.map (fun e => (e.key, e.val)) = l.map (fun p => (eK p.1, eV p.2))) : ∀ x ∈ es.toList, IsKey d x.key := by
  intro x hx
  have : (x.key, x.val) ∈ es.toList.map (fun e => (e.key, e.val)) := List.mem_map.2 ⟨x, hx, rfl⟩
  rw [he] at this
  obtain ⟨p, _, e⟩ := List.mem_map.1 this
  injection e with e1 e2
  rw [← e1]; exact hk p.1
theorem IsMap.find (inj : ∀ a b, eK a = eK b → a = b) (hk : ∀ k, IsKey d (eK k)) {es : Array MapEntry} (hn : (l.map (·.1)).Nodup) (he : es.toList.map (fun e => (e.key, e.val)) = l.map (fun p => (eK p.1, eV p.2))) (k : K) :
    (lk l k = none ∧ Instr.findNow d (eK k) es.toList 0 = some none ∧ ∀ x ∈ es.toList, x.key ≠ eK k) ∨ ∃ j v e, lk l k = some v ∧ Instr.findNow d (eK k) es.toList 0 = some (some (j, eV v)) ∧ es[j]? = some e ∧ e.key = eK k ∧ l[j]? = some (k, v) := by
  rcases findNow_spec (hk k) es.toList 0 (IsMap.keys hk he) with ⟨h1, h2⟩ | ⟨j, e, h1, h2, h3⟩
  · refine .inl ⟨?_, h1, h2⟩
    cases hl : lk l k with
    | none => rfl
    | some v =>
      have hm := lk_some hl
      have : (eK k, eV v) ∈ l.map (fun p => (eK p.1, eV p.2)) := List.mem_map.2 ⟨_, hm, rfl⟩
      rw [← he] at this
      obtain ⟨x, hx, e⟩ := List.mem_map.1 this
      injection e with e1 e2
      exact absurd e1 (h2 x hx)
  · have hj : (l.map (fun p => (eK p.1, eV p.2)))[j]? = some (e.key, e.val) := by
      rw [← he, List.getElem?_map, h2]; rfl
    rw [List.getElem?_map] at hj
    obtain ⟨p, hp, e1⟩ := Option.map_eq_some_iff.1 hj
    injection e1 with e1 e2
    have hpk : p.1 = k := inj _ _ (e1.trans h3)
    obtain ⟨pk, pv⟩ := p
    simp only at hpk e1 e2
    subst hpk
    refine .inr ⟨j, pv, e, mem_lk hn (List.mem_of_getElem? hp), ?_, by simpa using h2, h3, hp⟩
    rw [h1, e2]; simp

theorem IsMap.lookup (inj : ∀ a b, eK a = eK b → a = b) (hk : ∀ k, IsKey d (eK k)) (hm : P.underlying mty = some (.map kt et)) (hd : P.underlying kt = some d) (hz : (zeroValue et).run P w = .ok z w) (h : IsMap w r eK eV l) (k : K) (ok : Bool) :
    (Instr.lookup mty (.map (some r)) (eK k) ok).run P w = .ok (if ok then .tuple #[((lk l k).map eV).getD z, .bool (lk l k).isSome] else ((lk l k).map eV).getD z) w := by
  have hn := h.nodup
  obtain ⟨es, clock, hb, hs, he⟩ := h
  rcases IsMap.find (d := d) inj hk hn he k with ⟨hl, h1, _⟩ | ⟨j, v, e, hl, h1, _⟩
  · cases ok <;> simp [Instr.lookup, run_underlying hm, MapKept.run_getObj_map hb, MapKept.run_checkKey hd (hk k), MapKept.run_findKey hd h1, hz, hl, Result.andThen]
  · cases ok <;> simp [Instr.lookup, run_underlying hm, MapKept.run_getObj_map hb, MapKept.run_checkKey hd (hk k), MapKept.run_findKey hd h1, hl, Result.andThen]

theorem any_none (h : lk l k = none) : (l.any fun p => decide (p.1 = k)) = false := by
  rw [List.any_eq_false]
  intro p hp
  simpa using lk_none h p hp
theorem any_some (h : lk l k = some v) : (l.any fun p => decide (p.1 = k)) = true := by
  rw [List.any_eq_true]
  exact ⟨_, lk_some h, by simp⟩
theorem put_none (h : lk l k = none) (v : V) : put l k v = l ++ [(k, v)] := by
  unfold put; rw [any_none h]; rfl
theorem put_some {v0 : V} (h : lk l k = some v0) (v : V) : put l k v = l.map (fun p => if p.1 = k then (p.1, v) else p) := by
  unfold put; rw [any_some h]; rfl

theorem grown_set {o o' : Obj} (hb : w.heap[r]? = some o) : w.grownBy { w with heap := w.heap.setIfInBounds r o' } (some r) :=
  ⟨rfl, rfl, rfl, by simp, fun j hj hne => (MapKept.heap_set hb).2 j (fun e => hne (by rw [e]))⟩

theorem IsMap.update (inj : ∀ a b, eK a = eK b → a = b) (hk : ∀ k, IsKey d (eK k)) (hm : P.underlying mty = some (.map kt et)) (hd : P.underlying kt = some d) (h : IsMap w r eK eV l) (k : K) (v : V) :
    ∃ w', (Instr.mapUpdate mty (.map (some r)) (eK k) (eV v)).run P w = .ok () w' ∧ IsMap w' r eK eV (put l k v) ∧ w.grownBy w' (some r) ∧ w'.heap.size = w.heap.size := by
  have hn := h.nodup
  obtain ⟨es, clock, hb, hs, he⟩ := h
  rcases IsMap.find (d := d) inj hk hn he k with ⟨hl, h1, h2⟩ | ⟨j, v0, e, hl, h1, h2, h3, h4⟩
  · refine ⟨{ w with heap := w.heap.setIfInBounds r (.map (es.push { key := eK k, val := eV v, born := clock }) (clock + 1)) }, ?_, ⟨_, _, (MapKept.heap_set hb).1, stamped_push hs h2, ?_⟩, grown_set hb, by simp⟩
    · simp [Instr.mapUpdate, run_underlying hm, MapKept.run_getObj_map hb, MapKept.run_checkKey hd (hk k), MapKept.run_findKey hd h1, MapKept.run_setObj_map _ hb, Result.andThen]
    · rw [put_none hl]
      simp [he]
  · refine ⟨{ w with heap := w.heap.setIfInBounds r (.map (es.modify j fun x => { x with key := eK k, val := eV v }) clock) }, ?_, ⟨_, _, (MapKept.heap_set hb).1, ?_, ?_⟩, grown_set hb, by simp⟩
    · simp [Instr.mapUpdate, run_underlying hm, MapKept.run_getObj_map hb, MapKept.run_checkKey hd (hk k), MapKept.run_findKey hd h1, h2, h3, MapKept.run_keyThatStays (hk k), MapKept.run_setObj_map _ hb, Result.andThen]
    · exact stamped_modify hs _ _ (fun _ _ => rfl) (fun e' _ he' => by rw [h2] at he'; cases he'; exact h3.symm)
    · rw [put_some hl]
      apply List.ext_getElem?
      intro i
      have hei : (es.toList.map (fun e => (e.key, e.val)))[i]? = (l.map (fun p => (eK p.1, eV p.2)))[i]? := by rw [he]
      simp only [List.getElem?_map, Array.getElem?_toList] at hei
      simp only [List.getElem?_map, Array.getElem?_toList, Array.getElem?_modify, List.map_map]
      by_cases hij : j = i
      · subst hij
        rw [h2, h4]
        simp
      · rw [if_neg hij]
        cases hli : l[i]? with
        | none => rw [hli] at hei; simpa using hei
        | some p =>
          rw [hli] at hei
          rw [hei]
          have hne : p.1 ≠ k := by
            intro e1
            have ha : (l.map (·.1))[i]? = some k := by rw [List.getElem?_map, hli, ← e1]; rfl
            have hb' : (l.map (·.1))[j]? = some k := by rw [List.getElem?_map, h4]; rfl
            exact hij (nodup_inj hn hb' ha)
          simp [hne]

theorem IsMap.delete (inj : ∀ a b, eK a = eK b → a = b) (hk : ∀ k, IsKey d (eK k)) (hm : P.underlying mty = some (.map kt et)) (hd : P.underlying kt = some d) (h : IsMap w r eK eV l) (k : K) (ty kt' : TypeId) :
    ∃ w', (Builtin.delete_ #[mty, kt'] ty #[.map (some r), eK k]).run P w = .ok (.tuple #[]) w' ∧ IsMap w' r eK eV (del l k) ∧ w.grownBy w' (some r) ∧ w'.heap.size = w.heap.size := by
  have hn := h.nodup
  obtain ⟨es, clock, hb, hs, he⟩ := h
  rcases IsMap.find (d := d) inj hk hn he k with ⟨hl, h1, h2⟩ | ⟨j, v0, e, hl, h1, h2, h3, h4⟩
  · refine ⟨{ w with heap := w.heap.setIfInBounds r (.map es clock) }, ?_, ⟨_, _, (MapKept.heap_set hb).1, hs, ?_⟩, grown_set hb, by simp⟩
    · simp [Builtin.delete_, run_underlying hm, MapKept.run_getObj_map hb, MapKept.run_checkKey hd (hk k), MapKept.run_findKey hd h1, MapKept.run_setObj_map _ hb, Result.andThen]
    · rw [he, del, List.filter_eq_self.2]
      intro p hp
      simpa using lk_none hl p hp
  · refine ⟨{ w with heap := w.heap.setIfInBounds r (.map (es.eraseIdxIfInBounds j) clock) }, ?_, ⟨_, _, (MapKept.heap_set hb).1, stamped_erase hs _, ?_⟩, grown_set hb, by simp⟩
    · simp [Builtin.delete_, run_underlying hm, MapKept.run_getObj_map hb, MapKept.run_checkKey hd (hk k), MapKept.run_findKey hd h1, MapKept.run_setObj_map _ hb, Result.andThen]
    · have hlt : j < es.size := (Array.getElem?_eq_some_iff.1 h2).1
      have hdel : del l k = l.eraseIdx j := by
        obtain ⟨hjl, hj'⟩ := List.getElem?_eq_some_iff.1 h4
        have hsplit : l = l.take j ++ (k, v0) :: l.drop (j + 1) := by
          rw [← hj', List.getElem_cons_drop, List.take_append_drop]
        rw [hsplit, List.map_append, List.map_cons, List.nodup_append, List.nodup_cons] at hn
        have e1 : (l.take j).filter (fun p => decide (p.1 ≠ k)) = l.take j := by
          rw [List.filter_eq_self]
          intro p hp
          have := hn.2.2 p.1 (List.mem_map.2 ⟨p, hp, rfl⟩) k (.head _)
          simpa using this
        have e2 : (l.drop (j + 1)).filter (fun p => decide (p.1 ≠ k)) = l.drop (j + 1) := by
          rw [List.filter_eq_self]
          intro p hp
          have : p.1 ≠ k := fun e => hn.2.1.1 (e ▸ List.mem_map.2 ⟨p, hp, rfl⟩)
          simpa using this
        rw [List.eraseIdx_eq_take_drop_succ]
        unfold del
        conv => lhs; rw [hsplit]
        rw [List.filter_append, e1, List.filter_cons_of_neg (by simp), e2]
      rw [hdel]
      unfold Array.eraseIdxIfInBounds
      rw [dif_pos hlt, Array.toList_eraseIdx, List.eraseIdx_eq_take_drop_succ, List.eraseIdx_eq_take_drop_succ, List.map_append, List.map_append, List.map_take, List.map_drop, he, List.map_take, List.map_drop]

omit [DecidableEq K] in
theorem IsMap.len (hm : P.underlying mty = some (.map kt et)) (h : IsMap w r eK eV l) (ty : TypeId) : (Builtin.len_ #[mty] ty #[.map (some r)]).run P w = .ok (.int .i64 l.length) w := by
  obtain ⟨es, clock, hb, hs, he⟩ := h
  have : es.size = l.length := by have := congrArg List.length he; simpa using this
  simp [Builtin.len_, run_underlying hm, MapKept.run_getObj_map hb, goInt, this, Result.andThen]

omit [DecidableEq K] in
theorem IsMap.lt (h : IsMap w r eK eV l) : r < w.heap.size := by
  obtain ⟨es, clock, hb, _⟩ := h
  exact (Array.getElem?_eq_some_iff.1 hb).1
omit [DecidableEq K] in
theorem IsMap.move (h : IsMap w r eK eV l) (hb : w1.heap[r]? = w.heap[r]?) : IsMap w1 r eK eV l := by
  obtain ⟨es, clock, hb0, hs, he⟩ := h
  exact ⟨es, clock, hb.trans hb0, hs, he⟩
omit [DecidableEq K] in
theorem IsMap.made (w : World) (eK : K → Value) (eV : V → Value) : IsMap (w.alloc (.map #[] 0)) w.heap.size eK eV [] :=
  ⟨#[], 0, (MapKept.heap_alloc w _).1, stamped_empty 0, rfl⟩
end

theorem key_str (k : ByteArray) : IsKey .string (.string k) := trivial
theorem inj_str (a b : ByteArray) (h : Value.string a = Value.string b) : a = b := by injection h
theorem key_int (k : Int) : IsKey (.int .i64) (.int .i64 k) := rfl
theorem inj_int (a b : Int) (h : Value.int .i64 a = Value.int .i64 b) : a = b := by injection h

section
variable {K V : Type} [DecidableEq K] {P : Program} {w : World} {r mty kt et : Nat} {d : TypeDesc} {eK : K → Value} {eV : V → Value} {l : List (K × V)}
variable {ops : Array Oper} {rest : List Oper} {o : Oper} {a : Act} {Q : Exit → Act → World → Prop}
/-- 'm[k] = v' at the operation. -/
theorem wp_update (hg : o.guard = none) (m x y : Operand) (t : TypeId) (hop : o.op = Op.mapUpdate t m x y) (inj : ∀ a b, eK a = eK b → a = b) (hk : ∀ k, IsKey d (eK k)) (hm : P.underlying t = some (.map kt et)) (hd : P.underlying kt = some d)
    (h : IsMap w r eK eV l) (k : K) (v : V) (hmv : a.eval m = .map (some r)) (hx : a.eval x = eK k) (hy : a.eval y = eV v)
    (hK : ∀ w', IsMap w' r eK eV (put l k v) → w.grownBy w' (some r) → w'.heap.size = w.heap.size → wpList P ops Q rest (a.put o.dst undef) w') : wpList P ops Q (o :: rest) a w := by
  refine wpList_plain hg fun K' hK' => ?_
  obtain ⟨w', hrun, r1, r2, r3⟩ := h.update inj hk hm hd k v
  unfold Oper.wp
  simp [execOp, hop, hmv, hx, hy, hrun, Result.andThen]
  exact hK' _ _ (hK w' r1 r2 r3)
end
end Go.Proofs.Ytonflknnlfffhaa.MR
