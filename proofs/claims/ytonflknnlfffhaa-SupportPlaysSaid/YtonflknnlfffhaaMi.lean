/- Maps as rows of pairs, ranged over: what is still to come, and what a delete of the pair at hand does. Over any program. -/
import Derived.Test.YtonflknnlfffhaaMr
import Derived.Maps.RangeWalk
namespace Go.Proofs.Ytonflknnlfffhaa.MR
open Go.MapKept Go.RowKit Go.ChangeMaps
section
variable {K V : Type} [DecidableEq K]

/-- Block r is an iterator over the map m, whose entries are l; of these todo are still to come. -/
def Iter (w : World) (r m : Nat) (eK : K → Value) (eV : V → Value) (l todo : List (K × V)) : Prop :=
  ∃ es clock since seen c0, w.heap[m]? = some (.map es clock) ∧ Stamped es clock ∧ es.toList.map (fun e => (e.key, e.val)) = l.map (fun p => (eK p.1, eV p.2)) ∧
    w.heap[r]? = some (.mapIter (some m) since seen c0) ∧ (∀ x ∈ es.toList, x.born < since) ∧ since ≤ c0 ∧ since ≤ clock ∧ (leftOf es seen).toList.map (fun e => (e.key, e.val)) = todo.map (fun p => (eK p.1, eV p.2))

variable {P : Program} {w w1 : World} {r m mty kt et : Nat} {d : TypeDesc} {eK : K → Value} {eV : V → Value} {l todo : List (K × V)} {k : K} {v : V}

omit [DecidableEq K] in
theorem Iter.isMap (h : Iter w r m eK eV l todo) : IsMap w m eK eV l := by
  obtain ⟨es, clock, _, _, _, h1, h2, h3, _⟩ := h
  exact ⟨es, clock, h1, h2, h3⟩
omit [DecidableEq K] in
theorem Iter.move (h : Iter w r m eK eV l todo) (h1 : w1.heap[m]? = w.heap[m]?) (h2 : w1.heap[r]? = w.heap[r]?) : Iter w1 r m eK eV l todo := by
  obtain ⟨es, clock, since, seen, c0, a1, a2, a3, a4, a5⟩ := h
  exact ⟨es, clock, since, seen, c0, h1.trans a1, a2, a3, h2.trans a4, a5⟩
omit [DecidableEq K] in
theorem Iter.lt (h : Iter w r m eK eV l todo) : r < w.heap.size := by
  obtain ⟨_, _, _, _, _, _, _, _, a4, _⟩ := h
  exact (Array.getElem?_eq_some_iff.1 a4).1
omit [DecidableEq K] in
theorem Iter.ne (h : Iter w r m eK eV l todo) : r ≠ m := by
  obtain ⟨_, _, _, _, _, a1, _, _, a4, _⟩ := h
  intro e
  subst e
  rw [a1] at a4; cases a4
omit [DecidableEq K] in
theorem Iter.sub (inj : ∀ a b, eK a = eK b → a = b) (h : Iter w r m eK eV l todo) : ∀ p ∈ todo, ∃ q ∈ l, q.1 = p.1 ∧ eV q.2 = eV p.2 := by
  obtain ⟨es, clock, since, seen, c0, a1, a2, a3, a4, a5, a6, a8, a7⟩ := h
  intro p hp
  have : (eK p.1, eV p.2) ∈ (leftOf es seen).toList.map (fun e => (e.key, e.val)) := by rw [a7]; exact List.mem_map.2 ⟨p, hp, rfl⟩
  obtain ⟨e, he, e2⟩ := List.mem_map.1 this
  have he' : e ∈ es.toList := by unfold leftOf at he; simp at he; exact Array.mem_toList_iff.2 he.1
  have h3 : (e.key, e.val) ∈ es.toList.map (fun e => (e.key, e.val)) := List.mem_map.2 ⟨e, he', rfl⟩
  rw [a3, e2] at h3
  obtain ⟨q, hq, e4⟩ := List.mem_map.1 h3
  injection e4 with e5 e6
  exact ⟨q, hq, inj _ _ e5, e6⟩

omit [DecidableEq K] in
theorem IsMap.iter (hm : P.underlying mty = some (.map kt et)) (h : IsMap w m eK eV l) :
    ∃ w', (Instr.range mty (.map (some m))).run P w = .ok (.pointer (some ⟨w.heap.size, 0, none⟩)) w' ∧ Iter w' w.heap.size m eK eV l l ∧ w.grownBy w' none ∧ w'.heap.size = w.heap.size + 1 := by
  obtain ⟨es, clock, hb, hs, he⟩ := h
  have hlt := (Array.getElem?_eq_some_iff.1 hb).1
  refine ⟨w.alloc (.mapIter (some m) clock #[] clock), ?_, ⟨es, clock, clock, #[], clock, ?_, hs, he, heap_alloc_new w _, hs.1, Nat.le_refl _, Nat.le_refl _, ?_⟩, ⟨rfl, rfl, rfl, by simp, fun j hj _ => heap_alloc_old w _ hj⟩, by simp⟩
  · simp [Instr.range, run_underlying hm, MapKept.run_getObj_map hb, Result.andThen]
  · exact (heap_alloc_old w _ hlt).trans hb
  · rw [← he]
    congr 2
    unfold leftOf
    exact Array.filter_eq_self.2 (fun _ _ => by simp)

/-- What is left when the entry b has come. -/
theorem left_filter (inj : ∀ a b, eK a = eK b → a = b) {b : Nat} {k : K} : ∀ (L : List MapEntry) (t : List (K × V)), L.map (fun e => (e.key, e.val)) = t.map (fun p => (eK p.1, eV p.2)) → (∀ x ∈ L, (x.born = b ↔ x.key = eK k)) →
    (L.filter fun e => decide (e.born ≠ b)).map (fun e => (e.key, e.val)) = (t.filter fun q => decide (q.1 ≠ k)).map (fun p => (eK p.1, eV p.2))
  | [], [], _, _ => rfl
  | [], _ :: _, h, _ => by simp at h
  | _ :: _, [], h, _ => by simp at h
  | x :: L, q :: t, h, hb => by
    simp only [List.map_cons, List.cons.injEq, Prod.mk.injEq] at h
    have ih := left_filter inj (b := b) (k := k) L t h.2 (fun y hy => hb y (List.mem_cons_of_mem _ hy))
    have hx := hb x List.mem_cons_self
    by_cases e : q.1 = k
    · have e2 : x.born = b := hx.2 (by rw [h.1.1, e])
      rw [List.filter_cons_of_neg (by simp [e2]), List.filter_cons_of_neg (by simp [e])]
      exact ih
    · have e2 : x.born ≠ b := fun e2 => e (inj _ _ (h.1.1.symm.trans (hx.1 e2)))
      rw [List.filter_cons_of_pos (by simp [e2]), List.filter_cons_of_pos (by simp [e]), List.map_cons, List.map_cons, ih, h.1.1, h.1.2]

theorem Iter.next (inj : ∀ a b, eK a = eK b → a = b) (h : Iter w r m eK eV l todo) (ty : TypeId) :
    (todo = [] ∧ (Instr.next (.pointer (some ⟨r, 0, none⟩)) false ty).run P w = .ok (.tuple #[.bool false]) w) ∨
    ∃ p ∈ todo, ∃ w', (Instr.next (.pointer (some ⟨r, 0, none⟩)) false ty).run P w = .ok (.tuple #[.bool true, eK p.1, eV p.2]) w' ∧ Iter w' r m eK eV l (todo.filter fun q => decide (q.1 ≠ p.1)) ∧
      (Instr.entry (.pointer (some ⟨r, 0, none⟩))).run P w' = .ok (.tuple #[eK p.1, eV p.2]) w' ∧ w.grownBy w' (some r) ∧ w'.heap.size = w.heap.size := by
  have hne := h.ne
  obtain ⟨es, clock, since, seen, c0, a1, a2, a3, a4, a5, a6, a8, a7⟩ := h
  rcases run_next_at (P := P) w ty r m since c0 seen es clock a4 a1 a5 a6 with ⟨h0, hrun⟩ | ⟨e, he, w1, hw1, hrun⟩
  · refine .inl ⟨?_, hrun⟩
    have : (leftOf es seen).toList = [] := List.eq_nil_of_length_eq_zero (by simpa using h0)
    rw [this] at a7
    simpa using a7.symm
  · have hmem : (e.key, e.val) ∈ (leftOf es seen).toList.map (fun e => (e.key, e.val)) := List.mem_map.2 ⟨e, he, rfl⟩
    rw [a7] at hmem
    obtain ⟨p, hp, ep⟩ := List.mem_map.1 hmem
    injection ep with ek ev
    have hes : e ∈ es.toList := by unfold leftOf at he; simp at he; exact Array.mem_toList_iff.2 he.1
    have hw : w1.heap = w.heap := by rcases hw1 with rfl | rfl <;> rfl
    have hrlt := (Array.getElem?_eq_some_iff.1 a4).1
    have b1 : (setBlock w1 r (.mapIter (some m) since (seen.push e.born) clock)).heap[m]? = some (.map es clock) := by
      show (w1.heap.setIfInBounds r _)[m]? = _
      rw [hw, Array.getElem?_setIfInBounds_ne hne]; exact a1
    have b4 : (setBlock w1 r (.mapIter (some m) since (seen.push e.born) clock)).heap[r]? = some (.mapIter (some m) since (seen.push e.born) clock) := by
      show (w1.heap.setIfInBounds r _)[r]? = _
      rw [hw]; simp [hrlt]
    refine .inr ⟨p, hp, setBlock w1 r (.mapIter (some m) since (seen.push e.born) clock), ?_, ⟨es, clock, since, seen.push e.born, clock, b1, a2, a3, b4, a5, a8, a8, ?_⟩, ?_, ⟨?_, ?_, ?_, ?_, ?_⟩, ?_⟩
    · rw [hrun, ← ek, ← ev]
    · have e1 : (leftOf es (seen.push e.born)).toList = (leftOf es seen).toList.filter fun x => decide (x.born ≠ e.born) := by
        unfold leftOf
        simp only [Array.toList_filter, List.filter_filter]
        apply List.filter_congr
        intro x _
        simp
        by_cases h1 : x.born = e.born <;> simp [h1]
      rw [e1]
      refine left_filter inj _ _ a7 (fun x hx => ?_)
      have hx' : x ∈ es.toList := by unfold leftOf at hx; simp at hx; exact Array.mem_toList_iff.2 hx.1
      obtain ⟨i, hi, ei⟩ := List.getElem_of_mem hx'
      obtain ⟨j, hj, ej⟩ := List.getElem_of_mem hes
      constructor
      · intro hbb
        have := nodup_inj a2.2.1 (i := i) (j := j) (x := x.born) (by rw [List.getElem?_map, List.getElem?_eq_getElem hi, ei]; rfl) (by rw [List.getElem?_map, List.getElem?_eq_getElem hj, ej, hbb]; rfl)
        subst this
        rw [← ei, ej]; exact ek.symm
      · intro hkk
        have hkk : x.key = e.key := hkk.trans ek
        have := nodup_inj a2.2.2 (i := i) (j := j) (x := x.key) (by rw [List.getElem?_map, List.getElem?_eq_getElem hi, ei]; rfl) (by rw [List.getElem?_map, List.getElem?_eq_getElem hj, ej, hkk]; rfl)
        subst this
        rw [← ei, ej]
    · rw [run_entry_at _ r m since seen es clock e b4 b1 hes a2.2.1, ek, ev]
    · rcases hw1 with rfl | rfl <;> rfl
    · rcases hw1 with rfl | rfl <;> rfl
    · rcases hw1 with rfl | rfl <;> rfl
    · show _ ≤ (w1.heap.setIfInBounds r _).size
      rw [hw]; simp
    · intro i hi hni
      show (w1.heap.setIfInBounds r _)[i]? = _
      rw [hw, Array.getElem?_setIfInBounds_ne (fun e => hni (by rw [e]))]
    · show (w1.heap.setIfInBounds r _).size = _
      rw [hw]; simp

/-- 'delete(m, k)' of a pair that is no longer to come. -/
theorem Iter.delete (inj : ∀ a b, eK a = eK b → a = b) (hk : ∀ k, IsKey d (eK k)) (hm : P.underlying mty = some (.map kt et)) (hd : P.underlying kt = some d) (h : Iter w r m eK eV l todo) (k : K) (hnt : ∀ p ∈ todo, p.1 ≠ k) (ty kt' : TypeId) :
    ∃ w', (Builtin.delete_ #[mty, kt'] ty #[.map (some m), eK k]).run P w = .ok (.tuple #[]) w' ∧ Iter w' r m eK eV (del l k) todo ∧ w.grownBy w' (some m) ∧ w'.heap.size = w.heap.size := by
  have hne := h.ne
  have hn := h.isMap.nodup
  obtain ⟨w', hrun, hI, hg, hsz⟩ := h.isMap.delete inj hk hm hd k ty kt'
  obtain ⟨es, clock, since, seen, c0, a1, a2, a3, a4, a5, a6, a8, a7⟩ := h
  refine ⟨w', hrun, ?_, hg, hsz⟩
  have hrlt := (Array.getElem?_eq_some_iff.1 a4).1
  have b4 := (hg.block r hrlt (fun e => hne (by injection e))).trans a4
  rcases IsMap.find (d := d) inj hk hn a3 k with ⟨hl, h1, h2⟩ | ⟨j, v0, e, hl, h1, h2, h3, h4⟩
  · have hrun2 : (Builtin.delete_ #[mty, kt'] ty #[.map (some m), eK k]).run P w = .ok (.tuple #[]) { w with heap := w.heap.setIfInBounds m (.map es clock) } := by
      simp [Builtin.delete_, run_underlying hm, MapKept.run_getObj_map a1, MapKept.run_checkKey hd (hk k), MapKept.run_findKey hd h1, MapKept.run_setObj_map _ a1, Result.andThen]
    rw [hrun] at hrun2
    injection hrun2 with _ hw
    obtain ⟨es', clock', c1, c2, c3⟩ := hI
    have c1' : w'.heap[m]? = some (.map es clock) := by rw [hw]; exact (MapKept.heap_set a1).1
    rw [c1] at c1'
    injection c1' with c1'
    injection c1' with e1 e2
    subst e1; subst e2
    exact ⟨es', clock', since, seen, c0, c1, c2, c3, b4, a5, a6, a8, a7⟩
  · have hrun2 : (Builtin.delete_ #[mty, kt'] ty #[.map (some m), eK k]).run P w = .ok (.tuple #[]) { w with heap := w.heap.setIfInBounds m (.map (es.eraseIdxIfInBounds j) clock) } := by
      simp [Builtin.delete_, run_underlying hm, MapKept.run_getObj_map a1, MapKept.run_checkKey hd (hk k), MapKept.run_findKey hd h1, MapKept.run_setObj_map _ a1, Result.andThen]
    rw [hrun] at hrun2
    injection hrun2 with _ hw
    obtain ⟨es', clock', c1, c2, c3⟩ := hI
    have c1' : w'.heap[m]? = some (.map (es.eraseIdxIfInBounds j) clock) := by rw [hw]; exact (MapKept.heap_set a1).1
    rw [c1] at c1'
    injection c1' with c1'
    injection c1' with e1 e2
    subst e2
    have hlt : j < es.size := (Array.getElem?_eq_some_iff.1 h2).1
    have hej : es.toList[j]? = some e := by rw [Array.getElem?_toList]; exact h2
    have hlt' : j < es.toList.length := by simpa using hlt
    have hes' : es'.toList = es.toList.take j ++ es.toList.drop (j + 1) := by
      rw [e1]
      unfold Array.eraseIdxIfInBounds
      rw [dif_pos hlt, Array.toList_eraseIdx, List.eraseIdx_eq_take_drop_succ]
    have hsplit : es.toList = es.toList.take j ++ e :: es.toList.drop (j + 1) := by
      rw [List.getElem?_eq_getElem hlt'] at hej
      injection hej with hej
      rw [← hej, List.getElem_cons_drop, List.take_append_drop]
    refine ⟨es', clock', since, seen, c0, c1, c2, c3, b4, ?_, a6, a8, ?_⟩
    · intro x hx
      rw [hes'] at hx
      refine a5 x ?_
      rw [hsplit]
      rcases List.mem_append.1 hx with h | h
      · exact List.mem_append_left _ h
      · exact List.mem_append_right _ (List.mem_cons_of_mem _ h)
    · have hseen : (!seen.contains e.born) = false := by
        cases hb : (!seen.contains e.born) with
        | false => rfl
        | true =>
          exfalso
          have hmem : (e.key, e.val) ∈ (leftOf es seen).toList.map (fun e => (e.key, e.val)) := List.mem_map.2 ⟨e, by unfold leftOf; rw [Array.toList_filter]; exact List.mem_filter.2 ⟨List.mem_of_getElem? hej, hb⟩, rfl⟩
          rw [a7] at hmem
          obtain ⟨p, hp, ep⟩ := List.mem_map.1 hmem
          injection ep with ek _
          exact hnt p hp (inj _ _ (ek.trans h3))
      have e3 : (leftOf es' seen).toList = (leftOf es seen).toList := by
        unfold leftOf
        rw [Array.toList_filter, Array.toList_filter, hes']
        conv => rhs; rw [hsplit]
        rw [List.filter_append, List.filter_append, List.filter_cons_of_neg (by show ¬ (!seen.contains e.born) = true; rw [hseen]; exact Bool.false_ne_true)]
      rw [e3]; exact a7

variable {ops : Array Oper} {rest : List Oper} {o : Oper} {a : Act} {Q : Exit → Act → World → Prop}
omit [DecidableEq K] in
theorem wp_range (hg : o.guard = none) (x : Operand) (t : TypeId) (hop : o.op = Op.range t x) (hm : P.underlying t = some (.map kt et)) (h : IsMap w m eK eV l) (hx : a.eval x = .map (some m))
    (hK : ∀ w', Iter w' w.heap.size m eK eV l l → w.grownBy w' none → w'.heap.size = w.heap.size + 1 → wpList P ops Q rest (a.put o.dst (.pointer (some ⟨w.heap.size, 0, none⟩))) w') : wpList P ops Q (o :: rest) a w := by
  refine wpList_plain hg fun K' hK' => ?_
  obtain ⟨w', hrun, r1, r2, r3⟩ := h.iter hm
  unfold Oper.wp
  simp [execOp, hop, hx, hrun, Result.andThen]
  exact hK' _ _ (hK w' r1 r2 r3)
theorem wp_next (hg : o.guard = none) (it : Operand) (hop : o.op = Op.next it false) (inj : ∀ a b, eK a = eK b → a = b) (h : Iter w r m eK eV l todo) (hit : a.eval it = .pointer (some ⟨r, 0, none⟩))
    (hDone : todo = [] → wpList P ops Q rest (a.put o.dst (.tuple #[.bool false])) w)
    (hMore : ∀ p w', p ∈ todo → Iter w' r m eK eV l (todo.filter fun q => decide (q.1 ≠ p.1)) → w.grownBy w' (some r) → w'.heap.size = w.heap.size →
      (Instr.entry (.pointer (some ⟨r, 0, none⟩))).run P w' = .ok (.tuple #[eK p.1, eV p.2]) w' → wpList P ops Q rest (a.put o.dst (.tuple #[.bool true, eK p.1, eV p.2])) w') : wpList P ops Q (o :: rest) a w := by
  refine wpList_plain hg fun K' hK' => ?_
  unfold Oper.wp
  rcases h.next (P := P) inj o.type with ⟨h0, hrun⟩ | ⟨p, hp, w', hrun, h1, h2, h3, h4⟩
  · simp [execOp, hop, hit, hrun, Result.andThen]
    exact hK' _ _ (hDone h0)
  · simp [execOp, hop, hit, hrun, Result.andThen]
    exact hK' _ _ (hMore p w' hp h1 h3 h4 h2)
theorem wp_delete_it (hg : o.guard = none) (x y : Operand) (t kt' : TypeId) (hop : o.op = Op.call { callee := Callee.builtin Builtin.delete, args := #[x, y], argTypes := #[t, kt'] }) (inj : ∀ a b, eK a = eK b → a = b) (hk : ∀ k, IsKey d (eK k))
    (hm : P.underlying t = some (.map kt et)) (hd : P.underlying kt = some d) (h : Iter w r m eK eV l todo) (k : K) (hnt : ∀ p ∈ todo, p.1 ≠ k) (hx : a.eval x = .map (some m)) (hy : a.eval y = eK k)
    (hK : ∀ w', Iter w' r m eK eV (del l k) todo → w.grownBy w' (some m) → w'.heap.size = w.heap.size → wpList P ops Q rest (a.put o.dst (.tuple #[])) w') : wpList P ops Q (o :: rest) a w := by
  refine wpList_plain hg fun K' hK' => ?_
  obtain ⟨w', hrun, r1, r2, r3⟩ := h.delete inj hk hm hd k hnt o.type kt'
  unfold Oper.wp
  simp [execOp, hop, resolve, invoke, builtin, hx, hy, hrun, Result.andThen]
  exact hK' _ _ (hK w' r1 r2 r3)
end

section
variable {K V : Type} [DecidableEq K] {eK : K → Value} {eV : V → Value} {w : World} {r m : Nat} {l todo L0 : List (K × V)} {st : K × V → Bool} {p : K × V}
/-- How many are still to come. -/
def leftN (w : World) (r m : Nat) : Nat :=
  match w.heap[m]?, w.heap[r]? with
  | some (.map es _), some (.mapIter _ _ seen _) => (leftOf es seen).size
  | _, _ => 0
omit [DecidableEq K] in
theorem Iter.left (h : Iter w r m eK eV l todo) : leftN w r m = todo.length := by
  obtain ⟨es, clock, since, seen, c0, a1, a2, a3, a4, a5, a6, a8, a7⟩ := h
  unfold leftN
  rw [a1, a4]
  have := congrArg List.length a7
  simpa using this
theorem todo_less (hp : p ∈ todo) : (todo.filter fun q => decide (q.1 ≠ p.1)).length < todo.length :=
  List.length_filter_lt_length_iff_exists.2 ⟨p, hp, by simp⟩
/-- What stays of a map from which all that is not to stay is struck, as long as todo is still to come. -/
def rest (L0 : List (K × V)) (st : K × V → Bool) (todo : List (K × V)) : List (K × V) := L0.filter fun p => st p || todo.any fun q => decide (q.1 = p.1)
theorem rest_start : rest L0 st L0 = L0 := by
  unfold rest
  rw [List.filter_eq_self]
  intro p hp
  rw [Bool.or_eq_true, List.any_eq_true]
  exact .inr ⟨p, hp, by simp⟩
theorem rest_end : rest L0 st [] = L0.filter st := by simp [rest]
theorem same_pair (hn : (L0.map (·.1)).Nodup) {q : K × V} (hp : p ∈ L0) (hq : q ∈ L0) (h : q.1 = p.1) : q = p := by
  have h1 := mem_lk hn (k := p.1) (v := p.2) hp
  have h2 := mem_lk hn (k := q.1) (v := q.2) hq
  rw [h, h1] at h2
  injection h2 with h2
  exact Prod.ext h h2.symm
theorem any_filter {q : K × V} (h : q.1 ≠ p.1) : ((todo.filter fun x => decide (x.1 ≠ p.1)).any fun x => decide (x.1 = q.1)) = todo.any fun x => decide (x.1 = q.1) := by
  rw [Bool.eq_iff_iff, List.any_eq_true, List.any_eq_true]
  constructor
  · rintro ⟨x, hx, e⟩
    exact ⟨x, (List.mem_filter.1 hx).1, e⟩
  · rintro ⟨x, hx, e⟩
    exact ⟨x, List.mem_filter.2 ⟨hx, by simpa using fun e2 => h ((of_decide_eq_true e).symm.trans e2)⟩, e⟩
theorem any_gone : ((todo.filter fun x => decide (x.1 ≠ p.1)).any fun x => decide (x.1 = p.1)) = false := by
  rw [List.any_eq_false]
  intro x hx
  have := (List.mem_filter.1 hx).2
  simpa using this
theorem rest_stays (hn : (L0.map (·.1)).Nodup) (hp : p ∈ L0) (hs : st p = true) : rest L0 st (todo.filter fun q => decide (q.1 ≠ p.1)) = rest L0 st todo := by
  unfold rest
  apply List.filter_congr
  intro q hq
  by_cases h : q.1 = p.1
  · rw [same_pair hn hp hq h, hs]; rfl
  · rw [any_filter h]
theorem rest_goes (hn : (L0.map (·.1)).Nodup) (hp : p ∈ L0) (hs : st p = false) : rest L0 st (todo.filter fun q => decide (q.1 ≠ p.1)) = del (rest L0 st todo) p.1 := by
  unfold rest del
  rw [List.filter_filter]
  apply List.filter_congr
  intro q hq
  by_cases h : q.1 = p.1
  · rw [same_pair hn hp hq h, hs, any_gone]; simp
  · rw [any_filter h]; simp [h]
end
end Go.Proofs.Ytonflknnlfffhaa.MR
