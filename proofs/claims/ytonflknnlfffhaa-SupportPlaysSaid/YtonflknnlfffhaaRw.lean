/- Rows of things of several cells in memory. Over any program. -/
import Derived.Test.YtonflknnlfffhaaKp
import Derived.Laws.OwnMore
import Derived.Laws.AppendOwnNone
import Derived.Deep.Onto
import Derived.WalkKit
namespace Go.Proofs.Ytonflknnlfffhaa.RW
open Go.RowKit KP
section
variable {α : Type} {f : α → List Value} {m : Nat}
theorem flat_len (hm : ∀ x, (f x).length = m) (l : List α) : (l.flatMap f).length = l.length * m := by
  induction l with
  | nil => simp
  | cons x l ih => rw [List.flatMap_cons, List.length_append, ih, hm, List.length_cons, Nat.succ_mul]; omega
theorem flat_at (hm : ∀ x, (f x).length = m) : ∀ (l : List α) (k : Nat) (h : k < l.length) (j : Nat) (_ : j < m), (l.flatMap f)[k * m + j]? = (f l[k])[j]?
  | [], k, h, _, _ => by simp at h
  | x :: l, 0, _, j, hj => by
    rw [List.flatMap_cons, Nat.zero_mul, Nat.zero_add, List.getElem?_append_left (by rw [hm]; exact hj)]
    rfl
  | x :: l, k + 1, h, j, hj => by
    rw [List.flatMap_cons, List.getElem?_append_right (by rw [hm, Nat.succ_mul]; omega), hm, show (k + 1) * m + j - m = k * m + j by rw [Nat.succ_mul]; omega]
    exact flat_at hm l k (by simpa using h) j hj
theorem flat_flat (h1 : ∀ x, ∀ u ∈ f x, u.oneCell' = true) (l : List α) : ∀ u ∈ l.flatMap f, u.oneCell' = true := by
  intro u hu
  obtain ⟨b, _, h⟩ := List.mem_flatMap.1 hu
  exact h1 b u h
theorem flat_take (hm : ∀ x, (f x).length = m) (l : List α) (k : Nat) : (l.take k).flatMap f = (l.flatMap f).take (k * m) := by
  induction l generalizing k with
  | nil => simp
  | cons x l ih =>
    cases k with
    | zero => simp
    | succ k =>
      rw [List.take_succ_cons, List.flatMap_cons, List.flatMap_cons, ih, Nat.succ_mul]
      have e : k * m + m = (f x).length + k * m := by rw [hm]; omega
      rw [e, List.take_length_add_append]
theorem flat_drop (hm : ∀ x, (f x).length = m) (l : List α) (k : Nat) : (l.drop k).flatMap f = (l.flatMap f).drop (k * m) := by
  induction l generalizing k with
  | nil => simp
  | cons x l ih =>
    cases k with
    | zero => simp
    | succ k =>
      rw [List.drop_succ_cons, List.flatMap_cons, ih, Nat.succ_mul]
      have e : k * m + m = (f x).length + k * m := by rw [hm]; omega
      rw [e, List.drop_length_add_append]
theorem add_block (a : Addr) (k : Nat) : (a.add k).block = a.block := by unfold Addr.add; split <;> rfl
theorem addr_flat (g k j m : Nat) : ((⟨g, 0, none⟩ : Addr).add (k * m)).add j = ⟨g, k * m + j, none⟩ := by
  simp [Addr.add]
  split <;> split <;> simp_all
/-- A row in memory, its cells in none of the blocks N. -/
def RowsAt (f : α → List Value) (m : Nat) (N : Nat → Prop) (W : World) (A : Option Addr) (l : List α) : Prop := ∀ k (h : k < l.length), ∃ ad, A = some ad ∧ ¬ N ad.block ∧ ∀ j v, (f l[k])[j]? = some v → W.cell? ((ad.add (k * m)).add j) = some v
section
variable {N F : Nat → Prop} {W W' : World} {A : Option Addr} {l : List α}
theorem RowsAt.keep (h : RowsAt f m N W A l) (hk : Keep F W W') (hF : ∀ k, F k → N k) : RowsAt f m N W' A l := by
  intro k hlt
  obtain ⟨ad, e, hn, hc⟩ := h k hlt
  exact ⟨ad, e, hn, fun j v hv => hk.cell (hc j v hv) (fun hf => hn (by rw [add_block, add_block] at hf; exact hF _ hf))⟩
theorem RowsAt.below (h : RowsAt f m N W A l) (hb : Below W.heap.size W W') : RowsAt f m N W' A l := h.keep (Keep.of_below hb (fun _ => False)) (fun _ h => h.elim)
theorem RowsAt.mono {M : Nat → Prop} (h : RowsAt f m N W A l) (hM : ∀ k, M k → N k) : RowsAt f m M W A l := by
  intro k hlt
  obtain ⟨ad, e, hn, hc⟩ := h k hlt
  exact ⟨ad, e, fun hm => hn (hM _ hm), hc⟩
theorem RowsAt.nil (N : Nat → Prop) (W : World) (A : Option Addr) : RowsAt f m N W A [] := fun k h => by simp at h
theorem RowsAt.isNil (h : RowsAt f m N W none l) : l = [] := by
  cases l with
  | nil => rfl
  | cons b l => obtain ⟨ad, e, _⟩ := h 0 (by simp); cases e
theorem RowsAt.lt (hm : ∀ x, (f x).length = m) (hm0 : 0 < m) (h : RowsAt f m N W A l) {k : Nat} (hk : k < l.length) {ad : Addr} (e : A = some ad) : ad.block < W.heap.size := by
  obtain ⟨ad', e', _, hc⟩ := h k hk
  rw [e] at e'
  injection e' with e'
  subst e'
  have hj : 0 < (f l[k]).length := by rw [hm]; exact hm0
  have := World.block_lt_of_cell? _ _ (hc 0 _ (List.getElem?_eq_getElem hj))
  rwa [add_block, add_block] at this
/-- .. and in none of the blocks to come. -/
theorem RowsAt.old (hm : ∀ x, (f x).length = m) (hm0 : 0 < m) (h : RowsAt f m N W A l) : RowsAt f m (fun k => N k ∨ W.heap.size ≤ k) W A l := by
  intro k hk
  have hl := fun ad e => h.lt hm hm0 hk (ad := ad) e
  obtain ⟨ad, e, hn, hc⟩ := h k hk
  exact ⟨ad, e, fun h => h.elim hn (fun h => by have := hl ad e; omega), hc⟩
theorem RowsAt.cell (h : RowsAt f m N W A l) {k : Nat} (hk : k < l.length) : ∃ ad, A = some ad ∧ ¬ N ad.block ∧ (∀ v, (f l[k])[0]? = some v → W.cell? (ad.add (k * m)) = some v) ∧ ∀ j v, (f l[k])[j]? = some v → W.cell? ⟨(ad.add (k * m)).block, (ad.add (k * m)).off + j, none⟩ = some v ∨ j = 0 := by
  obtain ⟨ad, e, hn, hc⟩ := h k hk
  refine ⟨ad, e, hn, fun v hv => ?_, fun j v hv => ?_⟩
  · have := hc 0 v hv
    simpa [Addr.add] using this
  · cases j with
    | zero => exact .inr rfl
    | succ j => exact .inl (hc (j + 1) v hv)
theorem rows_own {g n : Nat} {cur : Array Value} {T : TypeId} {fr : Nat × Nat} (hm : ∀ x, (f x).length = m) (hg : W.heap[g]? = some (.cells cur T fr)) (hc : cur.toList.take (n * m) = l.flatMap f) (hN : ¬ N g) : RowsAt f m N W (some ⟨g, 0, none⟩) l := by
  intro k hk
  refine ⟨_, rfl, hN, fun j v hv => ?_⟩
  have hj : j < m := by
    rcases Nat.lt_or_ge j m with h | h
    · exact h
    · rw [List.getElem?_eq_none (by rw [hm]; exact h)] at hv; cases hv
  rw [addr_flat]
  refine block_cell hg ?_
  have h1 := flat_at hm l k hk j hj
  rw [← hc, List.getElem?_take] at h1
  split at h1
  · have h2 : cur[k * m + j]? = (f l[k])[j]? := by simpa using h1
    rw [h2]; exact hv
  · rw [hv] at h1; cases h1
theorem rows_news (hm : ∀ x, (f x).length = m) {ad : Addr} (h : RowsAt f m N W (some ad) l) : ∀ j u, (l.flatMap f)[j]? = some u → W.cell? (ad.add j) = some u := by
  intro j u hu
  have hlen := flat_len hm l
  have hj : j < l.length * m := by have := (List.getElem?_eq_some_iff.1 hu).1; omega
  have hm0 : 0 < m := by
    rcases Nat.eq_zero_or_pos m with h0 | h0
    · subst h0; omega
    · exact h0
  have hk : j / m < l.length := Nat.div_lt_of_lt_mul (by rw [Nat.mul_comm]; exact hj)
  obtain ⟨ad', e, _, hc⟩ := h (j / m) hk
  obtain rfl := Option.some.inj e
  have hjm : j / m * m + j % m = j := by rw [Nat.mul_comm]; exact Nat.div_add_mod j m
  have h1 := flat_at hm l (j / m) hk (j % m) (Nat.mod_lt _ hm0)
  rw [hjm, hu] at h1
  have h2 := hc (j % m) u h1.symm
  have e2 : (ad.add (j / m * m)).add (j % m) = ad.add j := by
    generalize j / m * m = p at *
    generalize j % m = q at *
    subst hjm
    unfold Addr.add
    split <;> split <;> (try split) <;> simp_all <;> omega
  rwa [e2] at h2
/-- A row of the call's own as a row. -/
theorem owns_rows (hm : ∀ x, (f x).length = m) (hm0 : 0 < m) {B n : Nat} {v : Value} {T : TypeId} (h : W.ownsRow B T m v n (l.flatMap f)) (hN : ∀ k, v.ownBlock = some k → ¬ N k) : ∃ A c, v = .slice A l.length c ∧ RowsAt f m N W A l ∧ l.length = n ∧ l.length ≤ c ∧ (A = none → c = 0) ∧ (∀ ad, A = some ad → ∃ g, ad = ⟨g, 0, none⟩) := by
  have hn : l.length = n := by have := h.1; rw [flat_len hm] at this; exact Nat.eq_of_mul_eq_mul_right hm0 this
  rcases h.2 with ⟨e1, e2⟩ | ⟨g1, cap, cur, e1, hB, hg1, hc1, hc2, hc3, hc4⟩
  · have : l = [] := List.eq_nil_of_length_eq_zero (by omega)
    subst this
    exact ⟨none, 0, e1, RowsAt.nil _ _ _, hn, Nat.le_refl _, fun _ => rfl, (fun _ h => by cases h)⟩
  · exact ⟨_, cap, by rw [hn]; exact e1, rows_own hm hg1 hc4 (hN _ (by rw [e1]; rfl)), hn, by omega, (fun h => by cases h), (fun ad h => by injection h with h; subst h; exact ⟨_, rfl⟩)⟩
/-- One new thing in a block of its own. -/
theorem new_one (W : World) (x : α) (T : TypeId) (hN : ¬ N W.heap.size) : RowsAt f m N (W.alloc (.cells (f x).toArray T)) (some ⟨W.heap.size, 0, none⟩) [x] := by
  intro k hk
  obtain rfl : k = 0 := by simpa using hk
  refine ⟨_, rfl, hN, fun j v hv => ?_⟩
  have e : (((⟨W.heap.size, 0, none⟩ : Addr).add (0 * m)).add j) = ⟨W.heap.size, j, none⟩ := by
    have := addr_flat W.heap.size 0 j m
    simpa using this
  rw [e]
  exact block_cell (heap_alloc_new W _) (by simpa using hv)
/-- 'append(buf, xs...)', buf a row of the call's own, xs any row, nil too. -/
theorem wpList_append_rows {P : Program} {ops : Array Oper} {rest : List Oper} {o : Oper} {a : Act} {Q : Exit → Act → World → Prop} {w : World} (hm : ∀ x, (f x).length = m) (h1 : ∀ x, ∀ u ∈ f x, u.oneCell' = true) (hm0 : 0 < m) (hgd : o.guard = none) (s x : Operand) (t : TypeId)
    (ho : o.op = .call { callee := .builtin .append, args := #[s, x], argTypes := #[t, t] }) (base : Nat) (e : TypeId) (i : TypeInfo) (z : Value) (bytes : Nat) (ht : P.underlying t = some (.slice e)) (hi : P.info? e = some i) (hz : i.zero = some z)
    (hsize : i.size = m) (hby : i.bytes = bytes) (hzs : z.cells.size = m) (v : Value) (n : Nat) (l : List α) (hs : a.eval s = v) (hown : w.ownsRow base e m v n (l.flatMap f))
    (A : Option Addr) (c : Nat) (p : List α) (hA : A = none → c = 0) (hI : RowsAt f m (fun _ => False) w A p) (hx : a.eval x = .slice A p.length c) (h63 : n + p.length ≤ maxLen) (hbytes : (n + p.length) * bytes ≤ 140737488355328) (hbase : base ≤ w.heap.size)
    (h : ∀ v' w', w'.ownsRow base e m v' (n + p.length) ((l ++ p).flatMap f) → w.grownBy w' v.ownBlock → wpList P ops Q rest (a.put o.dst v') w') : wpList P ops Q (o :: rest) a w := by
  cases A with
  | none =>
    have hp0 := hI.isNil
    subst hp0
    obtain rfl : c = 0 := hA rfl
    refine wpList_append_own_none hgd s x t ho base e i m ht hi v n _ hs hown hx (h v w (by simpa using hown) ⟨rfl, rfl, rfl, Nat.le_refl _, fun _ _ _ => rfl⟩)
  | some ad =>
    refine wpList_append_own w hgd s x t ho base e i z m bytes ht hi hz hsize hby hzs hm0 v n _ hs hown ad p.length c (p.flatMap f) hx (flat_len hm p) (rows_news hm hI) (flat_flat h1 p) h63 hbytes hbase ?_
    intro v' w' h2 h3 _
    exact h v' w' (by rw [List.flatMap_append]; exact h2) h3
end
end
end Go.Proofs.Ytonflknnlfffhaa.RW
