/- MemoryPlays: what the law's row holds; its inner loops. -/
import Derived.Test.YtoaepnidlddmjaaDoorWt
namespace Go.Proofs.YtoaepnidlddmjaaDoor
open Go.RowKit Go.Lib KP MR RW
/-- The law's own row of facts, and the memory, apart. -/
structure St (w1 : World) (g : Nat) (F : Nat → Prop) (T : List Ft) (nx : Int) (vo : Value) (rs : List Fs) (W : World) : Prop where
  inv : Inv w1.heap.size w1 F g T nx W
  eq : rs.map (fun y : Fs => y.1) = T
  own : OwnW W w1.heap.size 43 3 vo rs.length (rs.flatMap fsc)
  nf : ∀ k, vo.ownBlock = some k → ¬ F k
  fr : ∀ y ∈ rs, FreshV w1.heap.size W y
  frn : ∀ y ∈ rs, ∀ k, (Value.slice y.2.1 y.1.2.2.length y.2.2).ownBlock = some k → ¬ F k
section
variable {w1 W W' : World} {g : Nat} {F F' : Nat → Prop} {T T' : List Ft} {nx nx' : Int} {vo : Value} {rs : List Fs}
theorem St.below (h : St w1 g F T nx vo rs W) (hb : Below W.heap.size W W') : St w1 g F T nx vo rs W' :=
  ⟨h.inv.grow hb h.inv.size, h.eq, h.own.below hb, h.nf, fun y hy => (h.fr y hy).below hb, h.frn⟩
theorem St.len (h : St w1 g F T nx vo rs W) : rs.length = T.length := by rw [← h.eq, List.length_map]
theorem St.row (h : St w1 g F T nx vo rs W) : ∃ A c, vo = .slice A rs.length c ∧ RowsAt fsc 3 (fun _ => False) W A rs ∧ (A = none → c = 0) ∧ rs.length ≤ c := by
  obtain ⟨A, c, e, hr, _, hc, hA⟩ := h.own.rows (N := fun _ => False) fsc_len (by decide) (fun _ _ h => h)
  exact ⟨A, c, e, hr, hA, hc⟩
/-- The row behind a step of the memory's. -/
theorem St.rowKeep (h : St w1 g F T nx vo rs W) (hk : Keep F W W') (hF : ∀ k, F' k → F k ∨ W.heap.size ≤ k) :
    OwnW W' w1.heap.size 43 3 vo rs.length (rs.flatMap fsc) ∧ (∀ k, vo.ownBlock = some k → ¬ F' k) ∧ (∀ y ∈ rs, FreshV w1.heap.size W' y) ∧ ∀ y ∈ rs, ∀ k, (Value.slice y.2.1 y.1.2.2.length y.2.2).ownBlock = some k → ¬ F' k :=
  ⟨h.own.keep hk h.nf, fun k hk h2 => (hF k h2).elim (h.nf k hk) (fun h3 => by have := (h.own.lt hk).2; omega), fun y hy => (h.fr y hy).keep hk (h.frn y hy), fun y hy k hk h2 => (hF k h2).elim (h.frn y hy k hk) (fun h3 => by have := ((h.fr y hy).own.lt hk).2; omega)⟩
theorem St.uniq (h : St w1 g F T nx vo rs W) {i j : Nat} (hi : i < rs.length) (hj : j < rs.length) (e : rs[i].1.2 = rs[j].1.2) : i = j := by
  have hn := h.inv.keyNodup
  rw [← h.eq, List.map_map] at hn
  rcases Nat.lt_trichotomy i j with h1 | h1 | h1
  · exact absurd e (by have := List.pairwise_iff_getElem.1 hn i j (by simpa using hi) (by simpa using hj) h1; simp only [List.getElem_map, Function.comp_def] at this; intro e; apply this; rw [e])
  · exact h1
  · exact absurd e (by have := List.pairwise_iff_getElem.1 hn j i (by simpa using hj) (by simpa using hi) h1; simp only [List.getElem_map, Function.comp_def] at this; intro e; apply this; rw [e])
theorem find_at (h : St w1 g F T nx vo rs W) {t : ByteArray} {l : List Vl} {j : Nat} (hj : j < rs.length) (e1 : rs[j].1.2.1 = t) (e2 : rs[j].1.2.2 = l) : findO T t l = some rs[j].1.1 := by
  cases hf : findO T t l with
  | none =>
    have := find_none hf rs[j].1 (by rw [← h.eq]; exact List.mem_map.2 ⟨_, List.getElem_mem hj, rfl⟩)
    exact absurd ⟨e1, e2⟩ this
  | some id =>
    unfold findO at hf
    rw [Option.map_eq_some_iff] at hf
    obtain ⟨f, hf, rfl⟩ := hf
    have h1 := List.find?_some hf
    have h2 := List.mem_of_find?_eq_some hf
    rw [← h.eq] at h2
    obtain ⟨y, hy, rfl⟩ := List.mem_map.1 h2
    obtain ⟨i, hi, rfl⟩ := List.getElem_of_mem hy
    have h3 := of_decide_eq_true h1
    have : i = j := h.uniq hi hj (Prod.ext (h3.1.trans e1.symm) (h3.2.trans e2.symm))
    subst this
    rfl
theorem find_not (h : St w1 g F T nx vo rs W) {t : ByteArray} {l : List Vl} (hno : ∀ j (hj : j < rs.length), ¬ (rs[j].1.2.1 = t ∧ rs[j].1.2.2 = l)) : findO T t l = none := by
  unfold findO
  rw [Option.map_eq_none_iff, List.find?_eq_none]
  intro f hf hd
  rw [← h.eq] at hf
  obtain ⟨y, hy, rfl⟩ := List.mem_map.1 hf
  obtain ⟨i, hi, rfl⟩ := List.getElem_of_mem hy
  exact hno i hi (of_decide_eq_true hd)
theorem gone_at (h : St w1 g F T nx vo rs W) {j : Nat} (hj : j < rs.length) : (T.filter fun t => decide (t.1 ≠ rs[j].1.1)) = (rs.eraseIdx j).map (fun y : Fs => y.1) := by
  have hn : (rs.map fun y : Fs => y.1.1).Nodup := by
    have := h.inv.rise
    rw [← h.eq, List.pairwise_map] at this
    rw [List.Nodup, List.pairwise_map]
    exact this.imp (fun h => Int.ne_of_lt h)
  rw [← h.eq, List.filter_map]
  have := filter_erase (fun y : Fs => y.1.1) rs j hj hn
  rw [← this]
  rfl
theorem Inv.rebase {B' : Nat} {B : Nat} {w0 w0' : World} (h : Inv B' w0' F g T nx W) (hb : Below B w0 w0') (hB : B ≤ B') : Inv B w0 F g T nx W := by
  obtain ⟨m, v, xs, e, hm, h0⟩ := h
  exact ⟨m, v, xs, e, ⟨hm.blk, hm.map, hm.own.mono hB, hm.Fg, hm.Fm, hm.Fv, fun k hk => ⟨Nat.le_trans hB (hm.lt k hk).1, (hm.lt k hk).2⟩, hm.vals, hm.ts, hm.ris, hm.ids, hm.nx1, hm.nx2, hm.few⟩, hb.trans (h0.mono hB)⟩
end
theorem rows_drop {α : Type} {f : α → List Value} {m : Nat} {N : Nat → Prop} {W : World} {g : Nat} {l : List α} (h : RowsAt f m N W (some ⟨g, 0, none⟩) l) (k : Nat) : RowsAt f m N W (some ⟨g, k * m, none⟩) (l.drop k) := by
  intro j hj
  have hj' : k + j < l.length := by rw [List.length_drop] at hj; omega
  obtain ⟨ad, e, hn, hc⟩ := h (k + j) hj'
  obtain rfl := Option.some.inj e
  refine ⟨_, rfl, hn, fun i v hv => ?_⟩
  rw [List.getElem_drop] at hv
  have := hc i v hv
  rw [addr_flat] at this
  have e2 : ((⟨g, k * m, none⟩ : Addr).add (j * m)).add i = ⟨g, (k + j) * m + i, none⟩ := by
    rw [Nat.add_mul]
    generalize k * m = p
    generalize j * m = q
    simp only [Addr.add]
    split <;> split <;> simp_all
  rw [e2]
  exact this
theorem rows_take {α : Type} {f : α → List Value} {m : Nat} {N : Nat → Prop} {W : World} {A : Option Addr} {l : List α} (h : RowsAt f m N W A l) (k : Nat) : RowsAt f m N W A (l.take k) := by
  intro j hj
  have hj' : j < l.length := by rw [List.length_take] at hj; omega
  obtain ⟨ad, e, hn, hc⟩ := h j hj'
  exact ⟨ad, e, hn, fun i v hv => hc i v (by rwa [List.getElem_take] at hv)⟩
theorem step_append_ownN {α : Type} {f : α → List Value} {m : Nat} {P : Program} {ops : Array Oper} {o : Oper} {a : Act} {K : Act → World → Prop} {Q : Exit → Act → World → Prop} {E : Prop} {w : World} (hm : ∀ x, (f x).length = m) (h1 : ∀ x, ∀ u ∈ f x, u.oneCell' = true) (hm0 : 0 < m) (hgd : o.guard = none) (s x : Operand) (t : TypeId)
    (ho : o.op = .call { callee := .builtin .append, args := #[s, x], argTypes := #[t, t] }) (base : Nat) (e : TypeId) (i : TypeInfo) (z : Value) (bytes : Nat) (ht : P.underlying t = some (.slice e)) (hi : P.info? e = some i) (hz : i.zero = some z)
    (hsize : i.size = m) (hby : i.bytes = bytes) (hzs : z.cells.size = m) (v : Value) (n : Nat) (l : List α) (hs : a.eval s = v) (hown : OwnW w base e m v n (l.flatMap f))
    (A : Option Addr) (c : Nat) (p : List α) (q : Nat) (hq : p.length = q) (hA : A = none → c = 0) (hI : RowsAt f m (fun _ => False) w A p) (hx : a.eval x = .slice A q c) (h63 : n + q ≤ maxLen) (hbytes : (n + q) * bytes ≤ 140737488355328) (hbase : base ≤ w.heap.size)
    (h : ∀ v' w', OwnW w' base e m v' (n + q) ((l ++ p).flatMap f) → w.grownBy w' v.ownBlock → (v'.ownBlock = v.ownBlock ∨ ∀ k, v'.ownBlock = some k → w.heap.size ≤ k) → K (a.put o.dst v') w') : if Region.wanted o (yielded ops a.tmps) = true then Oper.wp P o a w K Q else E := by
  subst hq
  exact step_append_ownW hm h1 hm0 hgd s x t ho base e i z bytes ht hi hz hsize hby hzs v n l hs hown A c p hA hI hx h63 hbytes hbase h
/-- Which fact of the row an act means. -/
def mt (x : Ax) (f : Ft) : Bool := (decide (x.1.1 = 1) && decide (f.2.1 = x.1.2.2.1) && decide (f.2.2 = x.1.2.2.2)) || (decide (x.1.1 = 2) && decide (f.1 = x.1.2.1))
/-- The place told of it, behind k of the row. -/
def AtK (x : Ax) (rs : List Fs) (k : Nat) (a : Int) : Prop := (a = -1 ∧ ∀ j (hj : j < rs.length), j < k → mt x rs[j].1 = false) ∨ ∃ j, ∃ hj : j < rs.length, j < k ∧ a = (j : Int) ∧ mt x rs[j].1 = true
theorem atK_no {x : Ax} {rs : List Fs} {k : Nat} {a : Int} (h : AtK x rs k a) (hk : k < rs.length) (hm : mt x rs[k].1 = false) : AtK x rs (k + 1) a := by
  rcases h with ⟨h1, h2⟩ | ⟨j, hj, h1, h2, h3⟩
  · refine .inl ⟨h1, fun j hj hjk => ?_⟩
    by_cases e : j = k
    · subst e; exact hm
    · exact h2 j hj (by omega)
  · exact .inr ⟨j, hj, by omega, h2, h3⟩
theorem atK_yes {x : Ax} {rs : List Fs} {k : Nat} (hk : k < rs.length) (hm : mt x rs[k].1 = true) : AtK x rs (k + 1) (k : Int) := .inr ⟨k, hk, by omega, rfl, hm⟩
end Go.Proofs.YtoaepnidlddmjaaDoor
