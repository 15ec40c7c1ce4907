/- What SymbolPlays keeps from round to round: the table, and a row of the same names. -/
import Derived.Test.YtlbmahlgbfakeaaRRFa
import Derived.Maps.AppendAt
namespace Go.Proofs.YtlbmahlgbfakeaaRR
open Go.RowKit MR KP

/-- The table g holds T; the slice v is a row of its own that holds R. -/
def Inv (w0 : World) (g : Nat) (T R : List ByteArray) (v : Value) (wr : World) : Prop :=
  ∃ F, IsTable wr F w0.heap.size g T ∧ (∀ k, F k → w0.heap.size ≤ k ∧ k < wr.heap.size) ∧ wr.ownsRow w0.heap.size 9 1 v R.length (R.map Value.string) ∧ (∀ k, v.ownBlock = some k → ¬ F k) ∧ Below w0.heap.size w0 wr

section
variable {w0 wr w1 : World} {g : Nat} {T R : List ByteArray} {v : Value}
theorem Inv.tab (h : Inv w0 g T R v wr) : Tab wr w0.heap.size g T := by
  obtain ⟨F, h1, h2, _⟩ := h
  exact ⟨F, h1, h2⟩
theorem Inv.below (h : Inv w0 g T R v wr) : Below w0.heap.size w0 wr := by
  obtain ⟨F, _, _, _, _, h5⟩ := h
  exact h5
theorem Inv.slice (h : Inv w0 g T R v wr) : ∃ A c, v = .slice A R.length c := by
  obtain ⟨F, _, _, h3, _⟩ := h
  exact table_slice h3
theorem Inv.cell (h : Inv w0 g T R v wr) : ∃ A c, v = .slice A R.length c ∧ ∀ j (hj : j < R.length), ∃ b, A = some ⟨b, 0, none⟩ ∧ wr.cell? ⟨b, j, none⟩ = some (.string R[j]) := by
  obtain ⟨F, _, _, h3, _⟩ := h
  rcases h3.2 with ⟨e1, e2⟩ | ⟨g1, cap, cur, e1, _, hg1, hc1, hc2, hc3, hc4⟩
  · exact ⟨none, 0, by rw [e2]; exact e1, fun j hj => by omega⟩
  · refine ⟨some ⟨g1, 0, none⟩, cap, e1, fun j hj => ⟨g1, rfl, block_cell hg1 ?_⟩⟩
    have : (cur.toList.take (R.length * 1))[j]? = (R.map Value.string)[j]? := by rw [hc4]
    rw [List.getElem?_take, if_pos (by omega), List.getElem?_map, List.getElem?_eq_getElem hj] at this
    simpa using this
theorem IsTable.move {F : Nat → Prop} {B : Nat} (h : IsTable wr F B g T) (hb : ∀ k, F k → k < wr.heap.size → w1.heap[k]? = wr.heap[k]?) : IsTable w1 F B g T := by
  obtain ⟨m, u, a1, a2, a3, a4, a5, a6⟩ := h.ex
  refine ⟨m, u, a1, a2, a3, (hb g a1 (Array.getElem?_eq_some_iff.1 a4).1).trans a4, a5.move (hb m a2 a5.lt), a6.1, ?_⟩
  rcases a6.2 with h2 | ⟨g1, cap, cur, rfl, hg, hh, r⟩
  · exact .inl h2
  · exact .inr ⟨g1, cap, cur, rfl, hg, (hb g1 (a3 g1 rfl) (Array.getElem?_eq_some_iff.1 hh).1).trans hh, r⟩
theorem Inv.alloc (h : Inv w0 g T R v wr) (o : Obj) : Inv w0 g T R v (wr.alloc o) := by
  obtain ⟨F, h1, h2, h3, h4, h5⟩ := h
  exact ⟨F, h1.move (fun k _ hk => Below.heap_alloc wr o k hk), fun k hk => ⟨(h2 k hk).1, by have := (h2 k hk).2; simp; omega⟩, h3.alloc o, h4, h5.alloc h5.size o⟩
theorem Inv.drewN (h : Inv w0 g T R v wr) (q : Nat) : Inv w0 g T R v (wr.drewN q) := by
  obtain ⟨F, h1, h2, h3, h4, h5⟩ := h
  exact ⟨F, h1.move (fun _ _ _ => rfl), h2, h3, h4, ⟨h5.os, h5.tape, h5.output, h5.size, h5.block⟩⟩
theorem Inv.drew (h : Inv w0 g T R v wr) : Inv w0 g T R v wr.drew := h.drewN 1
/-- The row has grown. -/
theorem Inv.grown {s : ByteArray} {v' : Value} {W : World} (h : Inv w0 g T R v W) (ho : w1.ownsRow w0.heap.size 9 1 v' (R.length + 1) (R.map Value.string ++ [.string s])) (hg : W.grownBy w1 v.ownBlock) (hl : v'.ownBlock = v.ownBlock ∨ v'.ownBlock = some W.heap.size) : Inv w0 g T (R ++ [s]) v' w1 := by
  obtain ⟨F, h1, h2, h3, h4, h5⟩ := h
  refine ⟨F, h1.move (fun k hk hlt => hg.block k hlt (fun e => h4 k e.symm hk)), fun k hk => ⟨(h2 k hk).1, Nat.lt_of_lt_of_le (h2 k hk).2 hg.size⟩, by simpa using ho, ?_, h5.grown hg h5.size (fun k hk => (h3.lt k hk).1)⟩
  intro k hk hF
  rcases hl with hl | hl
  · exact h4 k (hl ▸ hk) hF
  · rw [hl] at hk
    injection hk with hk
    have := (h2 k hF).2
    omega
end

theorem inv_intern (w0 : World) (g : Nat) (T R : List ByteArray) (v : Value) (s : ByteArray) (w : World) (h : Inv w0 g T R v w) :
    Calls Try.prog 8 #[.pointer (some ⟨g, 0, none⟩), .string s] w fun e w' => e = .returned (.tuple #[.int .i64 (inNum T s), .int .i64 (inErr T s)]) ∧ Inv w0 g (inTab T s) R v w' := by
  obtain ⟨F, h1, h2, h3, h4, h5⟩ := h
  refine (intern_any F w0.heap.size g T s w h1 (fun k hk => (h2 k hk).2) h5.size).mono ?_
  rintro e w' ⟨rfl, F', a1, a2, a3, a4⟩
  refine ⟨rfl, F', a1, fun k hk => ⟨?_, a2 k hk⟩, ownsRow_keep h3 a4 h4, ?_, h5.trans (a4.below h5.size (fun k hk => (h2 k hk).1))⟩
  · rcases a3 k hk with h6 | h6
    · exact (h2 k h6).1
    · have := h5.size; omega
  · intro k hk hF
    rcases a3 k hF with h6 | h6
    · exact h4 k hk h6
    · have := (h3.lt k hk).2; omega
theorem inv_new (w : World) : Calls Try.prog 7 #[] w fun e w' => ∃ g, e = .returned (.pointer (some ⟨g, 0, none⟩)) ∧ Inv w g [] [] (.slice none 0 0) w' := by
  refine (tab_new w).mono ?_
  rintro e w' ⟨g, rfl, ⟨F, h1, h2⟩, h3⟩
  exact ⟨g, rfl, F, h1, h2, World.ownsRow_nil _ _ _ _, by simp [Value.ownBlock], h3⟩

/-! ### the plain side -/
/-- The names after some. -/
def tabOf (l : List ByteArray) : List ByteArray := l.foldl inTab []
theorem tabOf_snoc (l : List ByteArray) (s : ByteArray) : tabOf (l ++ [s]) = inTab (tabOf l) s := by simp [tabOf]
theorem inTab_len (l : List ByteArray) (s : ByteArray) : (inTab l s).length ≤ l.length + 1 := by
  unfold inTab
  repeat' split
  all_goals simp
theorem tabOf_len (l : List ByteArray) : (tabOf l).length ≤ l.length := by
  have : ∀ (l acc : List ByteArray), (l.foldl inTab acc).length ≤ acc.length + l.length := by
    intro l
    induction l with
    | nil => intro acc; simp
    | cons x l ih => intro acc; have h1 := ih (inTab acc x); have h2 := inTab_len acc x; simp at h1 ⊢; omega
  simpa [tabOf] using this l []
/-- The last place at which a name stands, from one on; nought: none. -/
def atOf (l : List ByteArray) (s : ByteArray) : Nat → Nat
  | 0 => 0
  | j + 1 => if l[j]? = some s then j + 1 else atOf l s j
theorem atOf_le (l : List ByteArray) (s : ByteArray) : ∀ j, atOf l s j ≤ j
  | 0 => Nat.le_refl _
  | j + 1 => by
    unfold atOf
    split
    · exact Nat.le_refl _
    · have := atOf_le l s j; omega
theorem atOf_none {l : List ByteArray} {s : ByteArray} (h : s ∉ l) : ∀ j, atOf l s j = 0
  | 0 => rfl
  | j + 1 => by
    unfold atOf
    rw [if_neg (fun e => h (List.mem_of_getElem? e)), atOf_none h j]
theorem atOf_some {l : List ByteArray} {s : ByteArray} (hn : l.Nodup) {i : Nat} (hi : l[i]? = some s) : ∀ j, i < j → atOf l s j = i + 1
  | 0, h => by omega
  | j + 1, h => by
    unfold atOf
    by_cases e : l[j]? = some s
    · rw [if_pos e, nodup_inj hn hi e]
    · rw [if_neg e]
      have : i ≠ j := fun e2 => e (e2 ▸ hi)
      exact atOf_some hn hi j (by omega)
theorem lkf_get {s : ByteArray} : ∀ (l : List ByteArray) (k : Nat), l.Nodup → ∀ i, l[i]? = some s → lk (pairsFrom k l) s = some ((k + i + 1 : Nat) : Int)
  | [], _, _, i, h => by simp at h
  | x :: l, k, hn, i, h => by
    have hn' := List.nodup_cons.1 hn
    cases i with
    | zero =>
      simp at h
      subst h
      simp [lk, pairsFrom]
    | succ i =>
      simp at h
      have hx : x ≠ s := fun e => hn'.1 (e ▸ List.mem_of_getElem? h)
      have := lkf_get l (k + 1) hn'.2 i h
      simp only [lk, pairsFrom] at this ⊢
      rw [List.find?_cons_of_neg (by simp [hx]), this]
      congr 2; omega
theorem lk_is {l : List ByteArray} (hn : l.Nodup) (s : ByteArray) : (s ∉ l ∧ lk (pairs l) s = none ∧ atOf l s l.length = 0) ∨ ∃ i, l[i]? = some s ∧ i < l.length ∧ lk (pairs l) s = some ((i : Int) + 1) ∧ atOf l s l.length = i + 1 := by
  by_cases h : s ∈ l
  · obtain ⟨i, hi⟩ := List.getElem?_of_mem h
    have hlt : i < l.length := (List.getElem?_eq_some_iff.1 hi).1
    refine .inr ⟨i, hi, hlt, ?_, atOf_some hn hi _ hlt⟩
    have := lkf_get l 0 hn i hi
    unfold pairs
    rw [this]; simp
  · exact .inl ⟨h, lk_pairs_none h, atOf_none h _⟩
theorem inTab_nodup {l : List ByteArray} (hn : l.Nodup) (s : ByteArray) : (inTab l s).Nodup := by
  unfold inTab
  split
  · exact hn
  · rcases lk_is hn s with ⟨h1, h2, _⟩ | ⟨i, _, _, h2, _⟩
    · rw [h2]
      dsimp only
      split
      · exact hn
      · rw [List.nodup_append]
        exact ⟨hn, by simp, fun a ha b hb => by simp at hb; subst hb; exact fun e => h1 (e ▸ ha)⟩
    · rw [h2]; exact hn
theorem tabOf_nodup (l : List ByteArray) : (tabOf l).Nodup := by
  have : ∀ (l acc : List ByteArray), acc.Nodup → (l.foldl inTab acc).Nodup := by
    intro l
    induction l with
    | nil => intro acc h; exact h
    | cons x l ih => intro acc h; exact ih _ (inTab_nodup h x)
  exact this l [] (by simp)
theorem round_bad {l : List ByteArray} {s : ByteArray} (h : goodB s = false) : inTab l s = l ∧ inNum l s = 0 ∧ inErr l s = 2 := by
  simp [inTab, inNum, inErr, h]
theorem round_new {l : List ByteArray} {s : ByteArray} (h : goodB s = true) (hl : l.length ≤ 100) (h1 : s ∉ l) : inTab l s = l ++ [s] ∧ inNum l s = (l.length : Int) + 1 ∧ inErr l s = 0 ∧ lk (pairs (l ++ [s])) s = some ((l.length : Int) + 1) := by
  have h2 := lk_pairs_none h1
  have h3 : ¬ 4096 ≤ l.length := by omega
  refine ⟨by simp [inTab, h, h2, h3], by simp [inNum, h, h2, h3], by simp [inErr, h, h2, h3], ?_⟩
  rw [pairs_snoc]
  simp only [lk] at h2 ⊢
  rw [List.find?_append]
  have h4 : (pairs l).find? (fun p => decide (p.1 = s)) = none := by simpa using h2
  rw [h4]; simp
theorem round_old {l : List ByteArray} {s : ByteArray} {i : Nat} (h : goodB s = true) (h2 : lk (pairs l) s = some ((i : Int) + 1)) : inTab l s = l ∧ inNum l s = (i : Int) + 1 ∧ inErr l s = 0 := by
  simp [inTab, inNum, inErr, h, h2]
end Go.Proofs.YtlbmahlgbfakeaaRR
