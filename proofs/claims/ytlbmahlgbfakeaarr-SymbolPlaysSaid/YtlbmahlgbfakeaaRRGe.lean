/- The table of names, in one contract a method; what is known of it. -/
import Derived.Test.YtlbmahlgbfakeaaRRGd
namespace Go.Proofs.YtlbmahlgbfakeaaRR
open Go.RowKit MR KP

/-- What Intern makes of a table, and tells. -/
def inTab (l : List ByteArray) (s : ByteArray) : List ByteArray := if goodB s = false then l else match lk (pairs l) s with | some _ => l | none => if 4096 ≤ l.length then l else l ++ [s]
def inNum (l : List ByteArray) (s : ByteArray) : Int := if goodB s = false then 0 else match lk (pairs l) s with | some n => n | none => if 4096 ≤ l.length then 0 else l.length + 1
def inErr (l : List ByteArray) (s : ByteArray) : Int := if goodB s = false then 2 else match lk (pairs l) s with | some _ => 0 | none => if 4096 ≤ l.length then 10 else 0

theorem intern_any (F : Nat → Prop) (B g : Nat) (l : List ByteArray) (s : ByteArray) (w : World) (h : IsTable w F B g l) (hF : ∀ k, F k → k < w.heap.size) (hB : B ≤ w.heap.size) :
    Calls Try.prog 8 #[.pointer (some ⟨g, 0, none⟩), .string s] w fun e w' => e = .returned (.tuple #[.int .i64 (inNum l s), .int .i64 (inErr l s)]) ∧ ∃ F', IsTable w' F' B g (inTab l s) ∧ (∀ k, F' k → k < w'.heap.size) ∧ (∀ k, F' k → F k ∨ w.heap.size ≤ k) ∧ Keep F w w' := by
  cases hg : goodB s with
  | false =>
    refine (intern_bad F B g l s w h hg).mono ?_
    rintro e w' ⟨rfl, rfl⟩
    have e1 : inTab l s = l := by simp [inTab, hg]
    refine ⟨by simp [inNum, inErr, hg], F, e1.symm ▸ h, hF, fun k hk => .inl hk, Keep.refl _ _⟩
  | true =>
    cases hl : lk (pairs l) s with
    | some n =>
      refine (intern_old F B g l s n w h hg hl).mono ?_
      rintro e w' ⟨rfl, rfl⟩
      have e1 : inTab l s = l := by simp [inTab, hg, hl]
      refine ⟨by simp [inNum, inErr, hg, hl], F, e1.symm ▸ h, hF, fun k hk => .inl hk, Keep.refl _ _⟩
    | none =>
      by_cases hf : 4096 ≤ l.length
      · refine (intern_full F B g l s w h hg hl hf).mono ?_
        rintro e w' ⟨rfl, rfl⟩
        have e1 : inTab l s = l := by simp [inTab, hg, hl, hf]
        refine ⟨by simp [inNum, inErr, hg, hl, hf], F, e1.symm ▸ h, hF, fun k hk => .inl hk, Keep.refl _ _⟩
      · refine (intern_new F B g l s w h hF hB hg hl (by omega)).mono ?_
        rintro e w' ⟨rfl, F', h1, h2, h3, h4⟩
        have e1 : inTab l s = l ++ [s] := by simp [inTab, hg, hl, hf]
        refine ⟨by simp [inNum, inErr, hg, hl, hf], F', e1.symm ▸ h1, h2, h3, h4⟩

set_option maxHeartbeats 400000 in
theorem name_yes (F : Nat → Prop) (B g : Nat) (l : List ByteArray) (i : Nat) (w : World) (h : IsTable w F B g l) (hi : i < l.length) :
    Calls Try.prog 12 #[.pointer (some ⟨g, 0, none⟩), .int .i64 ((i : Int) + 1)] w fun e w' => e = .returned (.tuple #[.string l[i], .bool true]) ∧ ∃ q, w' = w.drewN q := by
  obtain ⟨m, v, _, _, _, hb, hm, ho⟩ := h.ex
  obtain ⟨g1, cap, cur, rfl, _, hg1, hc1, hc2, hc3, hc4⟩ : ∃ g cap cur, v = .slice (some ⟨g, 0, none⟩) l.length cap ∧ B ≤ g ∧ w.heap[g]? = some (.cells cur 9 (0, 0)) ∧ l.length ≤ cap ∧ cap ≤ maxLen ∧ cur.size = cap * 1 ∧ cur.toList.take (l.length * 1) = l.map Value.string := by
    rcases ho.2 with ⟨h1, h2⟩ | h2
    · omega
    · exact h2
  unfold maxLen at hc2
  have c1 : w.cell? ⟨g, 1, none⟩ = some (.slice (some ⟨g1, 0, none⟩) l.length cap) := block_cell (j := 1) hb rfl
  have hcell : w.cell? ⟨g1, i, none⟩ = some (.string l[i]) := by
    refine block_cell hg1 ?_
    have : (cur.toList.take (l.length * 1))[i]? = (l.map Value.string)[i]? := by rw [hc4]
    rw [List.getElem?_take, if_pos (by omega), List.getElem?_map, List.getElem?_eq_getElem hi] at this
    simpa using this
  clear hb hm ho hg1 hc3 hc4 h
  go_enter Try.func12, Try.ntmps12
  go_wp2
  go_ret2
  exact ⟨rfl, 0, rfl⟩

/-- A table whose blocks are all from N on. -/
def Tab (w : World) (N g : Nat) (l : List ByteArray) : Prop := ∃ F, IsTable w F N g l ∧ (∀ k, F k → N ≤ k ∧ k < w.heap.size)

theorem tab_intern (N g : Nat) (l : List ByteArray) (s : ByteArray) (w : World) (h : Tab w N g l) (hN : N ≤ w.heap.size) :
    Calls Try.prog 8 #[.pointer (some ⟨g, 0, none⟩), .string s] w fun e w' => e = .returned (.tuple #[.int .i64 (inNum l s), .int .i64 (inErr l s)]) ∧ Tab w' N g (inTab l s) ∧ Below N w w' := by
  obtain ⟨F, hI, hF⟩ := h
  refine (intern_any F N g l s w hI (fun k hk => (hF k hk).2) hN).mono ?_
  rintro e w' ⟨rfl, F', h1, h2, h3, h4⟩
  refine ⟨rfl, ⟨F', h1, fun k hk => ⟨?_, h2 k hk⟩⟩, h4.below hN (fun k hk => (hF k hk).1)⟩
  rcases h3 k hk with h5 | h5
  · exact (hF k h5).1
  · omega
theorem tab_new (w : World) : Calls Try.prog 7 #[] w fun e w' => ∃ g, e = .returned (.pointer (some ⟨g, 0, none⟩)) ∧ Tab w' w.heap.size g [] ∧ Below w.heap.size w w' := by
  refine (new_any w).mono ?_
  rintro e w' ⟨g, F, rfl, h1, h2, h3⟩
  refine ⟨g, rfl, ⟨fun k => F k ∧ k < w'.heap.size, ⟨?_⟩, fun k hk => ⟨h2 k hk.1, hk.2⟩⟩, h3.below (Nat.le_refl _) (fun k hk => hk.elim)⟩
  obtain ⟨m, v, a1, a2, a3, a4, a5, a6⟩ := h1.ex
  exact ⟨m, v, ⟨a1, (Array.getElem?_eq_some_iff.1 a4).1⟩, ⟨a2, a5.lt⟩, fun k hk => ⟨a3 k hk, (a6.lt k hk).2⟩, a4, a5, a6⟩
theorem Tab.drewN {w : World} {N g : Nat} {l : List ByteArray} (h : Tab w N g l) (q : Nat) : Tab (w.drewN q) N g l := by
  obtain ⟨F, hI, hF⟩ := h
  obtain ⟨m, v, a1, a2, a3, a4, a5, a6⟩ := hI.ex
  exact ⟨F, ⟨m, v, a1, a2, a3, a4, a5.move rfl, a6⟩, hF⟩
end Go.Proofs.YtlbmahlgbfakeaaRR
