/- What a call leaves as it was: all blocks but those in F. Over any program. -/
import Derived.Below
import Derived.WalkKit
import Derived.WalkSmall
namespace Go.Proofs.Ytonflknnlfffhaa.KP
open Go.RowKit

/-- w' is w but for the blocks in F and new ones. -/
structure Keep (F : Nat → Prop) (w w' : World) : Prop where
  os : w'.os = w.os
  tape : w'.tape = w.tape
  output : w'.output = w.output
  size : w.heap.size ≤ w'.heap.size
  block : ∀ k, k < w.heap.size → ¬ F k → w'.heap[k]? = w.heap[k]?

section
variable {F G H : Nat → Prop} {w w1 w2 : World}
theorem Keep.refl (F : Nat → Prop) (w : World) : Keep F w w := ⟨rfl, rfl, rfl, Nat.le_refl _, fun _ _ _ => rfl⟩
theorem Keep.trans (h : Keep F w w1) (h2 : Keep G w1 w2) (hG : ∀ k, G k → F k ∨ w.heap.size ≤ k) : Keep F w w2 :=
  ⟨h2.os.trans h.os, h2.tape.trans h.tape, h2.output.trans h.output, Nat.le_trans h.size h2.size, fun k hk hF =>
    (h2.block k (Nat.lt_of_lt_of_le hk h.size) (fun hg => (hG k hg).elim hF (fun h3 => by omega))).trans (h.block k hk hF)⟩
theorem Keep.mono (h : Keep F w w1) (hF : ∀ k, F k → G k) : Keep G w w1 := ⟨h.os, h.tape, h.output, h.size, fun k hk hg => h.block k hk (fun hf => hg (hF k hf))⟩
theorem Keep.alloc (h : Keep F w w1) (o : Obj) : Keep F w (w1.alloc o) :=
  ⟨h.os, h.tape, h.output, Nat.le_trans h.size (by simp), fun k hk hF => (Below.heap_alloc w1 o k (Nat.lt_of_lt_of_le hk h.size)).trans (h.block k hk hF)⟩
theorem Keep.drew (h : Keep F w w1) : Keep F w w1.drew := ⟨h.os, h.tape, h.output, h.size, h.block⟩
theorem Keep.drewN (h : Keep F w w1) (n : Nat) : Keep F w (w1.drewN n) := ⟨h.os, h.tape, h.output, h.size, h.block⟩
theorem Keep.grown {row : Option Nat} (h : Keep F w w1) (hg : w1.grownBy w2 row) (hr : ∀ k, row = some k → F k ∨ w.heap.size ≤ k) : Keep F w w2 :=
  h.trans (G := fun k => row = some k) ⟨hg.os, hg.tape, hg.output, hg.size, fun k hk hn => hg.block k hk (fun e => hn e.symm)⟩ hr
theorem Keep.setCell (h : Keep F w w1) {p : Addr} (hp : F p.block ∨ w.heap.size ≤ p.block) (v : Value) : Keep F w (w1.setCell p v) :=
  h.trans (G := fun k => k = p.block) ⟨rfl, rfl, rfl, by simp [World.setCell], fun k _ hn => Below.heap_setCell _ _ _ _ hn⟩ (fun k e => by subst e; exact hp)
theorem Keep.of_below (h : Below w.heap.size w w1) (F : Nat → Prop) : Keep F w w1 := ⟨h.os, h.tape, h.output, h.size, fun k hk _ => h.block k hk⟩
theorem Keep.below {N : Nat} (h : Keep F w w1) (hN : N ≤ w.heap.size) (hF : ∀ k, F k → N ≤ k) : Below N w w1 :=
  ⟨h.os, h.tape, h.output, h.size, fun k hk => h.block k (by omega) (fun hf => by have := hF k hf; omega)⟩
theorem Keep.cell (h : Keep F w w1) {p : Addr} {v : Value} (hc : w.cell? p = some v) (hp : ¬ F p.block) : w1.cell? p = some v :=
  (World.cell?_of_block (h.block p.block (World.block_lt_of_cell? w p hc) hp)).trans hc
theorem ownsRow_keep {B : Nat} {e : TypeId} {size n : Nat} {v : Value} {xs : List Value} (h : w.ownsRow B e size v n xs) (hk : Keep F w w1) (hd : ∀ k, v.ownBlock = some k → ¬ F k) : w1.ownsRow B e size v n xs := by
  obtain ⟨h1, h2⟩ := h
  refine ⟨h1, ?_⟩
  rcases h2 with h2 | ⟨g, cap, cur, rfl, hg, hh, r⟩
  · exact .inl h2
  · exact .inr ⟨g, cap, cur, rfl, hg, (hk.block g (Array.getElem?_eq_some_iff.1 hh).1 (hd g rfl)).trans hh, r⟩
end
theorem block_cell {w : World} {g j : Nat} {cs : Array Value} {t : TypeId} {fr : Nat × Nat} {v : Value} (h : w.heap[g]? = some (.cells cs t fr)) (hv : cs[j]? = some v) : w.cell? ⟨g, j, none⟩ = some v := by
  simp [World.cell?, h, hv]
theorem block_free {w : World} {g j : Nat} {cs : Array Value} {t : TypeId} (h : w.heap[g]? = some (.cells cs t (0, 0))) : w.frozen? ⟨g, j, none⟩ = false := by
  simp [World.frozen?, h]
theorem block_set {w : World} {g j : Nat} {cs : Array Value} {t : TypeId} {fr : Nat × Nat} (h : w.heap[g]? = some (.cells cs t fr)) (v : Value) : (w.setCell ⟨g, j, none⟩ v).heap[g]? = some (.cells (cs.setIfInBounds j v) t fr) := by
  simp [World.setCell, Array.getElem?_modify, h]
end Go.Proofs.Ytonflknnlfffhaa.KP
