/- EvalDeep: as many calls in one another as may be; one more is too long. -/
import Derived.Test.YtmadnehipagakaaGreatDoorGi
namespace Go.Proofs.YtmadnehipagakaaGreatDoor
open Go.RowKit Go.Lib Go.Sort Go.Shelf KP
theorem row1 {N : Nat → Prop} {W : World} {g : Nat} {T : TypeId} {fr : Nat × Nat} {a : Ex} {B0 : Option Addr} {c0 : Nat} {k : Int} {v : Vl} {s : ByteArray} (h : W.heap[g]? = some (.cells #[.int .i64 a.k, .int .i64 a.v.1, .int .i64 a.v.2.1, .string a.v.2.2, .string a.s, .slice B0 a.kids.length c0] T fr)) (hN : ¬ N g) (ha : ExAt N W a B0) : ExAt N W (.mk k v s [a]) (some ⟨g, 0, none⟩) := by
  refine .mk (fun i => match i with  | _ => B0) (fun i => match i with  | _ => c0) (fun i hi => ⟨_, rfl, hN, fun j u hu => ?_⟩) (fun i hi => ?_)
  · rw [addr_flat]
    refine block_cell h ?_
    have hj : j < 6 := by
      rcases Nat.lt_or_ge j 6 with h | h
      · exact h
      · rw [Array.getElem?_eq_none (by simpa using h)] at hu; cases hu
    match i, hi with
    | 0, _ => match j, hj with
      | 0, _ => exact hu
      | 1, _ => exact hu
      | 2, _ => exact hu
      | 3, _ => exact hu
      | 4, _ => exact hu
      | 5, _ => exact hu
  · match i, hi with
    | 0, _ => exact ha
theorem row2 {N : Nat → Prop} {W : World} {g : Nat} {T : TypeId} {fr : Nat × Nat} {a b : Ex} {B0 B1 : Option Addr} {c0 c1 : Nat} {k : Int} {v : Vl} {s : ByteArray} (h : W.heap[g]? = some (.cells #[.int .i64 a.k, .int .i64 a.v.1, .int .i64 a.v.2.1, .string a.v.2.2, .string a.s, .slice B0 a.kids.length c0, .int .i64 b.k, .int .i64 b.v.1, .int .i64 b.v.2.1, .string b.v.2.2, .string b.s, .slice B1 b.kids.length c1] T fr)) (hN : ¬ N g) (ha : ExAt N W a B0) (hb : ExAt N W b B1) : ExAt N W (.mk k v s [a, b]) (some ⟨g, 0, none⟩) := by
  refine .mk (fun i => match i with | 0 => B0 | _ => B1) (fun i => match i with | 0 => c0 | _ => c1) (fun i hi => ⟨_, rfl, hN, fun j u hu => ?_⟩) (fun i hi => ?_)
  · rw [addr_flat]
    refine block_cell h ?_
    have hj : j < 6 := by
      rcases Nat.lt_or_ge j 6 with h | h
      · exact h
      · rw [Array.getElem?_eq_none (by simpa using h)] at hu; cases hu
    match i, hi with
    | 0, _ => match j, hj with
      | 0, _ => exact hu
      | 1, _ => exact hu
      | 2, _ => exact hu
      | 3, _ => exact hu
      | 4, _ => exact hu
      | 5, _ => exact hu
    | 1, _ => match j, hj with
      | 0, _ => exact hu
      | 1, _ => exact hu
      | 2, _ => exact hu
      | 3, _ => exact hu
      | 4, _ => exact hu
      | 5, _ => exact hu
  · match i, hi with
    | 0, _ => exact ha
    | 1, _ => exact hb
theorem row3 {N : Nat → Prop} {W : World} {g : Nat} {T : TypeId} {fr : Nat × Nat} {a b c : Ex} {B0 B1 B2 : Option Addr} {c0 c1 c2 : Nat} {k : Int} {v : Vl} {s : ByteArray} (h : W.heap[g]? = some (.cells #[.int .i64 a.k, .int .i64 a.v.1, .int .i64 a.v.2.1, .string a.v.2.2, .string a.s, .slice B0 a.kids.length c0, .int .i64 b.k, .int .i64 b.v.1, .int .i64 b.v.2.1, .string b.v.2.2, .string b.s, .slice B1 b.kids.length c1, .int .i64 c.k, .int .i64 c.v.1, .int .i64 c.v.2.1, .string c.v.2.2, .string c.s, .slice B2 c.kids.length c2] T fr)) (hN : ¬ N g) (ha : ExAt N W a B0) (hb : ExAt N W b B1) (hc : ExAt N W c B2) : ExAt N W (.mk k v s [a, b, c]) (some ⟨g, 0, none⟩) := by
  refine .mk (fun i => match i with | 0 => B0 | 1 => B1 | _ => B2) (fun i => match i with | 0 => c0 | 1 => c1 | _ => c2) (fun i hi => ⟨_, rfl, hN, fun j u hu => ?_⟩) (fun i hi => ?_)
  · rw [addr_flat]
    refine block_cell h ?_
    have hj : j < 6 := by
      rcases Nat.lt_or_ge j 6 with h | h
      · exact h
      · rw [Array.getElem?_eq_none (by simpa using h)] at hu; cases hu
    match i, hi with
    | 0, _ => match j, hj with
      | 0, _ => exact hu
      | 1, _ => exact hu
      | 2, _ => exact hu
      | 3, _ => exact hu
      | 4, _ => exact hu
      | 5, _ => exact hu
    | 1, _ => match j, hj with
      | 0, _ => exact hu
      | 1, _ => exact hu
      | 2, _ => exact hu
      | 3, _ => exact hu
      | 4, _ => exact hu
      | 5, _ => exact hu
    | 2, _ => match j, hj with
      | 0, _ => exact hu
      | 1, _ => exact hu
      | 2, _ => exact hu
      | 3, _ => exact hu
      | 4, _ => exact hu
      | 5, _ => exact hu
  · match i, hi with
    | 0, _ => exact ha
    | 1, _ => exact hb
    | 2, _ => exact hc
def exX : Ex := .mk 2 v0 ⟨#[120]⟩ []
def exOne : Ex := .mk 1 (vI 1) ⟨#[]⟩ []
def exDone : Ex := .mk 1 (vS ⟨#[100, 111, 110, 101]⟩) ⟨#[]⟩ []
def exLess : Ex := .mk 4 v0 ⟨#[45]⟩ [exX, exOne]
def exTest : Ex := .mk 4 v0 ⟨#[60]⟩ [exX, exOne]
def exAgain : Ex := .mk 4 v0 ⟨#[100, 111, 119, 110]⟩ [exLess]
def exIf : Ex := .mk 5 v0 ⟨#[]⟩ [exTest, exDone, exAgain]
def fuDown : Fu := (⟨#[100, 111, 119, 110]⟩, [⟨#[120]⟩], [exIf])
theorem good_sym (s : ByteArray) (h : s.size ≤ 1000) : goodV (vS s) := ⟨.inr (.inl rfl), zero_ok, h⟩
theorem goodIf : goodE (body [exIf]) := by
  have hx : goodE exX := .mk (fun e => by cases e) (by simp) (fun i h => by simp at h)
  have ho : goodE exOne := .mk (fun _ => good_int one_ok) (by simp) (fun i h => by simp at h)
  have hd : goodE exDone := .mk (fun _ => good_sym _ (by decide)) (by simp) (fun i h => by simp at h)
  have h2 : ∀ (k : Int) (s : ByteArray), k ≠ 1 → goodE (.mk k v0 s [exX, exOne]) := fun k s hk => .mk (fun e => absurd e hk) (by simp) (fun i h => by
    match i, h with
    | 0, _ => exact hx
    | 1, _ => exact ho)
  have ha : goodE exAgain := .mk (fun e => by cases e) (by simp) (fun i h => by
    match i, h with
    | 0, _ => exact h2 4 _ (by decide))
  have hi : goodE exIf := .mk (fun e => by cases e) (by simp) (fun i h => by
    match i, h with
    | 0, _ => exact h2 4 _ (by decide)
    | 1, _ => exact hd
    | 2, _ => exact ha)
  exact .mk (fun e => by cases e) (by simp) (fun i h => by
    match i, h with
    | 0, _ => exact hi)
theorem deep_all : ∀ n : Fin 61, (calO [fuDown] (evG [fuDown] [] 100000) ⟨#[100, 111, 119, 110]⟩ [vI (n.val : Int)] 0 100000).1 = if 32 ≤ n.val then (v0, 4) else (vS ⟨#[100, 111, 110, 101]⟩, 0) := by decide +kernel
end Go.Proofs.YtmadnehipagakaaGreatDoor
