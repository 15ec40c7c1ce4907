/- eval.Get: the last bind of a name. For rows of binds in memory. -/
import Derived.RangeFuncNested
import Derived.RangeFuncBound
import Derived.RangeFuncCalls
import Derived.RangeFuncLeaves
import Derived.RangeFuncBox
import Derived.Shelf.Abstract
import Derived.Shelf.RegionOpen
import Derived.WalkKit
import Derived.OwnWalkIn
import Derived.TacticsInMore
import Derived.LoopNIn
import Derived.LoopIn
import Derived.Test.YtmadnehipagakaaGreatDoorKa
namespace Go.Proofs.YtmadnehipagakaaGreatDoor
open Go.RowKit Go.Lib Go.Sort Go.Shelf KP
attribute [local go_sem] Oper.semAt_some
/-- A bind: its name, its value. -/
abbrev Bd := ByteArray × Vl
abbrev Bd.cs (b : Bd) : Array Value := #[.string b.1, .int .i64 b.2.1, .int .i64 b.2.2.1, .string b.2.2.2]
abbrev Bd.val (b : Bd) : Value := .agg #[.string b.1, .int .i64 b.2.1, .int .i64 b.2.2.1, .string b.2.2.2]
/-- A row of binds in memory, in none of the blocks N. -/
def BindsAt (N : Nat → Prop) (W : World) (A : Option Addr) (l : List Bd) : Prop := ∀ k (h : k < l.length), ∃ ad, A = some ad ∧ ¬ N ad.block ∧ ∀ j v, l[k].cs[j]? = some v → W.cell? ((ad.add (k * 4)).add j) = some v
theorem add_block (a : Addr) (k : Nat) : (a.add k).block = a.block := by unfold Addr.add; split <;> rfl
section
variable {N F : Nat → Prop} {W W' : World} {A : Option Addr} {l : List Bd}
theorem BindsAt.keep (h : BindsAt N W A l) (hk : Keep F W W') (hF : ∀ k, F k → N k) : BindsAt N W' A l := by
  intro k hlt
  obtain ⟨ad, e, hn, hc⟩ := h k hlt
  exact ⟨ad, e, hn, fun j v hv => hk.cell (hc j v hv) (fun hf => hn (by rw [add_block, add_block] at hf; exact hF _ hf))⟩
theorem BindsAt.below (h : BindsAt N W A l) (hb : Below W.heap.size W W') : BindsAt N W' A l := h.keep (Keep.of_below hb (fun _ => False)) (fun _ h => h.elim)
theorem BindsAt.mono {M : Nat → Prop} (h : BindsAt N W A l) (hM : ∀ k, M k → N k) : BindsAt M W A l := by
  intro k hlt
  obtain ⟨ad, e, hn, hc⟩ := h k hlt
  exact ⟨ad, e, fun hm => hn (hM _ hm), hc⟩
theorem BindsAt.at (h : BindsAt N W A l) {k : Nat} (hk : k < l.length) : ∃ ad, A = some ad ∧ ¬ N ad.block ∧ W.cell? (ad.add (k * 4)) = some (.string l[k].1) ∧ W.cell? ⟨(ad.add (k * 4)).block, (ad.add (k * 4)).off + 1, none⟩ = some (.int .i64 l[k].2.1) ∧ W.cell? ⟨(ad.add (k * 4)).block, (ad.add (k * 4)).off + 2, none⟩ = some (.int .i64 l[k].2.2.1) ∧ W.cell? ⟨(ad.add (k * 4)).block, (ad.add (k * 4)).off + 3, none⟩ = some (.string l[k].2.2.2) := by
  obtain ⟨ad, e, hn, hc⟩ := h k hk
  refine ⟨ad, e, hn, ?_, hc 1 _ rfl, hc 2 _ rfl, hc 3 _ rfl⟩
  have := hc 0 _ rfl
  simpa [Addr.add] using this
theorem BindsAt.nil (N : Nat → Prop) (W : World) (A : Option Addr) : BindsAt N W A [] := fun k h => by simp at h
theorem BindsAt.lt (h : BindsAt N W A l) {k : Nat} (hk : k < l.length) {ad : Addr} (e : A = some ad) : ad.block < W.heap.size := by
  obtain ⟨ad', e', _, hc⟩ := h k hk
  rw [e] at e'
  injection e' with e'
  subst e'
  have := World.block_lt_of_cell? _ _ (hc 0 _ rfl)
  rwa [add_block, add_block] at this
end
/-- The last bind of a name. -/
def getO (l : List Bd) (s : ByteArray) : Vl × Bool := match l.reverse.find? (fun b => decide (b.1 = s)) with
  | some b => (b.2, true)
  | none => (v0, false)
theorem drop_last {l : List Bd} {r : Nat} (h : r < l.length) : (l.drop r).reverse = (l.drop (r + 1)).reverse ++ [l[r]] := by
  rw [List.drop_eq_getElem_cons h, List.reverse_cons]
set_option maxRecDepth 100000 in
set_option maxHeartbeats 2000000 in
theorem backward1_in (F : Fence) (n : Nat) (hf : F.fn 104) (hro : F.round = none) (hn : 1 ≤ n) (ly Bs n₀ c : Nat) (ad : Addr) (l : List Bd) (hreach : l.length ≤ 1000000) (hb : ad.block < n₀) (J Jx : List (Int × Bd) → World → Prop)
    (hY : ∀ pre x W, J pre W → pre.length < l.length → YieldAt F (n - 1) Tryz.prog ly #[.int .i64 x.1, x.2.val] W fun e W' =>
      (e = .returned (.bool true) ∧ J (pre ++ [x]) W' ∧ Below n₀ W W') ∨ (e = .returned (.bool false) ∧ Jx (pre ++ [x]) W'))
    (W : World) (hBs : W.cell? ⟨Bs, 0, none⟩ = some (.slice (some ad) l.length c)) (hc : BindsAt (fun _ => False) W (some ad) l) (h0 : J [] W) (hBn : Bs < n₀) :
    CallsIn F n Tryz.prog 104 #[.func (.yield ly) #[] #[], .pointer (some ⟨Bs, 0, none⟩)] W fun e W' => (∃ v, e = .returned v) ∧
      ((∃ ys, ys.map Prod.snd = l.reverse ∧ J ys W') ∨ (∃ pre, (∃ r, r ≤ l.length ∧ pre.map Prod.snd = (l.drop r).reverse) ∧ Jx pre W')) := by
  have hC := Lib.hid (fun W' (h : Below n₀ W W') k (hk : k < l.length) => by
    obtain ⟨ad', e, _, hcell⟩ := hc k hk
    obtain rfl := Option.some.inj e
    have hB : ∀ j, ((ad.add (k * 4)).add j).block < n₀ := fun j => by rw [add_block, add_block]; exact hb
    have h0 := (h.cell (hB 0)).trans (hcell 0 _ rfl)
    have h1 := (h.cell (hB 1)).trans (hcell 1 _ rfl)
    have h2 := (h.cell (hB 2)).trans (hcell 2 _ rfl)
    have h3 := (h.cell (hB 3)).trans (hcell 3 _ rfl)
    exact (⟨by simpa [Addr.add] using h0, h1, h2, h3⟩ : W'.cell? (ad.add (k * 4)) = some (.string l[k].1) ∧ W'.cell? ⟨(ad.add (k * 4)).block, (ad.add (k * 4)).off + 1, none⟩ = some (.int .i64 l[k].2.1) ∧ W'.cell? ⟨(ad.add (k * 4)).block, (ad.add (k * 4)).off + 2, none⟩ = some (.int .i64 l[k].2.2.1) ∧ W'.cell? ⟨(ad.add (k * 4)).block, (ad.add (k * 4)).off + 3, none⟩ = some (.string l[k].2.2.2)))
  clear hc
  have hlI : (l.length : Int) ≤ 1000000 := by omega
  have H0 := Lib.hid h0
  clear h0
  refine callsIn_of_wp Tryz.func104 rfl hf ?_ hro
  simp only [Tryz.ntmps104, List.size_toArray, List.length_cons, List.length_nil, Nat.reduceAdd, Nat.reduceSub, Array.replicate_succ, Array.replicate_zero, List.push_toArray, List.append_toArray, List.nil_append, List.cons_append]
  gi_wp2
  gi_loopw [3] (fun i wr => ∃ r : Nat, r ≤ l.length ∧ i = .int .i64 ((r : Int) - 1) ∧ Hid (∃ pre, pre.map Prod.snd = (l.drop r).reverse ∧ J pre wr) ∧ Hid (Below n₀ W wr))
    (fun i _ => (intOf i + 1).toNat)
  case atStart => exact ⟨l.length, Nat.le_refl _, rfl, Lib.hid ⟨[], by simp, H0.out⟩, Lib.hid (Below.refl _ _)⟩
  case round =>
    obtain ⟨r, hr, rfl, hJ0, hnx⟩ := hrel
    have hBw := (hnx.out.cell (p := ⟨Bs, 0, none⟩) hBn).trans hBs
    cases r with
    | zero =>
      gi_wp2
      go_end0
      obtain ⟨pre, hpre, hJs⟩ := hJ0.out
      exact ⟨⟨_, rfl⟩, .inl ⟨pre, by simpa using hpre, hJs⟩⟩
    | succ r =>
      have hrr : r < l.length := by omega
      have hrI : (r : Int) < (l.length : Int) := by omega
      obtain ⟨c0, c1, c2, c3⟩ := hC.out _ hnx.out r hrr
      obtain ⟨pre, hpre, hJs⟩ := hJ0.out
      obtain ⟨fn, tmps, assign, body, hy, hR⟩ := hY pre ((r : Int), l[r]) wr hJs (by have := congrArg List.length hpre; simp at this; omega)
      have hN : Hid ((pre ++ [((r : Int), l[r])]).map Prod.snd = (l.drop r).reverse) := Lib.hid (by rw [List.map_append, hpre, drop_last hrr]; rfl)
      clear hJ0 hpre hJs
      dsimp only at hy
      rw [show (((r + 1 : Nat) : Int) - 1) = (r : Int) by omega]
      generalize hlr : l[r] = v at *
      obtain ⟨v1, v2, v3, v4⟩ := v
      dsimp only at c0 c1 c2 c3 hy
      clear hlr
      gi_wp2
      refine hR.mono ?_
      rintro e W3 (⟨rfl, hJ3, hk3⟩ | ⟨rfl, hJx3⟩)
      · gi_wp2
        go_roundw
        case rel => exact ⟨r, by omega, rfl, Lib.hid ⟨_, hN.out, hJ3⟩, Lib.hid (hnx.out.trans hk3)⟩
        case measure => simp [intOf]
      · gi_wp2
        refine bodyPost_ret (results_none rfl _ _ _) rfl ?_
        exact ⟨⟨_, rfl⟩, .inr ⟨_, ⟨r, by omega, hN.out⟩, hJx3⟩⟩
set_option maxRecDepth 100000 in
theorem backward1_nil (F : Fence) (n : Nat) (hf : F.fn 104) (hro : F.round = none) (ly Bs c : Nat) (A : Option Addr) (J : List (Int × Bd) → World → Prop) (W : World) (hBs : W.cell? ⟨Bs, 0, none⟩ = some (.slice A 0 c)) (h0 : J [] W) :
    CallsIn F n Tryz.prog 104 #[.func (.yield ly) #[] #[], .pointer (some ⟨Bs, 0, none⟩)] W fun e W' => (∃ v, e = .returned v) ∧ J [] W' := by
  refine callsIn_of_wp Tryz.func104 rfl hf ?_ hro
  simp only [Tryz.ntmps104, List.size_toArray, List.length_cons, List.length_nil, Nat.reduceAdd, Nat.reduceSub, Array.replicate_succ, Array.replicate_zero, List.push_toArray, List.append_toArray, List.nil_append, List.cons_append]
  gi_wp2
  gi_loopw [3] (fun i wr => i = .int .i64 (-1) ∧ J [] wr) (fun _ _ => 0)
  case atStart => exact ⟨rfl, h0⟩
  case round =>
    obtain ⟨rfl, hJs⟩ := hrel
    gi_wp2
    go_end0
    exact ⟨⟨_, rfl⟩, hJs⟩
theorem backward_in (F : Fence) (n : Nat) (hf : F.fn 67) (hro : F.round = none) (A : Option Addr) (len c : Nat) (w : World) :
    CallsIn F n Tryz.prog 67 #[.slice A len c] w fun e w' => e = .returned (.func (.func 104) #[] #[.pointer (some ⟨w.heap.size, 0, none⟩)]) ∧ w' = w.alloc (.cells #[.slice A len c] 38) := by
  refine callsIn_of_wp Tryz.func67 rfl hf ?_ hro
  simp only [Tryz.ntmps67, List.size_toArray, List.length_cons, List.length_nil, Nat.reduceAdd, Nat.reduceSub, Array.replicate_succ, Array.replicate_zero, List.push_toArray, List.append_toArray, List.nil_append, List.cons_append]
  gi_wp2
  go_ret
  exact ⟨rfl, rfl⟩
theorem backward_stops (F : Fence) (n : Nat) (hf : F.fn 104) (hro : F.round = none) (hn : 1 ≤ n) (Bs n₀ c : Nat) (A : Option Addr) (l : List Bd) (hreach : l.length ≤ 1000000) (w : World) (hBs : Bs < n₀) (hn₀ : n₀ ≤ w.heap.size)
    (hc : w.cell? ⟨Bs, 0, none⟩ = some (.slice A l.length c)) (hI : BindsAt (fun k => n₀ ≤ k) w A l) :
    SeqStopsK F n Tryz.prog 104 #[.pointer (some ⟨Bs, 0, none⟩)] (fun x : Int × Bd => #[Value.int .i64 x.1, x.2.val]) (Below n₀) (fun ys => ys.map Prod.snd = l.reverse)
      (fun pre => ∃ r, r ≤ l.length ∧ pre.map Prod.snd = (l.drop r).reverse) l.length w := fun ly J Jx W hW _ _ hY h0 => by
  have hc' := (hW.cell (p := ⟨Bs, 0, none⟩) (by show Bs < _; omega)).trans hc
  cases l with
  | nil => exact (backward1_nil F n hf hro ly Bs c A J W hc' h0).mono fun e W' ⟨he, hj⟩ => ⟨he, .inl ⟨[], rfl, hj⟩⟩
  | cons b l =>
    obtain ⟨ad, rfl, hnb, _⟩ := hI 0 (by simp)
    exact backward1_in F n hf hro hn ly Bs n₀ c ad (b :: l) hreach (by omega) J Jx hY W hc' ((hI.mono (fun _ h => h.elim)).below hW) h0 hBs
theorem blk_kept {W W' : World} {B : Nat} {cs : Array Value} {T : TypeId} {fr : Nat × Nat} {row : Option Nat} (h : W.heap[B]? = some (.cells cs T fr)) (hg : W.grownBy W' row) (hr : ∀ r, row = some r → ∃ o : Obj, W.heap[r]? = some o ∧ o.isCells = false) : W'.heap[B]? = some (.cells cs T fr) := by
  refine (hg.block B (Array.getElem?_eq_some_iff.1 h).1 (fun e => ?_)).trans h
  obtain ⟨o, ho, hc⟩ := hr B e.symm
  rw [h] at ho
  cases ho
  cases hc
theorem get_none {l : List Bd} {s : ByteArray} (h : ∀ b ∈ l.reverse, b.1 ≠ s) : getO l s = (v0, false) := by
  unfold getO
  rw [List.find?_eq_none.2 (fun b hb => by simpa using h b hb)]
theorem get_some {l ini suf : List Bd} {b : Bd} {s : ByteArray} (e : l.reverse = ini ++ b :: suf) (h : ∀ b ∈ ini, b.1 ≠ s) (hb : b.1 = s) : getO l s = (b.2, true) := by
  unfold getO
  rw [e, List.find?_append, List.find?_eq_none.2 (fun b hb => by simpa using h b hb)]
  simp [hb]
def NotIn (s : ByteArray) (pre : List (Int × Bd)) : Prop := ∀ p ∈ pre, p.2.1 ≠ s
def FoundAt (g : Nat) (s : ByteArray) (pre : List (Int × Bd)) (W : World) : Prop := ∃ ini last, pre = ini ++ [last] ∧ NotIn s ini ∧ last.2.1 = s ∧ W.heap[g]? = some (.cells last.2.2.cs 26 (0, 0)) ∧ W.heap[g + 1]? = some (.cells #[.bool true] 4 (0, 0))
theorem get_take {l ini : List Bd} {b : Bd} {r : Nat} (e : ini ++ [b] = (l.drop r).reverse) : ∃ suf, l.reverse = ini ++ b :: suf := by
  refine ⟨(l.take r).reverse, ?_⟩
  have : l.reverse = (l.drop r).reverse ++ (l.take r).reverse := by rw [← List.reverse_append, List.take_append_drop]
  rw [this, ← e]
  simp
set_option maxRecDepth 100000 in
set_option maxHeartbeats 4000000 in
theorem get_in (F : Fence) (n : Nat) (h1f : F.fn 31) (h2f : F.fn 67) (h3f : F.fn 104) (hro : F.round = none) (hn : 3 ≤ n) (A : Option Addr) (c : Nat) (l : List Bd) (s : ByteArray) (hl : l.length ≤ 1000000) (w : World) (hI : BindsAt (fun _ => False) w A l) :
    CallsIn F n Tryz.prog 31 #[.slice A l.length c, .string s] w fun e W' => e = .returned (.tuple #[(getO l s).1.val, .bool (getO l s).2]) ∧ Below w.heap.size w W' := by
  have h1 : 1 ≤ n := by omega
  have hI2 : Hid (∀ W, Below w.heap.size w W → ∀ n₀, w.heap.size ≤ n₀ → BindsAt (fun k => n₀ ≤ k) W A l) := Lib.hid (fun W hW n₀ hn => by
    intro k hk
    obtain ⟨ad, e, _, hc⟩ := hI k hk
    refine ⟨ad, e, ?_, fun j v hv => (hW.cell (World.block_lt_of_cell? _ _ (hc j v hv))).trans (hc j v hv)⟩
    have := hI.lt hk e
    omega)
  clear hI
  refine callsIn_of_wp_marks Tryz.func31 rfl h1f ?_ hro
  simp only [Tryz.ntmps31, List.size_toArray, List.length_cons, List.length_nil, Nat.reduceAdd, Nat.reduceSub, Array.replicate_succ, Array.replicate_zero, List.push_toArray, List.append_toArray, List.nil_append, List.cons_append]
  gi_wp2_with (gi_at_call 67; refine (backward_in F (n - 1) h2f hro _ _ _ _).mono ?_; rintro e w' ⟨rfl, rfl⟩)
  have e0 := heap_alloc_new w (.cells #[.string s] 9)
  have e1 := heap_alloc_new (w.alloc (.cells #[.string s] 9)) (.cells #[.int .i64 0, .int .i64 0, .string ⟨#[]⟩] 26)
  have e2 := heap_alloc_new ((w.alloc (.cells #[.string s] 9)).alloc (.cells #[.int .i64 0, .int .i64 0, .string ⟨#[]⟩] 26)) (.cells #[.bool false] 4)
  have e3 := heap_alloc_new (((w.alloc (.cells #[.string s] 9)).alloc (.cells #[.int .i64 0, .int .i64 0, .string ⟨#[]⟩] 26)).alloc (.cells #[.bool false] 4)) (.cells #[.slice A l.length c] 38)
  have hB0 : Below w.heap.size w ((((w.alloc (.cells #[.string s] 9)).alloc (.cells #[.int .i64 0, .int .i64 0, .string ⟨#[]⟩] 26)).alloc (.cells #[.bool false] 4)).alloc (.cells #[.slice A l.length c] 38)) := ((((Below.refl _ w).alloc (Nat.le_refl _) _).alloc (by simp) _).alloc (by simp; omega) _).alloc (by simp; omega) _
  have hsz : ((((w.alloc (.cells #[.string s] 9)).alloc (.cells #[.int .i64 0, .int .i64 0, .string ⟨#[]⟩] 26)).alloc (.cells #[.bool false] 4)).alloc (.cells #[.slice A l.length c] 38)).heap.size = w.heap.size + 4 := by simp
  have e0 := (Below.heap_alloc _ (.cells #[.slice A l.length c] 38) w.heap.size (by simp; omega)).trans ((Below.heap_alloc _ (.cells #[.bool false] 4) w.heap.size (by simp; omega)).trans ((Below.heap_alloc _ (.cells #[.int .i64 0, .int .i64 0, .string ⟨#[]⟩] 26) w.heap.size (by simp)).trans e0))
  rw [World.size_alloc] at e1
  have e1 := (Below.heap_alloc _ (.cells #[.slice A l.length c] 38) (w.heap.size + 1) (by simp)).trans ((Below.heap_alloc _ (.cells #[.bool false] 4) (w.heap.size + 1) (by simp)).trans e1)
  rw [World.size_alloc, World.size_alloc] at e2
  have e2 := (Below.heap_alloc _ (.cells #[.slice A l.length c] 38) (w.heap.size + 1 + 1) (by simp)).trans e2
  rw [World.size_alloc, World.size_alloc, World.size_alloc] at e3
  obtain ⟨W0, hW0⟩ : ∃ W0, ((((w.alloc (.cells #[.string s] 9)).alloc (.cells #[.int .i64 0, .int .i64 0, .string ⟨#[]⟩] 26)).alloc (.cells #[.bool false] 4)).alloc (.cells #[.slice A l.length c] 38)) = W0 := ⟨_, rfl⟩
  rw [hW0] at e0 e1 e2 e3 hB0 hsz ⊢
  clear hW0
  refine wpIn_rangeFunc_ownH hro h1 (gf := 104) (lb := #[.pointer (some ⟨w.heap.size + 1 + 1 + 1, 0, none⟩)]) rfl h3f (enters_of Tryz.func104 (by kernel_rfl) rfl)
    (backward_stops F (n - 1) h3f hro (by omega) (w.heap.size + 1 + 1 + 1) (w.heap.size + 4) c A l hl W0 (by omega) (by omega) (block_cell e3 rfl) (hI2.out W0 hB0 _ (by omega))) belowK_t (belowK_b (by omega)) (Below.refl _ _) (fun _ => rfl)
    (fun pre W => NotIn s pre ∧ Below W0.heap.size W0 W)
    (fun cd pre W => (cd = .ret ∧ FoundAt (w.heap.size + 1) s pre W) ∧ Below w.heap.size w W)
    (OwnFrom.and (ownFrom_pure _ (fun pre : List (Int × Bd) => NotIn s pre)) (ownFrom_below (Nat.le_refl _) (Nat.le_refl _)))
    (fun cd => OwnFrom.and (Own.from (fun s A B row hs hg hr => by obtain ⟨hc, hh⟩ := hs; obtain ⟨ini, last, q1, q2, q3, q4, q5⟩ := hh; exact ⟨hc, ⟨ini, last, q1, q2, q3, blk_kept q4 hg hr, blk_kept q5 hg hr⟩⟩) _) (ownFrom_below (Nat.le_refl _) (by omega)))
    ⟨fun p hp => (by simp at hp), Below.refl _ _⟩
    (fun x a' W => ∃ Bx, w.heap.size + 4 ≤ Bx ∧ W.heap[Bx]? = some (.cells x.2.cs 73 (0, 0)) ∧ a' = { tmps := #[.slice A l.length c, .string s, undef, .pointer (some ⟨w.heap.size, 0, none⟩), .pointer (some ⟨w.heap.size + 1, 0, none⟩), .pointer (some ⟨w.heap.size + 1 + 1, 0, none⟩), undef, .pointer (some ⟨Bx, 0, none⟩), .slice A l.length c, .func (.func 104) #[] #[.pointer (some ⟨w.heap.size + 1 + 1 + 1, 0, none⟩)], .int .i64 x.1, x.2.val, undef, undef, undef, undef, undef, undef, undef], defers := [] })
    (fun x a' _ X Y row hs hg hr => by obtain ⟨Bx, h1, h2, h3⟩ := hs; exact ⟨Bx, h1, blk_kept h2 hg (fun r e => (hr r e).2), h3⟩)
    ?assign ?body ?done ?stop
  case assign =>
    rintro ly pre ⟨x1, x2, x3, x4, x5⟩ W K ⟨hp, hB1⟩ hK
    have hsW := hB1.size
    have hE := heap_alloc_new W (.cells #[.string ⟨#[]⟩, .int .i64 0, .int .i64 0, .string ⟨#[]⟩] 73)
    dsimp only
    gi_wp2
    exact hK _ _ ((KeepsOthers.alloc _ _).from _) ((Below.refl _ W).alloc (by omega) _) ⟨hp, hB1.alloc hsW _⟩ ⟨W.heap.size, by omega, heap_alloc_new W _, rfl⟩
  case body =>
    rintro ly pre ⟨x1, x2, x3, x4, x5⟩ a' W hly _ ⟨hp, hB1⟩ ⟨Bx, hBx, bX, rfl⟩ hlt
    have hsW := hB1.size
    have hN : Below w.heap.size w W := hB0.trans (hB1.mono hB0.size)
    have b0 := (hB1.block w.heap.size (by omega)).trans e0
    have b1 := (hB1.block (w.heap.size + 1) (by omega)).trans e1
    have b2 := (hB1.block (w.heap.size + 1 + 1) (by omega)).trans e2
    have cX0 := block_cell (j := 0) bX rfl
    have cX1 := block_cell (j := 1) bX rfl
    have cX2 := block_cell (j := 2) bX rfl
    have cX3 := block_cell (j := 3) bX rfl
    have cS := block_cell (j := 0) b0 rfl
    have c10 := block_cell (j := 0) b1 rfl
    have c11 := block_cell (j := 1) b1 rfl
    have c12 := block_cell (j := 2) b1 rfl
    have c20 := block_cell (j := 0) b2 rfl
    have f1 := fun j => block_free (j := j) b1
    have f2 := fun j => block_free (j := j) b2
    dsimp only at cX0 cX1 cX2 cX3
    by_cases hx : x2 = s
    · subst hx
      have hq := str_eq (rfl : x2 = x2)
      have m1 := ((hN.setCell (p := ⟨w.heap.size + 1, 0, none⟩) (by simp) (.int .i64 x3)).setCell (p := ⟨w.heap.size + 1, 1, none⟩) (by simp) (.int .i64 x4)).setCell (p := ⟨w.heap.size + 1, 2, none⟩) (by simp) (.string x5)
      have m2 := block_set (block_set (block_set b1 (j := 0) (.int .i64 x3)) (j := 1) (.int .i64 x4)) (j := 2) (.string x5)
      have M := Lib.hid (m1.setCell (p := ⟨w.heap.size + 1 + 1, 0, none⟩) (by simp; omega) (.bool true))
      have M2 := Lib.hid ((Below.heap_setCell _ ⟨w.heap.size + 1 + 1, 0, none⟩ (.bool true) (w.heap.size + 1) (by simp)).trans m2)
      have b2' := (Below.heap_setCell _ ⟨w.heap.size + 1, 2, none⟩ (.string x5) (w.heap.size + 1 + 1) (by simp)).trans ((Below.heap_setCell _ ⟨w.heap.size + 1, 1, none⟩ (.int .i64 x4) (w.heap.size + 1 + 1) (by simp)).trans ((Below.heap_setCell _ ⟨w.heap.size + 1, 0, none⟩ (.int .i64 x3) (w.heap.size + 1 + 1) (by simp)).trans b2))
      have M3 := Lib.hid (block_set b2' (j := 0) (.bool true))
      clear m1 m2 b2'
      gi_wp2
      exact ⟨(((KeepsOthers.setCell _ _ _).trans (KeepsOthers.setCell _ _ _)).trans ((KeepsOthers.setCell _ _ _).trans (KeepsOthers.setCell _ _ _))).from _, ⟨rfl, ⟨pre, _, rfl, hp, rfl, M2.out, M3.out⟩⟩, M.out⟩
    · have hq := str_ne hx
      have HX := Lib.hid hx
      clear hx
      gi_wp2
      exact ⟨KeepsFrom.refl _ _, Below.refl _ _, (fun p hp' => (List.mem_append.1 hp').elim (hp p) (fun e => by simp only [List.mem_singleton] at e; subst e; exact HX.out)), (by rw [← hsz]; exact hB1)⟩
  case done =>
    rintro D ys W hD hys ⟨hp, hB1⟩ hK
    have hsW := hB1.size
    have hN : Below w.heap.size w W := hB0.trans (hB1.mono hB0.size)
    have b1 := (hB1.block (w.heap.size + 1) (by omega)).trans e1
    have b2 := (hB1.block (w.heap.size + 1 + 1) (by omega)).trans e2
    have c10 := block_cell (j := 0) b1 rfl
    have c11 := block_cell (j := 1) b1 rfl
    have c12 := block_cell (j := 2) b1 rfl
    have c20 := block_cell (j := 0) b2 rfl
    have f1 := fun j => block_free (j := j) b1
    have f2 := fun j => block_free (j := j) b2
    have hG : Hid (getO l s = (v0, false)) := Lib.hid (get_none (fun b hb => by rw [← hys] at hb; obtain ⟨p, hp2, rfl⟩ := List.mem_map.1 hb; exact hp p hp2))
    have m1 := ((hN.setCell (p := ⟨w.heap.size + 1, 0, none⟩) (by simp) (.int .i64 0)).setCell (p := ⟨w.heap.size + 1, 1, none⟩) (by simp) (.int .i64 0)).setCell (p := ⟨w.heap.size + 1, 2, none⟩) (by simp) (.string ⟨#[]⟩)
    have m2 := block_set (block_set (block_set b1 (j := 0) (.int .i64 0)) (j := 1) (.int .i64 0)) (j := 2) (.string ⟨#[]⟩)
    have M := Lib.hid (m1.setCell (p := ⟨w.heap.size + 1 + 1, 0, none⟩) (by simp; omega) (.bool false))
    have M2 := Lib.hid ((Below.heap_setCell _ ⟨w.heap.size + 1 + 1, 0, none⟩ (.bool false) (w.heap.size + 1) (by simp)).trans m2)
    have b2' := (Below.heap_setCell _ ⟨w.heap.size + 1, 2, none⟩ (.string ⟨#[]⟩) (w.heap.size + 1 + 1) (by simp)).trans ((Below.heap_setCell _ ⟨w.heap.size + 1, 1, none⟩ (.int .i64 0) (w.heap.size + 1 + 1) (by simp)).trans ((Below.heap_setCell _ ⟨w.heap.size + 1, 0, none⟩ (.int .i64 0) (w.heap.size + 1 + 1) (by simp)).trans b2))
    have M3 := Lib.hid (block_set b2' (j := 0) (.bool false))
    have K4 := Lib.hid ((((KeepsOthers.setCell W ⟨w.heap.size + 1, 0, none⟩ (.int .i64 0)).trans (KeepsOthers.setCell _ ⟨w.heap.size + 1, 1, none⟩ (.int .i64 0))).trans ((KeepsOthers.setCell _ ⟨w.heap.size + 1, 2, none⟩ (.string ⟨#[]⟩)).trans (KeepsOthers.setCell _ ⟨w.heap.size + 1 + 1, 0, none⟩ (.bool false)))).same D _ hK rfl)
    clear m1 m2 b2'
    gi_wp2
    have hK' := K4.out
    have hM := M.out
    have hM2 := M2.out
    have hM3 := M3.out
    generalize (((W.setCell ⟨w.heap.size + 1, 0, none⟩ (.int .i64 0)).setCell ⟨w.heap.size + 1, 1, none⟩ (.int .i64 0)).setCell ⟨w.heap.size + 1, 2, none⟩ (.string ⟨#[]⟩)).setCell ⟨w.heap.size + 1 + 1, 0, none⟩ (.bool false) = W9 at hK' hM hM2 hM3 ⊢
    refine ⟨by simp, .inl ⟨_, _, rfl, run_takeDeferred hK', ?_⟩⟩
    have d0 := cell_kept (block_cell (j := 0) hM2 rfl) (grownBy_putObj' W9 D (.deferred none)) (fun r e => by cases e; exact ⟨_, hK', rfl⟩)
    have d1 := cell_kept (block_cell (j := 1) hM2 rfl) (grownBy_putObj' W9 D (.deferred none)) (fun r e => by cases e; exact ⟨_, hK', rfl⟩)
    have d2 := cell_kept (block_cell (j := 2) hM2 rfl) (grownBy_putObj' W9 D (.deferred none)) (fun r e => by cases e; exact ⟨_, hK', rfl⟩)
    have d3 := cell_kept (block_cell (j := 0) hM3 rfl) (grownBy_putObj' W9 D (.deferred none)) (fun r e => by cases e; exact ⟨_, hK', rfl⟩)
    refine ⟨.tuple #[Vl.val v0, .bool false], ?_, by rw [hG.out], hM.trans (belowK_b (w := w) (Nat.le_refl _) W9 D _ _ (by omega) hK' rfl rfl)⟩
    simp [results, Tryz.f31, go_sem, d0, d1, d2, d3]
  case stop =>
    rintro D cd pre W hD ⟨r, hr, hpr⟩ ⟨⟨rfl, hq⟩, hB1⟩ hK
    gi_wp2
    obtain ⟨ini, ⟨x1, x2, x3, x4, x5⟩, q1, q2, q3, q4, q5⟩ := hq
    refine ⟨by simp, .inl ⟨_, _, rfl, run_takeDeferred hK, ?_⟩⟩
    have d0 := cell_kept (block_cell (j := 0) q4 rfl) (grownBy_putObj' W D (.deferred none)) (fun r e => by cases e; exact ⟨_, hK, rfl⟩)
    have d1 := cell_kept (block_cell (j := 1) q4 rfl) (grownBy_putObj' W D (.deferred none)) (fun r e => by cases e; exact ⟨_, hK, rfl⟩)
    have d2 := cell_kept (block_cell (j := 2) q4 rfl) (grownBy_putObj' W D (.deferred none)) (fun r e => by cases e; exact ⟨_, hK, rfl⟩)
    have d3 := cell_kept (block_cell (j := 0) q5 rfl) (grownBy_putObj' W D (.deferred none)) (fun r e => by cases e; exact ⟨_, hK, rfl⟩)
    have e9 : ini.map Prod.snd ++ [(x2, x3, x4, x5)] = (l.drop r).reverse := by rw [← hpr, q1]; simp
    obtain ⟨suf, e8⟩ := get_take e9
    have hG : getO l s = ((x3, x4, x5), true) := get_some e8 (fun b hb => by obtain ⟨p, hp2, rfl⟩ := List.mem_map.1 hb; exact q2 p hp2) q3
    refine ⟨.tuple #[Vl.val (x3, x4, x5), .bool true], ?_, by rw [hG], hB1.trans (belowK_b (w := w) (Nat.le_refl _) W D _ _ (by omega) hK rfl rfl)⟩
    simp [results, Tryz.f31, go_sem, d0, d1, d2, d3]
theorem get_c (A : Option Addr) (c : Nat) (l : List Bd) (s : ByteArray) (hl : l.length ≤ 1000000) (w : World) (hI : BindsAt (fun _ => False) w A l) :
    Calls Tryz.prog 31 #[.slice A l.length c, .string s] w fun e W' => e = .returned (.tuple #[(getO l s).1.val, .bool (getO l s).2]) ∧ Below w.heap.size w W' :=
  (callsIn_wide (n := 3)).1 (get_in Fence.wide 3 trivial trivial trivial rfl (by omega) A c l s hl w hI)
end Go.Proofs.YtmadnehipagakaaGreatDoor
