/- known. -/
import Derived.Test.YtcffphojpnbcbaaDoorRc
namespace Go.Proofs.YtcffphojpnbcbaaDoor
open Go.RowKit Go.Lib KP MR

section
variable {g m : Nat} {w W : World} {T T' : List Wt} {r al : Int} {l : List Int} {b : Bool}
theorem rowAt_new (W : World) (l : List Int) : RowAt (W.alloc (.cells (l.map (Value.int .i64)).toArray 3)) (Value.int .i64) (some ⟨W.heap.size, 0, none⟩) l := by
  intro k hk
  have h2 : (⟨W.heap.size, 0, none⟩ : Addr).add k = ⟨W.heap.size, k, none⟩ := by simp [Addr.add]; omega
  refine ⟨_, rfl, ?_⟩
  rw [h2]
  exact ⟨by simp, block_cell (heap_alloc_new W _) (by simp [hk])⟩
theorem argOk_new (W : World) (hr : okI r) (ha : okI al) (hl : ∀ x ∈ l, okI x) (hn : l.length ≤ 1000) : ArgOk (W.alloc (.cells (l.map (Value.int .i64)).toArray 3)) (r, al, l) (some ⟨W.heap.size, 0, none⟩) l.length :=
  ⟨rowAt_new W l, (fun h => by cases h), hn, hr, ha, hl⟩
theorem Inv.tab (h : Inv w.heap.size w g m T W) (ht : Tab w) : Tab W := ht.b h.below
theorem Inv.new (h : Inv w.heap.size w g m T W) (o : Obj) : Inv w.heap.size w g m T (W.alloc o) := h.grow ((Below.refl _ W).alloc (Nat.le_refl _) o) h.below.size
theorem mark_c (h : Inv w.heap.size w g m T W) (ht : Tab w) (hr : okI r) (ha : okI al) (hl : ∀ x ∈ l, okI x) (hn : l.length ≤ 1000) (hT : mark T (r, al, l) = T') :
    Calls Tryd.prog 7 #[.pointer (some ⟨g, 0, none⟩), .int .i64 r, .int .i64 al, .slice (some ⟨W.heap.size, 0, none⟩) l.length l.length] (W.alloc (.cells (l.map (Value.int .i64)).toArray 3)) fun e w' => e = .returned (.tuple #[]) ∧ Inv w.heap.size w g m T' w' :=
  (set_mark (t := (r, al, l)) (h.new _) ((h.new _).tab ht) (h.new _).below.size (argOk_new W hr ha hl hn)).mono fun _ _ x => ⟨x.1, hT ▸ x.2.1⟩
theorem has_c (h : Inv w.heap.size w g m T W) (ht : Tab w) (hr : okI r) (ha : okI al) (hl : ∀ x ∈ l, okI x) (hn : l.length ≤ 1000) (hb : decide ((r, al, l) ∈ T) = b) :
    Calls Tryd.prog 10 #[.pointer (some ⟨g, 0, none⟩), .int .i64 r, .int .i64 al, .slice (some ⟨W.heap.size, 0, none⟩) l.length l.length] (W.alloc (.cells (l.map (Value.int .i64)).toArray 3)) fun e w' => e = .returned (.bool b) ∧ Inv w.heap.size w g m T w' :=
  (set_has (t := (r, al, l)) (h.new _) ((h.new _).tab ht) (h.new _).below.size (argOk_new W hr ha hl hn)).mono fun _ _ x => ⟨hb ▸ x.1, (h.new _).grow x.2 (h.new _).below.size⟩
theorem gone_c (h : Inv w.heap.size w g m T W) (ht : Tab w) (hr : okI r) (ha : okI al) (hl : ∀ x ∈ l, okI x) (hn : l.length ≤ 1000) (hb : decide ((r, al, l) ∈ T) = b) (hT : (T.filter fun x => decide (x ≠ (r, al, l))) = T') :
    Calls Tryd.prog 12 #[.pointer (some ⟨g, 0, none⟩), .int .i64 r, .int .i64 al, .slice (some ⟨W.heap.size, 0, none⟩) l.length l.length] (W.alloc (.cells (l.map (Value.int .i64)).toArray 3)) fun e w' => e = .returned (.bool b) ∧ Inv w.heap.size w g m T' w' :=
  (set_gone (t := (r, al, l)) (h.new _) ((h.new _).tab ht) (h.new _).below.size (argOk_new W hr ha hl hn)).mono fun _ _ x => ⟨hb ▸ x.1, hT ▸ x.2.1⟩
theorem of_c (fact : Int) (h : Inv w.heap.size w g m T W) (hT : T.length ≤ 100000) (hF : ∀ t ∈ T, t.2.2.length ≤ 1000) {n : Nat} (hn : withF T fact = n) :
    Calls Tryd.prog 14 #[.pointer (some ⟨g, 0, none⟩), .int .i64 fact] W fun e w' => e = .returned (.int .i64 n) ∧ Inv w.heap.size w g m T w' :=
  (set_of fact h h.below.size hT hF).mono fun _ _ x => ⟨hn ▸ x.1, h.grow x.2 h.below.size⟩
theorem len_c (h : Inv w.heap.size w g m T W) {n : Nat} (hn : T.length = n) : Calls Tryd.prog 9 #[.pointer (some ⟨g, 0, none⟩)] W fun e w' => e = .returned (.int .i64 n) ∧ W = w' :=
  (set_len h).mono fun _ _ x => ⟨hn ▸ x.1, x.2⟩
theorem clear_c (rule : Int) (h : Inv w.heap.size w g m T W) (hT : T.length ≤ 100000) (hT' : T.filter (stayT rule) = T') :
    Calls Tryd.prog 8 #[.pointer (some ⟨g, 0, none⟩), .int .i64 rule] W fun e w' => e = .returned (.int .i64 ((T.length : Int) - (T'.length : Int))) ∧ Inv w.heap.size w g m T' w' :=
  (set_clear rule h h.below.size hT).mono fun _ _ x => ⟨hT' ▸ x.1, hT' ▸ x.2.1⟩
end
theorem okS (n : Int) (h : -1000 ≤ n ∧ n ≤ 1000) : okI n := by unfold okI; omega
theorem ok34 : ∀ x ∈ ([3, 4] : List Int), okI x := by intro x hx; rcases List.mem_cons.1 hx with rfl | hx; exact okS 3 (by omega); rw [List.mem_singleton.1 hx]; exact okS 4 (by omega)

set_option maxHeartbeats 1000000 in
theorem known_any (w : World) (ht : Tab w) : Calls Tryd.prog 5 #[] w fun e w' => e = .returned (.bool true) ∧ Below w.heap.size w w' := by
  have HT := Lib.hid ht
  clear ht
  have o0 := Lib.hid (okS 0 (by omega))
  have o1 := Lib.hid (okS 1 (by omega))
  go_enter Tryd.func5, Tryd.ntmps5
  go_wp2_with fail
  refine (set_new w).mono ?_
  rintro e w1 ⟨g, m, rfl, i1, _, _⟩
  have I1 := Lib.hid i1; clear i1
  go_wp2_with fail
  refine (mark_c (l := [3, 4]) (T' := [(1, 0, [3, 4])]) I1.out HT.out o1.out o0.out ok34 (by decide) (by decide)).mono ?_
  rintro e w2 ⟨rfl, i2⟩
  have I2 := Lib.hid i2; clear i2
  go_wp2_with fail
  refine (mark_c (l := [3, 4]) (T' := [(1, 0, [3, 4])]) I2.out HT.out o1.out o0.out ok34 (by decide) (by decide)).mono ?_
  rintro e w3 ⟨rfl, i3⟩
  have I3 := Lib.hid i3; clear i3
  go_wp2_with fail
  refine (has_c (l := [3, 4]) (b := true) I3.out HT.out o1.out o0.out ok34 (by decide) (by decide)).mono ?_
  rintro e w4 ⟨rfl, i4⟩
  have I4 := Lib.hid i4; clear i4
  go_wp2_with fail
  refine (has_c (l := [3, 4]) (b := false) I4.out HT.out o1.out o1.out ok34 (by decide) (by decide)).mono ?_
  rintro e w5 ⟨rfl, i5⟩
  have I5 := Lib.hid i5; clear i5
  go_wp2_with fail
  refine (of_c 3 (n := 1) I5.out (by decide) (by decide) (by decide)).mono ?_
  rintro e w6 ⟨rfl, i6⟩
  have I6 := Lib.hid i6; clear i6
  go_wp2_with fail
  refine (gone_c (l := [3, 4]) (b := true) (T' := []) I6.out HT.out o1.out o0.out ok34 (by decide) (by decide) (by decide)).mono ?_
  rintro e w7 ⟨rfl, i7⟩
  have I7 := Lib.hid i7; clear i7
  go_wp2_with fail
  refine (gone_c (l := [3, 4]) (b := false) (T' := []) I7.out HT.out o1.out o0.out ok34 (by decide) (by decide) (by decide)).mono ?_
  rintro e w8 ⟨rfl, i8⟩
  have I8 := Lib.hid i8; clear i8
  go_wp2_with fail
  refine (len_c (n := 0) I8.out rfl).mono ?_
  rintro e w9 ⟨rfl, rfl⟩
  go_wp2_with fail
  refine (clear_c (-1) (T' := []) I8.out (by decide) rfl).mono ?_
  rintro e w9 ⟨rfl, i9⟩
  have E9 := Lib.hid i9.below; clear i9
  go_wp2_with fail
  go_ret
  exact ⟨rfl, E9.out⟩
end Go.Proofs.YtcffphojpnbcbaaDoor
