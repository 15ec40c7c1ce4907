/- built.reckon, name by name. -/
import Derived.Test.YtmadnehipagakaaGreatDoorBf
import Derived.Test.YtmadnehipagakaaGreatDoorBh
import Derived.Deep.RegionHeld3
namespace Go.Proofs.YtmadnehipagakaaGreatDoor
open Go.RowKit Go.Lib Go.Sort KP
theorem new3g {W w1 : World} {g : Nat} {a b c : Value} {T : TypeId} (hb : W.heap[g]? = some (.cells #[a, b, c] T (0, 0))) (h : Below W.heap.size W w1) :
    (w1.cell? ⟨g, 0, none⟩ = some a ∧ w1.cell? ⟨g, 1, none⟩ = some b ∧ w1.cell? ⟨g, 2, none⟩ = some c) ∧ (w1.frozen? ⟨g, 0, none⟩ = false ∧ w1.frozen? ⟨g, 1, none⟩ = false ∧ w1.frozen? ⟨g, 2, none⟩ = false) := by
  have e : w1.heap[g]? = some (.cells #[a, b, c] T (0, 0)) := (h.block g (Array.getElem?_eq_some_iff.1 hb).1).trans hb
  exact ⟨⟨block_cell e rfl, block_cell e rfl, block_cell e rfl⟩, ⟨block_free e, block_free e, block_free e⟩⟩
theorem rowAt_tail {w : World} {ad : Addr} {x : Int} {l : List Int} (h : RowAt w (Value.int .i64) (some ad) (x :: l)) : RowAt w (Value.int .i64) (some ⟨ad.block, ad.off + 1, none⟩) l := by
  intro k hk
  obtain ⟨ad', e, h1, h2⟩ := h (k + 1) (by simpa using hk)
  injection e with e
  subst e
  refine ⟨_, rfl, ?_⟩
  have e2 : (⟨ad.block, ad.off + 1, none⟩ : Addr).add k = ad.add (k + 1) := by
    simp [Addr.add]
    split
    · rename_i hk0; subst hk0; rfl
    · congr 1; omega
  rw [e2]
  exact ⟨h1, h2⟩
theorem row_head {w : World} {A : Option Addr} {x : Int} {l : List Int} (h : RowAt w (Value.int .i64) A (x :: l)) : ∃ ad, A = some ad ∧ w.cell? ad = some (.int .i64 x) ∧ ad.block < w.heap.size := by
  obtain ⟨ad, e, _, hc⟩ := h 0 (by simp)
  have e0 : ad.add 0 = ad := by simp [Addr.add]
  rw [e0] at hc
  exact ⟨ad, e, hc, World.block_lt_of_cell? _ _ hc⟩
theorem reck_mul (A : Option Addr) (c : Nat) (l : List Int) (w : World) (hr : RowAt w (Value.int .i64) A l) (hk : ∀ n ∈ l, okI n) (hl : l.length ≤ 1000000) :
    Calls Tryz.prog 52 #[.string ⟨#[42]⟩, .slice A l.length c] w fun e w' => e = .returned (outW (foldO mulO 1 l)) ∧ Below w.heap.size w w' := by
  have h0 : Hid (Below w.heap.size w (w.alloc (.cells #[.int .i64 0, .int .i64 0, .string ⟨#[]⟩] 26))) := Lib.hid ((Below.refl _ _).alloc (Nat.le_refl _) _)
  have M := Lib.hid (fun W (h : Below w.heap.size w W) => foldMul_c 1 A c l W (by unfold okI; omega) (hr.below h) hk hl)
  unfold outW at M ⊢
  generalize outV (foldO mulO 1 l) = ov at *
  generalize rE (foldO mulO 1 l) = oe at *
  obtain ⟨p, q, s⟩ := ov
  obtain ⟨n, hn⟩ : ∃ n, n = l.length := ⟨_, rfl⟩
  rw [← hn] at M hl ⊢
  have hnI : (n : Int) ≤ 1000000 := by omega
  clear hr hk hn
  go_enter Tryz.func52, Tryz.ntmps52
  go_wp2_with fail
  refine (M.out _ h0.out).mono ?_
  rintro e w1 ⟨rfl, b1⟩
  obtain ⟨⟨_, _, _⟩, ⟨_, _, _⟩⟩ := new3g (heap_alloc_new w _) b1
  have E1 := Lib.hid (bel_new b1); clear b1
  go_wp2_with fail
  exact bodyPost_ret (v := .tuple #[Vl.val (p, q, s), .int .i64 oe]) (by simp [results, Tryz.results52, go_sem, *]) rfl ⟨rfl, put3 E1.out⟩
theorem reck_add (A : Option Addr) (c : Nat) (l : List Int) (w : World) (hr : RowAt w (Value.int .i64) A l) (hk : ∀ n ∈ l, okI n) (hl : l.length ≤ 1000000) :
    Calls Tryz.prog 52 #[.string ⟨#[43]⟩, .slice A l.length c] w fun e w' => e = .returned (outW (foldO addO 0 l)) ∧ Below w.heap.size w w' := by
  have h0 : Hid (Below w.heap.size w (w.alloc (.cells #[.int .i64 0, .int .i64 0, .string ⟨#[]⟩] 26))) := Lib.hid ((Below.refl _ _).alloc (Nat.le_refl _) _)
  have M := Lib.hid (fun W (h : Below w.heap.size w W) => foldAdd_c 0 A c l W (by unfold okI; omega) (hr.below h) hk hl)
  unfold outW at M ⊢
  generalize outV (foldO addO 0 l) = ov at *
  generalize rE (foldO addO 0 l) = oe at *
  obtain ⟨p, q, s⟩ := ov
  obtain ⟨n, hn⟩ : ∃ n, n = l.length := ⟨_, rfl⟩
  rw [← hn] at M hl ⊢
  have hnI : (n : Int) ≤ 1000000 := by omega
  clear hr hk hn
  go_enter Tryz.func52, Tryz.ntmps52
  go_wp2_with fail
  refine (M.out _ h0.out).mono ?_
  rintro e w1 ⟨rfl, b1⟩
  obtain ⟨⟨_, _, _⟩, ⟨_, _, _⟩⟩ := new3g (heap_alloc_new w _) b1
  have E1 := Lib.hid (bel_new b1); clear b1
  go_wp2_with fail
  exact bodyPost_ret (v := .tuple #[Vl.val (p, q, s), .int .i64 oe]) (by simp [results, Tryz.results52, go_sem, *]) rfl ⟨rfl, put3 E1.out⟩
theorem reck_sub1 (A : Option Addr) (c : Nat) (l : List Int) (w : World) (hr : RowAt w (Value.int .i64) A l) (hk : ∀ n ∈ l, okI n) (hl : l.length ≤ 1000000) (h1 : l.length ≤ 1) :
    Calls Tryz.prog 52 #[.string ⟨#[45]⟩, .slice A l.length c] w fun e w' => e = .returned (outW (foldO subO 0 l)) ∧ Below w.heap.size w w' := by
  have h0 : Hid (Below w.heap.size w (w.alloc (.cells #[.int .i64 0, .int .i64 0, .string ⟨#[]⟩] 26))) := Lib.hid ((Below.refl _ _).alloc (Nat.le_refl _) _)
  have M := Lib.hid (fun W (h : Below w.heap.size w W) => foldSub_c 0 A c l W (by unfold okI; omega) (hr.below h) hk hl)
  unfold outW at M ⊢
  generalize outV (foldO subO 0 l) = ov at *
  generalize rE (foldO subO 0 l) = oe at *
  obtain ⟨p, q, s⟩ := ov
  obtain ⟨n, hn⟩ : ∃ n, n = l.length := ⟨_, rfl⟩
  rw [← hn] at M hl ⊢
  have hnI : (n : Int) ≤ 1000000 := by omega
  have h2 : (n : Int) ≤ 1 := by omega
  clear h1
  clear hr hk hn
  go_enter Tryz.func52, Tryz.ntmps52
  go_wp2_with fail
  refine (M.out _ h0.out).mono ?_
  rintro e w1 ⟨rfl, b1⟩
  obtain ⟨⟨_, _, _⟩, ⟨_, _, _⟩⟩ := new3g (heap_alloc_new w _) b1
  have E1 := Lib.hid (bel_new b1); clear b1
  go_wp2_with fail
  exact bodyPost_ret (v := .tuple #[Vl.val (p, q, s), .int .i64 oe]) (by simp [results, Tryz.results52, go_sem, *]) rfl ⟨rfl, put3 E1.out⟩
set_option maxHeartbeats 2000000 in
theorem reck_div (A : Option Addr) (c : Nat) (x : Int) (l : List Int) (w : World) (hr : RowAt w (Value.int .i64) A (x :: l)) (hk : ∀ n ∈ x :: l, okI n) (hl : l.length ≤ 1000000) (hc : (x :: l).length ≤ c) :
    Calls Tryz.prog 52 #[.string ⟨#[100, 105, 118]⟩, .slice A (x :: l).length c] w fun e w' => e = .returned (outW (foldO divO x l)) ∧ Below w.heap.size w w' := by
  have h0 : Hid (Below w.heap.size w (w.alloc (.cells #[.int .i64 0, .int .i64 0, .string ⟨#[]⟩] 26))) := Lib.hid ((Below.refl _ _).alloc (Nat.le_refl _) _)
  obtain ⟨ad, rfl, hx, hlt⟩ := row_head hr
  have HS : Hid (∀ w', Below w.heap.size w w' → (Below w.heap.size w w' ∧ w'.cell? ad = some (.int .i64 x))) := Lib.hid (fun w' h => ⟨h, (h.cell hlt).trans hx⟩)
  have hne : ad.block ≠ w.heap.size := by omega
  by_cases hc1 : c = 1
  · subst hc1
    obtain rfl : l = [] := by
      cases l with
      | nil => rfl
      | cons _ _ => simp at hc
    have M := Lib.hid (fun W (h : Below w.heap.size w W) => foldDiv_c x (some ad) 0 [] W (hk x (by simp)) (fun k h => by simp at h) (by simp) (by simp))
    simp only [List.length_nil] at M
    unfold outW at M ⊢
    generalize outV (foldO divO x []) = ov at *
    generalize rE (foldO divO x []) = oe at *
    obtain ⟨p, q, s⟩ := ov
    clear hr hk hx hlt hc
    go_enter Tryz.func52, Tryz.ntmps52
    go_wp2_with fail
    refine wp_region_held_drew (S := (fun w' => Below w.heap.size w w' ∧ w'.cell? ad = some (.int .i64 x))) (by kernel_rfl) (HS.out _ h0.out.drew) (fun hHeld => ?_)
    refine wpAnyH_take (i := 0) (oi := ⟨_, _, _, _, _, _⟩) (v := ?_) rfl (by kernel_rfl) (by kernel_rfl) (by kernel_rfl) (fun _ _ _ h => h) (Or.inl ⟨by rfl, ?_⟩) (by assumption) ?_
    rotate_left
    · intro w' hSw; (try dsimp only at hSw); go_simp; (try with_reducible rfl)
    try simp only [Act.put, List.setIfInBounds_toArray, List.set_cons_zero, List.set_cons_succ]
    refine wpAnyH_take (i := 1) (oi := ⟨_, _, _, _, _, _⟩) (v := ?_) rfl (by kernel_rfl) (by kernel_rfl) (by kernel_rfl) (fun _ _ _ h => h) (Or.inl ⟨by rfl, ?_⟩) (by assumption) ?_
    rotate_left
    · intro w' hSw; (try dsimp only at hSw); go_simp; (try with_reducible rfl)
    try simp only [Act.put, List.setIfInBounds_toArray, List.set_cons_zero, List.set_cons_succ]
    refine wpAnyH_take (i := 2) (oi := ⟨_, _, _, _, _, _⟩) (v := ?_) rfl (by kernel_rfl) (by kernel_rfl) (by kernel_rfl) (fun _ _ _ h => h) (Or.inl ⟨by rfl, ?_⟩) (by assumption) ?_
    rotate_left
    · intro w' hSw; (try dsimp only at hSw); go_simp; (try with_reducible rfl)
    try simp only [Act.put, List.setIfInBounds_toArray, List.set_cons_zero, List.set_cons_succ]
    refine wpAnyH_take (i := 3) (oi := ⟨_, _, _, _, _, _⟩) (v := ?_) rfl (by kernel_rfl) (by kernel_rfl) (by kernel_rfl) (fun _ _ _ h => h) (Or.inl ⟨by rfl, ?_⟩) (by assumption) ?_
    rotate_left
    · intro w' hSw; (try dsimp only at hSw); go_simp; (try with_reducible rfl)
    try simp only [Act.put, List.setIfInBounds_toArray, List.set_cons_zero, List.set_cons_succ]
    refine wpAnyH_take (i := 4) (oi := ⟨_, _, _, _, _, _⟩) (v := ?_) rfl (by kernel_rfl) (by kernel_rfl) (by kernel_rfl) (fun _ _ _ h => h) (Or.inl ⟨by rfl, ?_⟩) (by assumption) ?_
    rotate_left
    · intro w' hSw; (try dsimp only at hSw); go_simp; (try with_reducible rfl)
    try simp only [Act.put, List.setIfInBounds_toArray, List.set_cons_zero, List.set_cons_succ]
    refine wpAnyH_ready (rs := [5]) (by kernel_rfl) (by simp) ?_
    refine AllReadyH.cons (o := ⟨_, _, _, _, _, _⟩) rfl (fun K9 hK9 => ?_) AllReadyH.nil
    go_simp
    (with_reducible refine ((M.out _ hHeld.1)).mono ?_)
    rintro e w1 ⟨rfl, b1⟩
    have hblk := new3g (W := (w.alloc (.cells #[.int .i64 0, .int .i64 0, .string ⟨#[]⟩] 26)).drew) (heap_alloc_new w _) b1
    obtain ⟨⟨_, _, _⟩, ⟨_, _, _⟩⟩ := hblk
    have E1 := Lib.hid (hHeld.1.trans (b1.mono hHeld.1.size))
    clear b1
    go_wp2_with fail
    refine hK9.out _ _ (HS.out _ E1.out) (fun hHeld => ?_)
    clear hK9 K9
    try simp only [Act.put, List.setIfInBounds_toArray, List.set_cons_zero, List.set_cons_succ]
    refine wpAnyH_take (i := 6) (oi := ⟨_, _, _, _, _, _⟩) (v := ?_) rfl (by kernel_rfl) (by kernel_rfl) (by kernel_rfl) (fun _ _ _ h => h) (Or.inl ⟨by rfl, ?_⟩) (by assumption) ?_
    rotate_left
    · intro w' hSw; (try dsimp only at hSw); go_simp; (try with_reducible rfl)
    try simp only [Act.put, List.setIfInBounds_toArray, List.set_cons_zero, List.set_cons_succ]
    refine wpAnyH_take (i := 7) (oi := ⟨_, _, _, _, _, _⟩) (v := ?_) rfl (by kernel_rfl) (by kernel_rfl) (by kernel_rfl) (fun _ _ _ h => h) (Or.inl ⟨by rfl, ?_⟩) (by assumption) ?_
    rotate_left
    · intro w' hSw; (try dsimp only at hSw); go_simp; (try with_reducible rfl)
    try simp only [Act.put, List.setIfInBounds_toArray, List.set_cons_zero, List.set_cons_succ]
    refine wpAnyH_ready (rs := [8]) (by kernel_rfl) (by simp) ?_
    refine AllReadyH.cons (o := ⟨_, _, _, _, _, _⟩) rfl (fun K9 hK9 => ?_) AllReadyH.nil
    go_simp
    refine hK9.out _ _ (HS.out _ (put3 E1.out)) (fun hHeld => ?_)
    clear hK9 K9
    try simp only [Act.put, List.setIfInBounds_toArray, List.set_cons_zero, List.set_cons_succ]
    refine wpAnyH_take (i := 9) (oi := ⟨_, _, _, _, _, _⟩) (v := ?_) rfl (by kernel_rfl) (by kernel_rfl) (by kernel_rfl) (fun _ _ _ h => h) (Or.inl ⟨by rfl, ?_⟩) (by assumption) ?_
    rotate_left
    · intro w' hSw; (try dsimp only at hSw); go_simp; (try with_reducible rfl)
    try simp only [Act.put, List.setIfInBounds_toArray, List.set_cons_zero, List.set_cons_succ]
    refine wpAnyH_done (by kernel_rfl) ?_ _
    go_wp2
    exact bodyPost_ret (v := .tuple #[Vl.val (p, q, s), .int .i64 oe]) (by simp [results, Tryz.results52, go_sem, *]) rfl ⟨rfl, put3 E1.out⟩
  · have hc2 : 1 < c := by simp at hc; omega
    have M := Lib.hid (fun W (h : Below w.heap.size w W) => foldDiv_c x (some ⟨ad.block, ad.off + 1, none⟩) (c - 1) l W (hk x (by simp)) (rowAt_tail (hr.below h)) (fun n hn => hk n (List.mem_cons_of_mem _ hn)) hl)
    unfold outW at M ⊢
    generalize outV (foldO divO x l) = ov at *
    generalize rE (foldO divO x l) = oe at *
    obtain ⟨p, q, s⟩ := ov
    obtain ⟨n, hn⟩ : ∃ n, n = l.length := ⟨_, rfl⟩
    have e1 : (x :: l).length = n + 1 := by simp [hn]
    rw [e1] at hc ⊢
    rw [← hn] at M
    have hnI : (n : Int) ≤ 1000000 := by omega
    have hcI : (n : Int) + 1 ≤ (c : Int) := by omega
    have hcJ : (1 : Int) < (c : Int) := by omega
    have hn1 : (1 : Int) ≤ (n : Int) + 1 := by omega
    clear hr hk hx hlt hc hn e1 hl
    go_enter Tryz.func52, Tryz.ntmps52
    go_wp2_with fail
    refine wp_region_held_drew (S := (fun w' => Below w.heap.size w w' ∧ w'.cell? ad = some (.int .i64 x))) (by kernel_rfl) (HS.out _ h0.out.drew) (fun hHeld => ?_)
    refine wpAnyH_take (i := 0) (oi := ⟨_, _, _, _, _, _⟩) (v := ?_) rfl (by kernel_rfl) (by kernel_rfl) (by kernel_rfl) (fun _ _ _ h => h) (Or.inl ⟨by rfl, ?_⟩) (by assumption) ?_
    rotate_left
    · intro w' hSw; (try dsimp only at hSw); go_simp; (try with_reducible rfl)
    try simp only [Act.put, List.setIfInBounds_toArray, List.set_cons_zero, List.set_cons_succ]
    refine wpAnyH_take (i := 1) (oi := ⟨_, _, _, _, _, _⟩) (v := ?_) rfl (by kernel_rfl) (by kernel_rfl) (by kernel_rfl) (fun _ _ _ h => h) (Or.inl ⟨by rfl, ?_⟩) (by assumption) ?_
    rotate_left
    · intro w' hSw; (try dsimp only at hSw); go_simp; (try with_reducible rfl)
    try simp only [Act.put, List.setIfInBounds_toArray, List.set_cons_zero, List.set_cons_succ]
    refine wpAnyH_take (i := 2) (oi := ⟨_, _, _, _, _, _⟩) (v := ?_) rfl (by kernel_rfl) (by kernel_rfl) (by kernel_rfl) (fun _ _ _ h => h) (Or.inl ⟨by rfl, ?_⟩) (by assumption) ?_
    rotate_left
    · intro w' hSw; (try dsimp only at hSw); go_simp; (try with_reducible rfl)
    try simp only [Act.put, List.setIfInBounds_toArray, List.set_cons_zero, List.set_cons_succ]
    refine wpAnyH_take (i := 3) (oi := ⟨_, _, _, _, _, _⟩) (v := ?_) rfl (by kernel_rfl) (by kernel_rfl) (by kernel_rfl) (fun _ _ _ h => h) (Or.inl ⟨by rfl, ?_⟩) (by assumption) ?_
    rotate_left
    · intro w' hSw; (try dsimp only at hSw); go_simp; (try with_reducible rfl)
    try simp only [Act.put, List.setIfInBounds_toArray, List.set_cons_zero, List.set_cons_succ]
    refine wpAnyH_take (i := 4) (oi := ⟨_, _, _, _, _, _⟩) (v := ?_) rfl (by kernel_rfl) (by kernel_rfl) (by kernel_rfl) (fun _ _ _ h => h) (Or.inl ⟨by rfl, ?_⟩) (by assumption) ?_
    rotate_left
    · intro w' hSw; (try dsimp only at hSw); go_simp; (try with_reducible rfl)
    try simp only [Act.put, List.setIfInBounds_toArray, List.set_cons_zero, List.set_cons_succ]
    refine wpAnyH_ready (rs := [5]) (by kernel_rfl) (by simp) ?_
    refine AllReadyH.cons (o := ⟨_, _, _, _, _, _⟩) rfl (fun K9 hK9 => ?_) AllReadyH.nil
    go_simp
    (with_reducible refine ((M.out _ hHeld.1)).mono ?_)
    rintro e w1 ⟨rfl, b1⟩
    have hblk := new3g (W := (w.alloc (.cells #[.int .i64 0, .int .i64 0, .string ⟨#[]⟩] 26)).drew) (heap_alloc_new w _) b1
    obtain ⟨⟨_, _, _⟩, ⟨_, _, _⟩⟩ := hblk
    have E1 := Lib.hid (hHeld.1.trans (b1.mono hHeld.1.size))
    clear b1
    go_wp2_with fail
    refine hK9.out _ _ (HS.out _ E1.out) (fun hHeld => ?_)
    clear hK9 K9
    try simp only [Act.put, List.setIfInBounds_toArray, List.set_cons_zero, List.set_cons_succ]
    refine wpAnyH_take (i := 6) (oi := ⟨_, _, _, _, _, _⟩) (v := ?_) rfl (by kernel_rfl) (by kernel_rfl) (by kernel_rfl) (fun _ _ _ h => h) (Or.inl ⟨by rfl, ?_⟩) (by assumption) ?_
    rotate_left
    · intro w' hSw; (try dsimp only at hSw); go_simp; (try with_reducible rfl)
    try simp only [Act.put, List.setIfInBounds_toArray, List.set_cons_zero, List.set_cons_succ]
    refine wpAnyH_take (i := 7) (oi := ⟨_, _, _, _, _, _⟩) (v := ?_) rfl (by kernel_rfl) (by kernel_rfl) (by kernel_rfl) (fun _ _ _ h => h) (Or.inl ⟨by rfl, ?_⟩) (by assumption) ?_
    rotate_left
    · intro w' hSw; (try dsimp only at hSw); go_simp; (try with_reducible rfl)
    try simp only [Act.put, List.setIfInBounds_toArray, List.set_cons_zero, List.set_cons_succ]
    refine wpAnyH_ready (rs := [8]) (by kernel_rfl) (by simp) ?_
    refine AllReadyH.cons (o := ⟨_, _, _, _, _, _⟩) rfl (fun K9 hK9 => ?_) AllReadyH.nil
    go_simp
    refine hK9.out _ _ (HS.out _ (put3 E1.out)) (fun hHeld => ?_)
    clear hK9 K9
    try simp only [Act.put, List.setIfInBounds_toArray, List.set_cons_zero, List.set_cons_succ]
    refine wpAnyH_take (i := 9) (oi := ⟨_, _, _, _, _, _⟩) (v := ?_) rfl (by kernel_rfl) (by kernel_rfl) (by kernel_rfl) (fun _ _ _ h => h) (Or.inl ⟨by rfl, ?_⟩) (by assumption) ?_
    rotate_left
    · intro w' hSw; (try dsimp only at hSw); go_simp; (try with_reducible rfl)
    try simp only [Act.put, List.setIfInBounds_toArray, List.set_cons_zero, List.set_cons_succ]
    refine wpAnyH_done (by kernel_rfl) ?_ _
    go_wp2
    exact bodyPost_ret (v := .tuple #[Vl.val (p, q, s), .int .i64 oe]) (by simp [results, Tryz.results52, go_sem, *]) rfl ⟨rfl, put3 E1.out⟩
set_option maxHeartbeats 2000000 in
theorem reck_mod (A : Option Addr) (c : Nat) (x : Int) (l : List Int) (w : World) (hr : RowAt w (Value.int .i64) A (x :: l)) (hk : ∀ n ∈ x :: l, okI n) (hl : l.length ≤ 1000000) (hc : (x :: l).length ≤ c) :
    Calls Tryz.prog 52 #[.string ⟨#[109, 111, 100]⟩, .slice A (x :: l).length c] w fun e w' => e = .returned (outW (foldO modO x l)) ∧ Below w.heap.size w w' := by
  have h0 : Hid (Below w.heap.size w (w.alloc (.cells #[.int .i64 0, .int .i64 0, .string ⟨#[]⟩] 26))) := Lib.hid ((Below.refl _ _).alloc (Nat.le_refl _) _)
  obtain ⟨ad, rfl, hx, hlt⟩ := row_head hr
  have HS : Hid (∀ w', Below w.heap.size w w' → (Below w.heap.size w w' ∧ w'.cell? ad = some (.int .i64 x))) := Lib.hid (fun w' h => ⟨h, (h.cell hlt).trans hx⟩)
  have hne : ad.block ≠ w.heap.size := by omega
  by_cases hc1 : c = 1
  · subst hc1
    obtain rfl : l = [] := by
      cases l with
      | nil => rfl
      | cons _ _ => simp at hc
    have M := Lib.hid (fun W (h : Below w.heap.size w W) => foldMod_c x (some ad) 0 [] W (hk x (by simp)) (fun k h => by simp at h) (by simp) (by simp))
    simp only [List.length_nil] at M
    unfold outW at M ⊢
    generalize outV (foldO modO x []) = ov at *
    generalize rE (foldO modO x []) = oe at *
    obtain ⟨p, q, s⟩ := ov
    clear hr hk hx hlt hc
    go_enter Tryz.func52, Tryz.ntmps52
    go_wp2_with fail
    refine wp_region_held_drew (S := (fun w' => Below w.heap.size w w' ∧ w'.cell? ad = some (.int .i64 x))) (by kernel_rfl) (HS.out _ h0.out.drew) (fun hHeld => ?_)
    refine wpAnyH_take (i := 0) (oi := ⟨_, _, _, _, _, _⟩) (v := ?_) rfl (by kernel_rfl) (by kernel_rfl) (by kernel_rfl) (fun _ _ _ h => h) (Or.inl ⟨by rfl, ?_⟩) (by assumption) ?_
    rotate_left
    · intro w' hSw; (try dsimp only at hSw); go_simp; (try with_reducible rfl)
    try simp only [Act.put, List.setIfInBounds_toArray, List.set_cons_zero, List.set_cons_succ]
    refine wpAnyH_take (i := 1) (oi := ⟨_, _, _, _, _, _⟩) (v := ?_) rfl (by kernel_rfl) (by kernel_rfl) (by kernel_rfl) (fun _ _ _ h => h) (Or.inl ⟨by rfl, ?_⟩) (by assumption) ?_
    rotate_left
    · intro w' hSw; (try dsimp only at hSw); go_simp; (try with_reducible rfl)
    try simp only [Act.put, List.setIfInBounds_toArray, List.set_cons_zero, List.set_cons_succ]
    refine wpAnyH_take (i := 2) (oi := ⟨_, _, _, _, _, _⟩) (v := ?_) rfl (by kernel_rfl) (by kernel_rfl) (by kernel_rfl) (fun _ _ _ h => h) (Or.inl ⟨by rfl, ?_⟩) (by assumption) ?_
    rotate_left
    · intro w' hSw; (try dsimp only at hSw); go_simp; (try with_reducible rfl)
    try simp only [Act.put, List.setIfInBounds_toArray, List.set_cons_zero, List.set_cons_succ]
    refine wpAnyH_take (i := 3) (oi := ⟨_, _, _, _, _, _⟩) (v := ?_) rfl (by kernel_rfl) (by kernel_rfl) (by kernel_rfl) (fun _ _ _ h => h) (Or.inl ⟨by rfl, ?_⟩) (by assumption) ?_
    rotate_left
    · intro w' hSw; (try dsimp only at hSw); go_simp; (try with_reducible rfl)
    try simp only [Act.put, List.setIfInBounds_toArray, List.set_cons_zero, List.set_cons_succ]
    refine wpAnyH_take (i := 4) (oi := ⟨_, _, _, _, _, _⟩) (v := ?_) rfl (by kernel_rfl) (by kernel_rfl) (by kernel_rfl) (fun _ _ _ h => h) (Or.inl ⟨by rfl, ?_⟩) (by assumption) ?_
    rotate_left
    · intro w' hSw; (try dsimp only at hSw); go_simp; (try with_reducible rfl)
    try simp only [Act.put, List.setIfInBounds_toArray, List.set_cons_zero, List.set_cons_succ]
    refine wpAnyH_ready (rs := [5]) (by kernel_rfl) (by simp) ?_
    refine AllReadyH.cons (o := ⟨_, _, _, _, _, _⟩) rfl (fun K9 hK9 => ?_) AllReadyH.nil
    go_simp
    (with_reducible refine ((M.out _ hHeld.1)).mono ?_)
    rintro e w1 ⟨rfl, b1⟩
    have hblk := new3g (W := (w.alloc (.cells #[.int .i64 0, .int .i64 0, .string ⟨#[]⟩] 26)).drew) (heap_alloc_new w _) b1
    obtain ⟨⟨_, _, _⟩, ⟨_, _, _⟩⟩ := hblk
    have E1 := Lib.hid (hHeld.1.trans (b1.mono hHeld.1.size))
    clear b1
    go_wp2_with fail
    refine hK9.out _ _ (HS.out _ E1.out) (fun hHeld => ?_)
    clear hK9 K9
    try simp only [Act.put, List.setIfInBounds_toArray, List.set_cons_zero, List.set_cons_succ]
    refine wpAnyH_take (i := 6) (oi := ⟨_, _, _, _, _, _⟩) (v := ?_) rfl (by kernel_rfl) (by kernel_rfl) (by kernel_rfl) (fun _ _ _ h => h) (Or.inl ⟨by rfl, ?_⟩) (by assumption) ?_
    rotate_left
    · intro w' hSw; (try dsimp only at hSw); go_simp; (try with_reducible rfl)
    try simp only [Act.put, List.setIfInBounds_toArray, List.set_cons_zero, List.set_cons_succ]
    refine wpAnyH_take (i := 7) (oi := ⟨_, _, _, _, _, _⟩) (v := ?_) rfl (by kernel_rfl) (by kernel_rfl) (by kernel_rfl) (fun _ _ _ h => h) (Or.inl ⟨by rfl, ?_⟩) (by assumption) ?_
    rotate_left
    · intro w' hSw; (try dsimp only at hSw); go_simp; (try with_reducible rfl)
    try simp only [Act.put, List.setIfInBounds_toArray, List.set_cons_zero, List.set_cons_succ]
    refine wpAnyH_ready (rs := [8]) (by kernel_rfl) (by simp) ?_
    refine AllReadyH.cons (o := ⟨_, _, _, _, _, _⟩) rfl (fun K9 hK9 => ?_) AllReadyH.nil
    go_simp
    refine hK9.out _ _ (HS.out _ (put3 E1.out)) (fun hHeld => ?_)
    clear hK9 K9
    try simp only [Act.put, List.setIfInBounds_toArray, List.set_cons_zero, List.set_cons_succ]
    refine wpAnyH_take (i := 9) (oi := ⟨_, _, _, _, _, _⟩) (v := ?_) rfl (by kernel_rfl) (by kernel_rfl) (by kernel_rfl) (fun _ _ _ h => h) (Or.inl ⟨by rfl, ?_⟩) (by assumption) ?_
    rotate_left
    · intro w' hSw; (try dsimp only at hSw); go_simp; (try with_reducible rfl)
    try simp only [Act.put, List.setIfInBounds_toArray, List.set_cons_zero, List.set_cons_succ]
    refine wpAnyH_done (by kernel_rfl) ?_ _
    go_wp2
    exact bodyPost_ret (v := .tuple #[Vl.val (p, q, s), .int .i64 oe]) (by simp [results, Tryz.results52, go_sem, *]) rfl ⟨rfl, put3 E1.out⟩
  · have hc2 : 1 < c := by simp at hc; omega
    have M := Lib.hid (fun W (h : Below w.heap.size w W) => foldMod_c x (some ⟨ad.block, ad.off + 1, none⟩) (c - 1) l W (hk x (by simp)) (rowAt_tail (hr.below h)) (fun n hn => hk n (List.mem_cons_of_mem _ hn)) hl)
    unfold outW at M ⊢
    generalize outV (foldO modO x l) = ov at *
    generalize rE (foldO modO x l) = oe at *
    obtain ⟨p, q, s⟩ := ov
    obtain ⟨n, hn⟩ : ∃ n, n = l.length := ⟨_, rfl⟩
    have e1 : (x :: l).length = n + 1 := by simp [hn]
    rw [e1] at hc ⊢
    rw [← hn] at M
    have hnI : (n : Int) ≤ 1000000 := by omega
    have hcI : (n : Int) + 1 ≤ (c : Int) := by omega
    have hcJ : (1 : Int) < (c : Int) := by omega
    have hn1 : (1 : Int) ≤ (n : Int) + 1 := by omega
    clear hr hk hx hlt hc hn e1 hl
    go_enter Tryz.func52, Tryz.ntmps52
    go_wp2_with fail
    refine wp_region_held_drew (S := (fun w' => Below w.heap.size w w' ∧ w'.cell? ad = some (.int .i64 x))) (by kernel_rfl) (HS.out _ h0.out.drew) (fun hHeld => ?_)
    refine wpAnyH_take (i := 0) (oi := ⟨_, _, _, _, _, _⟩) (v := ?_) rfl (by kernel_rfl) (by kernel_rfl) (by kernel_rfl) (fun _ _ _ h => h) (Or.inl ⟨by rfl, ?_⟩) (by assumption) ?_
    rotate_left
    · intro w' hSw; (try dsimp only at hSw); go_simp; (try with_reducible rfl)
    try simp only [Act.put, List.setIfInBounds_toArray, List.set_cons_zero, List.set_cons_succ]
    refine wpAnyH_take (i := 1) (oi := ⟨_, _, _, _, _, _⟩) (v := ?_) rfl (by kernel_rfl) (by kernel_rfl) (by kernel_rfl) (fun _ _ _ h => h) (Or.inl ⟨by rfl, ?_⟩) (by assumption) ?_
    rotate_left
    · intro w' hSw; (try dsimp only at hSw); go_simp; (try with_reducible rfl)
    try simp only [Act.put, List.setIfInBounds_toArray, List.set_cons_zero, List.set_cons_succ]
    refine wpAnyH_take (i := 2) (oi := ⟨_, _, _, _, _, _⟩) (v := ?_) rfl (by kernel_rfl) (by kernel_rfl) (by kernel_rfl) (fun _ _ _ h => h) (Or.inl ⟨by rfl, ?_⟩) (by assumption) ?_
    rotate_left
    · intro w' hSw; (try dsimp only at hSw); go_simp; (try with_reducible rfl)
    try simp only [Act.put, List.setIfInBounds_toArray, List.set_cons_zero, List.set_cons_succ]
    refine wpAnyH_take (i := 3) (oi := ⟨_, _, _, _, _, _⟩) (v := ?_) rfl (by kernel_rfl) (by kernel_rfl) (by kernel_rfl) (fun _ _ _ h => h) (Or.inl ⟨by rfl, ?_⟩) (by assumption) ?_
    rotate_left
    · intro w' hSw; (try dsimp only at hSw); go_simp; (try with_reducible rfl)
    try simp only [Act.put, List.setIfInBounds_toArray, List.set_cons_zero, List.set_cons_succ]
    refine wpAnyH_take (i := 4) (oi := ⟨_, _, _, _, _, _⟩) (v := ?_) rfl (by kernel_rfl) (by kernel_rfl) (by kernel_rfl) (fun _ _ _ h => h) (Or.inl ⟨by rfl, ?_⟩) (by assumption) ?_
    rotate_left
    · intro w' hSw; (try dsimp only at hSw); go_simp; (try with_reducible rfl)
    try simp only [Act.put, List.setIfInBounds_toArray, List.set_cons_zero, List.set_cons_succ]
    refine wpAnyH_ready (rs := [5]) (by kernel_rfl) (by simp) ?_
    refine AllReadyH.cons (o := ⟨_, _, _, _, _, _⟩) rfl (fun K9 hK9 => ?_) AllReadyH.nil
    go_simp
    (with_reducible refine ((M.out _ hHeld.1)).mono ?_)
    rintro e w1 ⟨rfl, b1⟩
    have hblk := new3g (W := (w.alloc (.cells #[.int .i64 0, .int .i64 0, .string ⟨#[]⟩] 26)).drew) (heap_alloc_new w _) b1
    obtain ⟨⟨_, _, _⟩, ⟨_, _, _⟩⟩ := hblk
    have E1 := Lib.hid (hHeld.1.trans (b1.mono hHeld.1.size))
    clear b1
    go_wp2_with fail
    refine hK9.out _ _ (HS.out _ E1.out) (fun hHeld => ?_)
    clear hK9 K9
    try simp only [Act.put, List.setIfInBounds_toArray, List.set_cons_zero, List.set_cons_succ]
    refine wpAnyH_take (i := 6) (oi := ⟨_, _, _, _, _, _⟩) (v := ?_) rfl (by kernel_rfl) (by kernel_rfl) (by kernel_rfl) (fun _ _ _ h => h) (Or.inl ⟨by rfl, ?_⟩) (by assumption) ?_
    rotate_left
    · intro w' hSw; (try dsimp only at hSw); go_simp; (try with_reducible rfl)
    try simp only [Act.put, List.setIfInBounds_toArray, List.set_cons_zero, List.set_cons_succ]
    refine wpAnyH_take (i := 7) (oi := ⟨_, _, _, _, _, _⟩) (v := ?_) rfl (by kernel_rfl) (by kernel_rfl) (by kernel_rfl) (fun _ _ _ h => h) (Or.inl ⟨by rfl, ?_⟩) (by assumption) ?_
    rotate_left
    · intro w' hSw; (try dsimp only at hSw); go_simp; (try with_reducible rfl)
    try simp only [Act.put, List.setIfInBounds_toArray, List.set_cons_zero, List.set_cons_succ]
    refine wpAnyH_ready (rs := [8]) (by kernel_rfl) (by simp) ?_
    refine AllReadyH.cons (o := ⟨_, _, _, _, _, _⟩) rfl (fun K9 hK9 => ?_) AllReadyH.nil
    go_simp
    refine hK9.out _ _ (HS.out _ (put3 E1.out)) (fun hHeld => ?_)
    clear hK9 K9
    try simp only [Act.put, List.setIfInBounds_toArray, List.set_cons_zero, List.set_cons_succ]
    refine wpAnyH_take (i := 9) (oi := ⟨_, _, _, _, _, _⟩) (v := ?_) rfl (by kernel_rfl) (by kernel_rfl) (by kernel_rfl) (fun _ _ _ h => h) (Or.inl ⟨by rfl, ?_⟩) (by assumption) ?_
    rotate_left
    · intro w' hSw; (try dsimp only at hSw); go_simp; (try with_reducible rfl)
    try simp only [Act.put, List.setIfInBounds_toArray, List.set_cons_zero, List.set_cons_succ]
    refine wpAnyH_done (by kernel_rfl) ?_ _
    go_wp2
    exact bodyPost_ret (v := .tuple #[Vl.val (p, q, s), .int .i64 oe]) (by simp [results, Tryz.results52, go_sem, *]) rfl ⟨rfl, put3 E1.out⟩
set_option maxHeartbeats 2000000 in
theorem reck_sub2 (A : Option Addr) (c : Nat) (x : Int) (l : List Int) (w : World) (hr : RowAt w (Value.int .i64) A (x :: l)) (hk : ∀ n ∈ x :: l, okI n) (hl : l.length ≤ 1000000) (hc : (x :: l).length ≤ c) (h2 : 1 ≤ l.length) :
    Calls Tryz.prog 52 #[.string ⟨#[45]⟩, .slice A (x :: l).length c] w fun e w' => e = .returned (outW (foldO subO x l)) ∧ Below w.heap.size w w' := by
  have h0 : Hid (Below w.heap.size w (w.alloc (.cells #[.int .i64 0, .int .i64 0, .string ⟨#[]⟩] 26))) := Lib.hid ((Below.refl _ _).alloc (Nat.le_refl _) _)
  obtain ⟨ad, rfl, hx, hlt⟩ := row_head hr
  have HS : Hid (∀ w', Below w.heap.size w w' → (Below w.heap.size w w' ∧ w'.cell? ad = some (.int .i64 x))) := Lib.hid (fun w' h => ⟨h, (h.cell hlt).trans hx⟩)
  have hne : ad.block ≠ w.heap.size := by omega
  by_cases hc1 : c = 1
  · subst hc1
    obtain rfl : l = [] := by
      cases l with
      | nil => rfl
      | cons _ _ => simp at hc
    exact absurd h2 (by simp)
  · have hc2 : 1 < c := by simp at hc; omega
    have M := Lib.hid (fun W (h : Below w.heap.size w W) => foldSub_c x (some ⟨ad.block, ad.off + 1, none⟩) (c - 1) l W (hk x (by simp)) (rowAt_tail (hr.below h)) (fun n hn => hk n (List.mem_cons_of_mem _ hn)) hl)
    unfold outW at M ⊢
    generalize outV (foldO subO x l) = ov at *
    generalize rE (foldO subO x l) = oe at *
    obtain ⟨p, q, s⟩ := ov
    obtain ⟨n, hn⟩ : ∃ n, n = l.length := ⟨_, rfl⟩
    have e1 : (x :: l).length = n + 1 := by simp [hn]
    rw [e1] at hc ⊢
    rw [← hn] at M
    have hnI : (n : Int) ≤ 1000000 := by omega
    have hcI : (n : Int) + 1 ≤ (c : Int) := by omega
    have hcJ : (1 : Int) < (c : Int) := by omega
    have hn1 : (1 : Int) ≤ (n : Int) + 1 := by omega
    have h2I : (1 : Int) < (n : Int) + 1 := by omega
    clear h2
    clear hr hk hx hlt hc hn e1 hl
    go_enter Tryz.func52, Tryz.ntmps52
    go_wp2_with fail
    refine wp_region_held_drew (S := (fun w' => Below w.heap.size w w' ∧ w'.cell? ad = some (.int .i64 x))) (by kernel_rfl) (HS.out _ h0.out.drew) (fun hHeld => ?_)
    refine wpAnyH_take (i := 0) (oi := ⟨_, _, _, _, _, _⟩) (v := ?_) rfl (by kernel_rfl) (by kernel_rfl) (by kernel_rfl) (fun _ _ _ h => h) (Or.inl ⟨by rfl, ?_⟩) (by assumption) ?_
    rotate_left
    · intro w' hSw; (try dsimp only at hSw); go_simp; (try with_reducible rfl)
    try simp only [Act.put, List.setIfInBounds_toArray, List.set_cons_zero, List.set_cons_succ]
    refine wpAnyH_take (i := 1) (oi := ⟨_, _, _, _, _, _⟩) (v := ?_) rfl (by kernel_rfl) (by kernel_rfl) (by kernel_rfl) (fun _ _ _ h => h) (Or.inl ⟨by rfl, ?_⟩) (by assumption) ?_
    rotate_left
    · intro w' hSw; (try dsimp only at hSw); go_simp; (try with_reducible rfl)
    try simp only [Act.put, List.setIfInBounds_toArray, List.set_cons_zero, List.set_cons_succ]
    refine wpAnyH_take (i := 2) (oi := ⟨_, _, _, _, _, _⟩) (v := ?_) rfl (by kernel_rfl) (by kernel_rfl) (by kernel_rfl) (fun _ _ _ h => h) (Or.inl ⟨by rfl, ?_⟩) (by assumption) ?_
    rotate_left
    · intro w' hSw; (try dsimp only at hSw); go_simp; (try with_reducible rfl)
    try simp only [Act.put, List.setIfInBounds_toArray, List.set_cons_zero, List.set_cons_succ]
    refine wpAnyH_take (i := 3) (oi := ⟨_, _, _, _, _, _⟩) (v := ?_) rfl (by kernel_rfl) (by kernel_rfl) (by kernel_rfl) (fun _ _ _ h => h) (Or.inl ⟨by rfl, ?_⟩) (by assumption) ?_
    rotate_left
    · intro w' hSw; (try dsimp only at hSw); go_simp; (try with_reducible rfl)
    try simp only [Act.put, List.setIfInBounds_toArray, List.set_cons_zero, List.set_cons_succ]
    refine wpAnyH_take (i := 4) (oi := ⟨_, _, _, _, _, _⟩) (v := ?_) rfl (by kernel_rfl) (by kernel_rfl) (by kernel_rfl) (fun _ _ _ h => h) (Or.inl ⟨by rfl, ?_⟩) (by assumption) ?_
    rotate_left
    · intro w' hSw; (try dsimp only at hSw); go_simp; (try with_reducible rfl)
    try simp only [Act.put, List.setIfInBounds_toArray, List.set_cons_zero, List.set_cons_succ]
    refine wpAnyH_ready (rs := [5]) (by kernel_rfl) (by simp) ?_
    refine AllReadyH.cons (o := ⟨_, _, _, _, _, _⟩) rfl (fun K9 hK9 => ?_) AllReadyH.nil
    go_simp
    (with_reducible refine ((M.out _ hHeld.1)).mono ?_)
    rintro e w1 ⟨rfl, b1⟩
    have hblk := new3g (W := (w.alloc (.cells #[.int .i64 0, .int .i64 0, .string ⟨#[]⟩] 26)).drew) (heap_alloc_new w _) b1
    obtain ⟨⟨_, _, _⟩, ⟨_, _, _⟩⟩ := hblk
    have E1 := Lib.hid (hHeld.1.trans (b1.mono hHeld.1.size))
    clear b1
    go_wp2_with fail
    refine hK9.out _ _ (HS.out _ E1.out) (fun hHeld => ?_)
    clear hK9 K9
    try simp only [Act.put, List.setIfInBounds_toArray, List.set_cons_zero, List.set_cons_succ]
    refine wpAnyH_take (i := 6) (oi := ⟨_, _, _, _, _, _⟩) (v := ?_) rfl (by kernel_rfl) (by kernel_rfl) (by kernel_rfl) (fun _ _ _ h => h) (Or.inl ⟨by rfl, ?_⟩) (by assumption) ?_
    rotate_left
    · intro w' hSw; (try dsimp only at hSw); go_simp; (try with_reducible rfl)
    try simp only [Act.put, List.setIfInBounds_toArray, List.set_cons_zero, List.set_cons_succ]
    refine wpAnyH_take (i := 7) (oi := ⟨_, _, _, _, _, _⟩) (v := ?_) rfl (by kernel_rfl) (by kernel_rfl) (by kernel_rfl) (fun _ _ _ h => h) (Or.inl ⟨by rfl, ?_⟩) (by assumption) ?_
    rotate_left
    · intro w' hSw; (try dsimp only at hSw); go_simp; (try with_reducible rfl)
    try simp only [Act.put, List.setIfInBounds_toArray, List.set_cons_zero, List.set_cons_succ]
    refine wpAnyH_ready (rs := [8]) (by kernel_rfl) (by simp) ?_
    refine AllReadyH.cons (o := ⟨_, _, _, _, _, _⟩) rfl (fun K9 hK9 => ?_) AllReadyH.nil
    go_simp
    refine hK9.out _ _ (HS.out _ (put3 E1.out)) (fun hHeld => ?_)
    clear hK9 K9
    try simp only [Act.put, List.setIfInBounds_toArray, List.set_cons_zero, List.set_cons_succ]
    refine wpAnyH_take (i := 9) (oi := ⟨_, _, _, _, _, _⟩) (v := ?_) rfl (by kernel_rfl) (by kernel_rfl) (by kernel_rfl) (fun _ _ _ h => h) (Or.inl ⟨by rfl, ?_⟩) (by assumption) ?_
    rotate_left
    · intro w' hSw; (try dsimp only at hSw); go_simp; (try with_reducible rfl)
    try simp only [Act.put, List.setIfInBounds_toArray, List.set_cons_zero, List.set_cons_succ]
    refine wpAnyH_done (by kernel_rfl) ?_ _
    go_wp2
    exact bodyPost_ret (v := .tuple #[Vl.val (p, q, s), .int .i64 oe]) (by simp [results, Tryz.results52, go_sem, *]) rfl ⟨rfl, put3 E1.out⟩
theorem reck_min (A : Option Addr) (c : Nat) (x : Int) (l : List Int) (w : World) (hr : RowAt w (Value.int .i64) A (x :: l)) (hl : l.length ≤ 1000000) :
    Calls Tryz.prog 52 #[.string ⟨#[109, 105, 110]⟩, .slice A (x :: l).length c] w fun e w' => e = .returned (.tuple #[Vl.val (vI (minL x l)), .int .i64 0]) ∧ Below w.heap.size w w' := by
  have h0 : Hid (Below w.heap.size w (w.alloc (.cells #[.int .i64 0, .int .i64 0, .string ⟨#[]⟩] 26))) := Lib.hid ((Below.refl _ _).alloc (Nat.le_refl _) _)
  have M := Lib.hid (fun W (h : Below w.heap.size w W) => min_c x l A c W (hr.below h) hl)
  generalize minL x l = y at *
  generalize (x :: l).length = n at *
  clear hr hl
  go_enter Tryz.func52, Tryz.ntmps52
  go_wp2_with fail
  refine (M.out _ h0.out).mono ?_
  rintro e w1 ⟨rfl, rfl⟩
  go_wp2_with fail
  refine (ofInt_c y _).mono ?_
  rintro e w1 ⟨rfl, b1⟩
  obtain ⟨⟨_, _, _⟩, ⟨_, _, _⟩⟩ := new3g (heap_alloc_new w _) b1
  have E1 := Lib.hid (bel_new b1); clear b1
  go_wp2_with fail
  exact bodyPost_ret (v := .tuple #[Vl.val (vI y), .int .i64 0]) (by simp [results, Tryz.results52, go_sem, *]) rfl ⟨rfl, put3 E1.out⟩
theorem reck_max (A : Option Addr) (c : Nat) (x : Int) (l : List Int) (w : World) (hr : RowAt w (Value.int .i64) A (x :: l)) (hl : l.length ≤ 1000000) :
    Calls Tryz.prog 52 #[.string ⟨#[109, 97, 120]⟩, .slice A (x :: l).length c] w fun e w' => e = .returned (.tuple #[Vl.val (vI (maxL x l)), .int .i64 0]) ∧ Below w.heap.size w w' := by
  have h0 : Hid (Below w.heap.size w (w.alloc (.cells #[.int .i64 0, .int .i64 0, .string ⟨#[]⟩] 26))) := Lib.hid ((Below.refl _ _).alloc (Nat.le_refl _) _)
  have M := Lib.hid (fun W (h : Below w.heap.size w W) => max_c x l A c W (hr.below h) hl)
  generalize maxL x l = y at *
  generalize (x :: l).length = n at *
  clear hr hl
  go_enter Tryz.func52, Tryz.ntmps52
  go_wp2_with fail
  refine (M.out _ h0.out).mono ?_
  rintro e w1 ⟨rfl, rfl⟩
  go_wp2_with fail
  refine (ofInt_c y _).mono ?_
  rintro e w1 ⟨rfl, b1⟩
  obtain ⟨⟨_, _, _⟩, ⟨_, _, _⟩⟩ := new3g (heap_alloc_new w _) b1
  have E1 := Lib.hid (bel_new b1); clear b1
  go_wp2_with fail
  exact bodyPost_ret (v := .tuple #[Vl.val (vI y), .int .i64 0]) (by simp [results, Tryz.results52, go_sem, *]) rfl ⟨rfl, put3 E1.out⟩
theorem reck_abs1 (A : Option Addr) (c : Nat) (x : Int) (w : World) (hr : RowAt w (Value.int .i64) A [x]) (h0x : 0 ≤ x) :
    Calls Tryz.prog 52 #[.string ⟨#[97, 98, 115]⟩, .slice A 1 c] w fun e w' => e = .returned (.tuple #[Vl.val (vI x), .int .i64 0]) ∧ Below w.heap.size w w' := by
  have h0 : Hid (Below w.heap.size w (w.alloc (.cells #[.int .i64 0, .int .i64 0, .string ⟨#[]⟩] 26))) := Lib.hid ((Below.refl _ _).alloc (Nat.le_refl _) _)
  obtain ⟨ad, rfl, hx, hlt⟩ := row_head hr
  have hx2 := (h0.out.cell hlt).trans hx
  clear hr
  go_enter Tryz.func52, Tryz.ntmps52
  go_wp2_with fail
  refine (ofInt_c x _).mono ?_
  rintro e w1 ⟨rfl, b1⟩
  obtain ⟨⟨_, _, _⟩, ⟨_, _, _⟩⟩ := new3g (heap_alloc_new w _) b1
  have E1 := Lib.hid (bel_new b1); clear b1
  go_wp2_with fail
  exact bodyPost_ret (v := .tuple #[Vl.val (vI x), .int .i64 0]) (by simp [results, Tryz.results52, go_sem, *]) rfl ⟨rfl, put3 E1.out⟩
theorem reck_abs2 (A : Option Addr) (c : Nat) (x : Int) (w : World) (hr : RowAt w (Value.int .i64) A [x]) (hk : okI x) (h0x : x < 0) :
    Calls Tryz.prog 52 #[.string ⟨#[97, 98, 115]⟩, .slice A 1 c] w fun e w' => e = .returned (outW (foldO subO 0 [x])) ∧ Below w.heap.size w w' := by
  have h0 : Hid (Below w.heap.size w (w.alloc (.cells #[.int .i64 0, .int .i64 0, .string ⟨#[]⟩] 26))) := Lib.hid ((Below.refl _ _).alloc (Nat.le_refl _) _)
  have M := Lib.hid (fun W (h : Below w.heap.size w W) => foldSub_c 0 A c [x] W (by unfold okI; omega) (hr.below h) (fun n hn => by rw [List.mem_singleton.1 hn]; exact hk) (by simp))
  obtain ⟨ad, rfl, hx, hlt⟩ := row_head hr
  have hx2 := (h0.out.cell hlt).trans hx
  rw [show [x].length = 1 from rfl] at M
  unfold outW at M ⊢
  generalize outV (foldO subO 0 [x]) = ov at *
  generalize rE (foldO subO 0 [x]) = oe at *
  obtain ⟨p, q, s⟩ := ov
  clear hr hk
  go_enter Tryz.func52, Tryz.ntmps52
  go_wp2_with fail
  refine (M.out _ h0.out).mono ?_
  rintro e w1 ⟨rfl, b1⟩
  obtain ⟨⟨_, _, _⟩, ⟨_, _, _⟩⟩ := new3g (heap_alloc_new w _) b1
  have E1 := Lib.hid (bel_new b1); clear b1
  go_wp2_with fail
  exact bodyPost_ret (v := .tuple #[Vl.val (p, q, s), .int .i64 oe]) (by simp [results, Tryz.results52, go_sem, *]) rfl ⟨rfl, put3 E1.out⟩
end Go.Proofs.YtmadnehipagakaaGreatDoor
