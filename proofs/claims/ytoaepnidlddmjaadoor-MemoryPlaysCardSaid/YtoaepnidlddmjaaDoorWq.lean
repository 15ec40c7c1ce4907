/- MemoryKinds. -/
import Derived.Test.YtoaepnidlddmjaaDoorWp
import Derived.Test.YtoaepnidlddmjaaDoorSl
import Derived.IntWalk
namespace Go.Proofs.YtoaepnidlddmjaaDoor
open Go.RowKit Go.Lib KP MR RW
/-- The three names. -/
def nmOf (x : Int) : ByteArray := if x % 3 = 0 then ⟨#[112]⟩ else if x % 3 = 1 then ⟨#[113]⟩ else ⟨#[114]⟩
theorem nm_cell {W : World} {nb : Nat} {fr : Nat × Nat} {T : TypeId} (h : W.heap[nb]? = some (.cells #[.string ⟨#[112]⟩, .string ⟨#[113]⟩, .string ⟨#[114]⟩] T fr)) (x : Int) : W.cell? ⟨nb, (x % 3).toNat, none⟩ = some (.string (nmOf x)) := by
  refine block_cell h ?_
  unfold nmOf
  have : x % 3 = 0 ∨ x % 3 = 1 ∨ x % 3 = 2 := by omega
  rcases this with e | e | e <;> rw [e] <;> rfl
theorem nm_size {x : Int} {nm : ByteArray} (h : nmOf x = nm) : nm.size ≤ 100000 := by
  rw [← h]
  unfold nmOf
  split
  · decide
  · split <;> decide
theorem assertI_any {B : Nat} {F : Nat → Prop} {g : Nat} {T : List Ft} {nx : Int} {w0 W : World} (t : ByteArray) (ht : t.size ≤ 100000) (n : Int) (hn : okI n) (hl : T.length < 1000) (hnx : nx < 1000000000) (hI : Inv B w0 F g T nx W) (htab : Tab W) :
    Calls Tryd.prog 9 #[.pointer (some ⟨g, 0, none⟩), .string t, .slice (some ⟨W.heap.size, 0, none⟩) 1 1] (W.alloc (.cells #[.int .i64 1, .int .i64 n, .string ⟨#[]⟩] 29)) fun e w' => ∃ a b c F' T' nx', e = .returned (.tuple #[a, b, c]) ∧ Inv B w0 F' g T' nx' w' ∧ Keep F W w' ∧ (∀ k, F' k → F k ∨ W.heap.size ≤ k) ∧ T'.length ≤ T.length + 1 ∧ nx' ≤ nx + 1 ∧ ∀ f ∈ T', f ∈ T ∨ f.2.1 = t := by
  cases hf : findO T t [vI n] with
  | none =>
    refine (assertI_new t ht n hn hf hl hnx hI htab).mono ?_
    rintro e w' ⟨F', rfl, h1, h2, h3⟩
    exact ⟨_, _, _, F', _, _, rfl, h1, h2, h3, by simp, Int.le_refl _, fun f hf => by
      rcases List.mem_append.1 hf with h | h
      · exact .inl h
      · rw [List.mem_singleton.1 h]; exact .inr rfl⟩
  | some id =>
    refine (assertI_old t ht n hn id hf hI htab).mono ?_
    rintro e w' ⟨rfl, h1, h2⟩
    exact ⟨_, _, _, F, _, _, rfl, h1, Keep.of_below h2 F, fun k hk => .inl hk, by omega, by omega, fun f hf => .inl hf⟩
theorem all_y {B : Nat} {F : Nat → Prop} {g : Nat} {T : List Ft} {nx : Int} {w0 W : World} (h : Inv B w0 F g T nx W) : Calls Tryd.prog 14 #[.pointer (some ⟨g, 0, none⟩)] W fun e w' => ∃ (A : Option Addr) (ys : List Fs), e = .returned (.slice A ys.length ys.length) ∧ ys.map (fun y : Fs => y.1) = T ∧ OwnW w' W.heap.size 55 3 (.slice A ys.length ys.length) ys.length (ys.flatMap fsc) ∧ (∀ y ∈ ys, FreshV W.heap.size w' y) ∧ Below W.heap.size W w' := by
  refine (all_c h).mono ?_
  rintro e w' ⟨A, ys, rfl, h1, h2, h3, h4⟩
  have hl : T.length = ys.length := by rw [← h1, List.length_map]
  rw [hl] at h2
  exact ⟨A, ys, by rw [hl], h1, h2, h3, h4⟩
theorem of_y (s : ByteArray) {B : Nat} {F : Nat → Prop} {g : Nat} {T : List Ft} {nx : Int} {w0 W : World} (h : Inv B w0 F g T nx W) : Calls Tryd.prog 16 #[.pointer (some ⟨g, 0, none⟩), .string s] W fun e w' => ∃ (A : Option Addr) (ys : List Fs), e = .returned (.slice A ys.length ys.length) ∧ ys.map (fun y : Fs => y.1) = (T.filter fun f => decide (f.2.1 = s)) ∧ OwnW w' W.heap.size 55 3 (.slice A ys.length ys.length) ys.length (ys.flatMap fsc) ∧ (∀ y ∈ ys, FreshV W.heap.size w' y) ∧ Below W.heap.size W w' := by
  refine (of_c s h).mono ?_
  rintro e w' ⟨A, ys, rfl, h1, h2, h3, h4⟩
  have hl : (T.filter fun f => decide (f.2.1 = s)).length = ys.length := by rw [← h1, List.length_map]
  rw [hl] at h2
  exact ⟨A, ys, by rw [hl], h1, h2, h3, h4⟩
theorem Inv.rise {B : Nat} {F : Nat → Prop} {g : Nat} {T : List Ft} {nx : Int} {w0 W : World} (h : Inv B w0 F g T nx W) : T.Pairwise fun x y => x.1 < y.1 := by
  obtain ⟨m, v, xs, e, hm, _⟩ := h
  have := hm.ris
  unfold Rise at this
  rw [List.pairwise_map] at this
  rw [← e, List.pairwise_map]
  exact this
set_option maxRecDepth 100000 in
set_option maxHeartbeats 4000000 in
theorem kinds_good (A : Option Addr) (c : Nat) (l : List Int) (t : Int) (w : World) (ht : Tab w) (hr : RowAt w (Value.int .u8) A l) (hw : ∀ n ∈ l, 0 ≤ n ∧ n ≤ 255) (hl : l.length ≤ 100) (ht1 : 0 ≤ t) (ht2 : t ≤ 255) : Calls Tryd.prog 4 #[.slice A l.length c, .int .u8 t] w fun e w' => e = .returned (.bool true) ∧ Below w.heap.size w w' := by
  have HT := Lib.hid ht
  have HR := Lib.hid (fun w' (h : Below w.heap.size w w') => hr.below h)
  have HW := Lib.hid hw
  have hlI : (l.length : Int) ≤ 100 := by omega
  clear ht hr hw
  go_enter Tryd.func4, Tryd.ntmps4
  go_wp2_with fail
  refine (known_c w HT.out).mono ?_
  rintro e w1 ⟨rfl, b1⟩
  have E1 := Lib.hid b1; clear b1
  go_wp2_with fail
  refine (new_c w1).mono ?_
  rintro e w2 ⟨g, F2, rfl, i2, _⟩
  have T1 := Lib.hid (HT.out.b E1.out)
  have HNB := Lib.hid (heap_alloc_new w2 (.cells #[.string ⟨#[112]⟩, .string ⟨#[113]⟩, .string ⟨#[114]⟩] 9))
  have I2 := Lib.hid (i2.grow ((Below.refl w2.heap.size w2).alloc (Nat.le_refl _) (.cells #[.string ⟨#[112]⟩, .string ⟨#[113]⟩, .string ⟨#[114]⟩] 9)) i2.size)
  have NF := Lib.hid (show ¬ F2 w2.heap.size from fun h => by have := i2.lt _ h; omega)
  have NB1 := Lib.hid i2.size
  clear i2
  go_wp2_with fail
  generalize hnb : w2.heap.size = nb at *
  clear hnb
  generalize hw3 : w2.alloc (.cells #[.string ⟨#[112]⟩, .string ⟨#[113]⟩, .string ⟨#[114]⟩] 9) = w3 at *
  clear hw3
  go_loopw [7] (fun i wr => ∃ k : Nat, k ≤ l.length ∧ i = .int .i64 k ∧ Hid (∃ F T nx, Inv w1.heap.size w1 F g T nx wr ∧ ¬ F nb ∧ T.length ≤ k ∧ nx ≤ (k : Int) + 1 ∧ ∀ f ∈ T, ∃ x, f.2.1 = nmOf x) ∧ Hid (wr.heap[nb]? = some (.cells #[.string ⟨#[112]⟩, .string ⟨#[113]⟩, .string ⟨#[114]⟩] 9 (0, 0)))) (fun i _ => (l.length - (RowKit.intOf i).toNat))
  case atStart => exact ⟨0, by omega, rfl, Lib.hid ⟨_, _, _, I2.out, NF.out, Nat.le_refl _, Int.le_refl _, fun _ h => by cases h⟩, HNB⟩
  case round =>
    obtain ⟨k, hk, rfl, hI, hN⟩ := hrel
    obtain ⟨F, T, nx, i3, nf, hTl, hnx, hTn⟩ := hI.out
    have I3 := Lib.hid i3
    have NF3 := Lib.hid nf
    have HTN := Lib.hid hTn
    have EW := Lib.hid (E1.out.trans (I3.out.below.mono E1.out.size))
    clear i3 nf hI hTn I2 HNB NF
    by_cases hlt : k < l.length
    · have hkI : (k : Int) < (l.length : Int) := by omega
      obtain ⟨ad, rfl, _, hx⟩ := HR.out _ EW.out k hlt
      obtain ⟨hx1, hx2⟩ := HW.out l[k] (List.getElem_mem hlt)
      have HX := Lib.hid (fun w' (h : Below w.heap.size w w') => (show w'.cell? (ad.add k) = some (.int .u8 l[k]) by obtain ⟨ad', e, _, hq⟩ := HR.out w' h k hlt; obtain rfl := Option.some.inj e; exact hq))
      generalize l[k] = x at *
      have hxc := nm_cell hN.out x
      rw [← Int.tmod_eq_emod_of_nonneg hx1] at hxc
      have HS : Hid (∀ w', Below wr.heap.size wr w' → (fun w' => w'.cell? (ad.add k) = some (.int .u8 x) ∧ w'.cell? ⟨nb, (x.tmod 3).toNat, none⟩ = some (.string (nmOf x))) w') := Lib.hid (fun w' h => ⟨(h.cell (World.block_lt_of_cell? _ _ hx)).trans hx, (h.cell (World.block_lt_of_cell? _ _ hxc)).trans hxc⟩)
      generalize hnm0 : nmOf x = nm at *
      have hnm := Lib.hid hnm0
      clear hnm0
      have D0 : Hid (Below wr.heap.size wr wr.drew) := Lib.hid ⟨rfl, rfl, rfl, Nat.le_refl _, fun _ _ => rfl⟩
      have hxm := Int.tmod_eq_emod_of_nonneg hx1 (b := 3)
      have hx3 : 0 ≤ x.tmod 3 := by rw [hxm]; omega
      have hx4 : x.tmod 3 < 3 := by rw [hxm]; omega
      clear hxm
      have hwr : IntKind.i64.wrap (x / 4) = x / 4 := IntWalk.i64_in _ (by omega)
      clear hx hxc
      go_wp2_with fail
      refine wp_region_held_drew (S := (fun w' => w'.cell? (ad.add k) = some (.int .u8 x) ∧ w'.cell? ⟨nb, (x.tmod 3).toNat, none⟩ = some (.string nm))) (by kernel_rfl) (HS.out _ D0.out) (fun hHeld => ?_)
      refine wpAnyH_take (i := 0) (oi := ⟨_, _, _, _, _, _⟩) (v := ?_) rfl (by kernel_rfl) (by kernel_rfl) (by kernel_rfl) (fun _ _ _ h => h) (Or.inl ⟨by rfl, ?_⟩) (by assumption) ?_
      rotate_left
      · intro w' hSw; (try dsimp only at hSw); go_simp; (try with_reducible rfl)
      try simp only [Act.put, List.setIfInBounds_toArray, List.set_cons_zero, List.set_cons_succ]
      refine wpAnyH_take (i := 1) (oi := ⟨_, _, _, _, _, _⟩) (v := ?_) rfl (by kernel_rfl) (by kernel_rfl) (by kernel_rfl) (fun _ _ _ h => h) (Or.inl ⟨by rfl, ?_⟩) (by assumption) ?_
      rotate_left
      · intro w' hSw; (try dsimp only at hSw); go_simp; (try with_reducible rfl)
      try simp only [Act.put, List.setIfInBounds_toArray, List.set_cons_zero, List.set_cons_succ]
      refine wpAnyH_take (i := 2) (oi := ⟨_, _, _, _, _, _⟩) (v := ?_) rfl (by kernel_rfl) (by kernel_rfl) (by kernel_rfl) (fun _ _ _ h => h) (Or.inl ⟨by rfl, ?_⟩) (by assumption) ?_
      rotate_left
      · intro w' hSw; (try dsimp only at hSw); go_simp; (try with_reducible rfl)
      try simp only [Act.put, List.setIfInBounds_toArray, List.set_cons_zero, List.set_cons_succ]
      refine wpAnyH_take (i := 3) (oi := ⟨_, _, _, _, _, _⟩) (v := ?_) rfl (by kernel_rfl) (by kernel_rfl) (by kernel_rfl) (fun _ _ _ h => h) (Or.inl ⟨by rfl, ?_⟩) (by assumption) ?_
      rotate_left
      · intro w' hSw; (try dsimp only at hSw); go_simp; (try with_reducible rfl)
      try simp only [Act.put, List.setIfInBounds_toArray, List.set_cons_zero, List.set_cons_succ]
      refine wpAnyH_take (i := 4) (oi := ⟨_, _, _, _, _, _⟩) (v := ?_) rfl (by kernel_rfl) (by kernel_rfl) (by kernel_rfl) (fun _ _ _ h => h) (Or.inl ⟨by rfl, ?_⟩) (by assumption) ?_
      rotate_left
      · intro w' hSw; (try dsimp only at hSw); go_simp; (try with_reducible rfl)
      try simp only [Act.put, List.setIfInBounds_toArray, List.set_cons_zero, List.set_cons_succ]
      refine wpAnyH_take (i := 5) (oi := ⟨_, _, _, _, _, _⟩) (v := ?_) rfl (by kernel_rfl) (by kernel_rfl) (by kernel_rfl) (fun _ _ _ h => h) (Or.inl ⟨by rfl, ?_⟩) (by assumption) ?_
      rotate_left
      · intro w' hSw; (try dsimp only at hSw); go_simp; (try with_reducible rfl)
      try simp only [Act.put, List.setIfInBounds_toArray, List.set_cons_zero, List.set_cons_succ]
      refine wpAnyH_take (i := 6) (oi := ⟨_, _, _, _, _, _⟩) (v := ?_) rfl (by kernel_rfl) (by kernel_rfl) (by kernel_rfl) (fun _ _ _ h => h) (Or.inl ⟨by rfl, ?_⟩) (by assumption) ?_
      rotate_left
      · intro w' hSw; (try dsimp only at hSw); go_simp; (try with_reducible rfl)
      try simp only [Act.put, List.setIfInBounds_toArray, List.set_cons_zero, List.set_cons_succ]
      refine wpAnyH_take (i := 7) (oi := ⟨_, _, _, _, _, _⟩) (v := ?_) rfl (by kernel_rfl) (by kernel_rfl) (by kernel_rfl) (fun _ _ _ h => h) (Or.inl ⟨by rfl, ?_⟩) (by assumption) ?_
      rotate_left
      · intro w' hSw; (try dsimp only at hSw); go_simp; (try with_reducible rfl)
      try simp only [Act.put, List.setIfInBounds_toArray, List.set_cons_zero, List.set_cons_succ]
      refine wpAnyH_take (i := 8) (oi := ⟨_, _, _, _, _, _⟩) (v := ?_) rfl (by kernel_rfl) (by kernel_rfl) (by kernel_rfl) (fun _ _ _ h => h) (Or.inl ⟨by rfl, ?_⟩) (by assumption) ?_
      rotate_left
      · intro w' hSw; (try dsimp only at hSw); go_simp; (try with_reducible rfl)
      try simp only [Act.put, List.setIfInBounds_toArray, List.set_cons_zero, List.set_cons_succ]
      refine wpAnyH_take (i := 9) (oi := ⟨_, _, _, _, _, _⟩) (v := ?_) rfl (by kernel_rfl) (by kernel_rfl) (by kernel_rfl) (fun _ _ _ h => h) (Or.inl ⟨by rfl, ?_⟩) (by assumption) ?_
      rotate_left
      · intro w' hSw; (try dsimp only at hSw); go_simp; (try with_reducible rfl)
      try simp only [Act.put, List.setIfInBounds_toArray, List.set_cons_zero, List.set_cons_succ]
      refine wpAnyH_take (i := 10) (oi := ⟨_, _, _, _, _, _⟩) (v := ?_) rfl (by kernel_rfl) (by kernel_rfl) (by kernel_rfl) (fun _ _ _ h => h) (Or.inl ⟨by rfl, ?_⟩) (by assumption) ?_
      rotate_left
      · intro w' hSw; (try dsimp only at hSw); go_simp; (try with_reducible rfl)
      try simp only [Act.put, List.setIfInBounds_toArray, List.set_cons_zero, List.set_cons_succ]
      refine wpAnyH_take (i := 11) (oi := ⟨_, _, _, _, _, _⟩) (v := ?_) rfl (by kernel_rfl) (by kernel_rfl) (by kernel_rfl) (fun _ _ _ h => h) (Or.inl ⟨by rfl, ?_⟩) (by assumption) ?_
      rotate_left
      · intro w' hSw; (try dsimp only at hSw); go_simp; (try with_reducible rfl)
      try simp only [Act.put, List.setIfInBounds_toArray, List.set_cons_zero, List.set_cons_succ]
      refine wpAnyH_take (i := 12) (oi := ⟨_, _, _, _, _, _⟩) (v := ?_) rfl (by kernel_rfl) (by kernel_rfl) (by kernel_rfl) (fun _ _ _ h => h) (Or.inl ⟨by rfl, ?_⟩) (by assumption) ?_
      rotate_left
      · intro w' hSw; (try dsimp only at hSw); go_simp; (try with_reducible rfl)
      try simp only [Act.put, List.setIfInBounds_toArray, List.set_cons_zero, List.set_cons_succ]
      refine wpAnyH_take (i := 13) (oi := ⟨_, _, _, _, _, _⟩) (v := ?_) rfl (by kernel_rfl) (by kernel_rfl) (by kernel_rfl) (fun _ _ _ h => h) (Or.inl ⟨by rfl, ?_⟩) (by assumption) ?_
      rotate_left
      · intro w' hSw; (try dsimp only at hSw); go_simp; (try with_reducible rfl)
      try simp only [Act.put, List.setIfInBounds_toArray, List.set_cons_zero, List.set_cons_succ]
      refine wpAnyH_take (i := 14) (oi := ⟨_, _, _, _, _, _⟩) (v := ?_) rfl (by kernel_rfl) (by kernel_rfl) (by kernel_rfl) (fun _ _ _ h => h) (Or.inl ⟨by rfl, ?_⟩) (by assumption) ?_
      rotate_left
      · intro w' hSw; (try dsimp only at hSw); go_simp; (try with_reducible rfl)
      try simp only [Act.put, List.setIfInBounds_toArray, List.set_cons_zero, List.set_cons_succ]
      refine wpAnyH_ready (rs := [15]) (by kernel_rfl) (by simp) ?_
      refine AllReadyH.cons (o := ⟨_, _, _, _, _, _⟩) rfl (fun K9 hK9 => ?_) AllReadyH.nil
      go_simp
      (with_reducible refine (rInt_c (x / 4) _).mono ?_)
      rintro e w4 ⟨rfl, b4⟩
      have D4 := Lib.hid (D0.out.trans (b4.mono D0.out.size))
      clear b4
      go_wp2_with fail
      refine hK9.out _ _ (HS.out _ D4.out) (fun hHeld => ?_)
      clear hK9 K9
      try simp only [Act.put, List.setIfInBounds_toArray, List.set_cons_zero, List.set_cons_succ]
      refine wpAnyH_ready (rs := [16]) (by kernel_rfl) (by simp) ?_
      refine AllReadyH.cons (o := ⟨_, _, _, _, _, _⟩) rfl (fun K9 hK9 => ?_) AllReadyH.nil
      go_simp
      refine hK9.out _ _ (HS.out _ (D4.out.alloc D4.out.size _)) (fun hHeld => ?_)
      clear hK9 K9
      try simp only [Act.put, List.setIfInBounds_toArray, List.set_cons_zero, List.set_cons_succ]
      refine wpAnyH_ready (rs := [17]) (by kernel_rfl) (by simp) ?_
      refine AllReadyH.cons (o := ⟨_, _, _, _, _, _⟩) rfl (fun K9 hK9 => ?_) AllReadyH.nil
      go_simp
      (with_reducible refine (assertI_any nm (nm_size hnm.out) (x / 4) (okI_small (by omega)) (by omega) (by omega) (I3.out.grow D4.out I3.out.size) ((I3.out.grow D4.out I3.out.size).tab T1.out)).mono ?_)
      rintro e w5 ⟨a5, b5, c5, F5, T5, nx5, rfl, i5, k5, f5, l5, n5, t5⟩
      have I5 := Lib.hid i5
      have EW5 := Lib.hid (E1.out.trans (i5.below.mono E1.out.size))
      have K5 := Lib.hid ((Keep.of_below D4.out F).trans k5 (fun k hk => .inl hk))
      have N5 := Lib.hid ((K5.out.block nb (Array.getElem?_eq_some_iff.1 hN.out).1 NF3.out).trans hN.out)
      have HN5 : Hid (w5.cell? ⟨nb, (x.tmod 3).toNat, none⟩ = some (.string (nmOf x)) ∧ nm = nmOf x) := Lib.hid ⟨by have := nm_cell N5.out x; rwa [← Int.tmod_eq_emod_of_nonneg hx1] at this, hnm.out.symm⟩
      have NF5 := Lib.hid (show ¬ F5 nb from fun h => (f5 nb h).elim NF3.out (fun h => by have := (Array.getElem?_eq_some_iff.1 hN.out).1; have := D4.out.size; omega))
      have TN5 : Hid (∀ f ∈ T5, ∃ x, f.2.1 = nmOf x) := Lib.hid (fun f hf => (t5 f hf).elim (HTN.out f) (fun h => ⟨x, by rw [h, hnm.out]⟩))
      clear i5 k5 f5 t5
      go_wp2_with fail
      refine hK9.out _ _ ⟨HX.out _ EW5.out, by rw [HN5.out.2]; exact HN5.out.1⟩ (fun hHeld => ?_)
      clear hK9 K9
      try simp only [Act.put, List.setIfInBounds_toArray, List.set_cons_zero, List.set_cons_succ]
      refine wpAnyH_done (by kernel_rfl) ?_ _
      clear hHeld hwr
      go_wp2_with fail
      go_roundw
      case rel => exact ⟨k + 1, by omega, by go_num, Lib.hid ⟨F5, T5, nx5, I5.out, NF5.out, by omega, by omega, TN5.out⟩, N5⟩
      case measure => first | (simp [RowKit.intOf]; done) | (simp [RowKit.intOf]; omega)
    · obtain rfl : k = l.length := by omega
      have IN := Lib.hid (show ∀ w', Below wr.heap.size wr w' → Inv w1.heap.size w1 F g T nx w' from fun w' h => I3.out.grow h I3.out.size)
      have NC := Lib.hid (show ∀ w', Below wr.heap.size wr w' → w'.cell? ⟨nb, (t.tmod 3).toNat, none⟩ = some (.string (nmOf t)) from fun w' h => by rw [Int.tmod_eq_emod_of_nonneg ht1]; exact nm_cell (keepB hN.out h) t)
      have HTW := Lib.hid (show ∀ w', Below wr.heap.size wr w' → Below w.heap.size w w' from fun w' h => EW.out.trans (h.mono EW.out.size))
      have hTL := Lib.hid (show T.length ≤ 100 by omega)
      clear hN hlt hTl hnx
      go_wp2_with fail
      refine (all_y I3.out).mono ?_
      rintro e w5 ⟨A1, ys, rfl, hys, ho, hfr, b5⟩
      obtain ⟨i0, hi, hz0, hz1, hz2⟩ := info_parts infoP
      have B5 := Lib.hid b5
      have HYS := Lib.hid hys
      have FR5 := Lib.hid hfr
      obtain ⟨A1', c1', e1, hr1, _, _, _⟩ := ho.rows (N := fun _ => False) fsc_len (by decide) (fun _ _ h => h)
      obtain rfl : A1 = A1' := by injection e1
      clear e1
      have R1 := Lib.hid hr1
      have hyl : ys.length ≤ 100 := by rw [← List.length_map (f := (fun y : Fs => y.1)), hys]; exact hTL.out
      have RI := Lib.hid (show ys.Pairwise fun x y => x.1.1 < y.1.1 by have := I3.out.rise; rw [← hys, List.pairwise_map] at this; exact this)
      clear hys ho hfr hr1 b5
      go_wp2_with fail
      have hy1 : ys.length ≤ 1000 := by omega
      have OC := Lib.hid (ofP_c A1 ys.length ys w5 R1.out hy1)
      (with_reducible refine OC.out.mono ?_)
      rintro e w6 ⟨v6, rfl, ho6, b6⟩
      have B6 := Lib.hid (B5.out.trans (b6.mono B5.out.size))
      have FR6 := Lib.hid (fun y hy => (FR5.out y hy).below b6)
      obtain ⟨A6, c6, e6, hr6, _, _, hA6⟩ := ho6.rows (N := fun k => w6.heap.size ≤ k) fsc_len (by decide) (fun k hk hN => by have := (ho6.lt hk).2; omega)
      subst e6
      have R6 := Lib.hid hr6
      have hylI : (ys.length : Int) ≤ 100 := by omega
      clear ho6 hr6 b6 R1 FR5
      go_wp2_with fail
      obtain ⟨wo, rfl⟩ : ∃ wo : World, wo = wr := ⟨_, rfl⟩
      go_loopw [8, 10] (fun v i wr => ∃ (k : Nat) (vo : Value), k ≤ ys.length ∧ i = .int .i64 k ∧ vo = v ∧ Hid (OwnW wr w6.heap.size 43 3 vo ((ys.take k).filter fun y => decide (y.1.2.1 = nmOf t)).length (((ys.take k).filter fun y => decide (y.1.2.1 = nmOf t)).flatMap fsc)) ∧ Hid (Below w6.heap.size w6 wr)) (fun _ i _ => (ys.length - (RowKit.intOf i).toNat))
      case atStart => exact ⟨0, _, by omega, rfl, rfl, Lib.hid (OwnW.nil _ _ _ _), Lib.hid (Below.refl _ _)⟩
      case round =>
        obtain ⟨k, vo, hk, rfl, rfl, hO, hB⟩ := hrel
        have BW := Lib.hid (B6.out.trans (hB.out.mono B6.out.size))
        by_cases hlt : k < ys.length
        · have hkI : (k : Int) < (ys.length : Int) := by omega
          obtain ⟨ad, rfl, _, c0, c1, c2⟩ := fs_at (R6.out.below hB.out) hlt
          have hnc := NC.out _ BW.out
          have HTk := Lib.hid (show ys.take (k + 1) = ys.take k ++ [ys[k]] from List.take_succ_eq_append_getElem hlt)
          have HLf := Lib.hid (show ((ys.take k).filter fun y => decide (y.1.2.1 = nmOf t)).length ≤ k from Nat.le_trans (List.length_filter_le _ _) (by rw [List.length_take]; omega))
          have HJ : Hid (∀ j, k = j + 1 → ∃ u1, wr.cell? (ad.add (j * 3)) = some (.int .i64 u1) ∧ u1 < ys[k].1.1) := Lib.hid (fun j hj => by
            have hjl : j < ys.length := by omega
            obtain ⟨ad', e, _, d0, _, _⟩ := fs_at (R6.out.below hB.out) hjl
            obtain rfl := Option.some.inj e
            exact ⟨_, d0, List.pairwise_iff_getElem.1 RI.out j k hjl hlt (by omega)⟩)
          generalize ys[k] = y at *
          obtain ⟨⟨y1, y2, y4⟩, y3, y5⟩ := y
          dsimp only at c0 c1 c2 HJ
          have D0 : Hid (Below wr.heap.size wr wr.drew) := Lib.hid ⟨rfl, rfl, rfl, Nat.le_refl _, fun _ _ => rfl⟩
          have HS18 : Hid (∀ w', Below wr.heap.size wr w' → (fun w' => w'.cell? ⟨(ad.add (k * 3)).block, (ad.add (k * 3)).off + 1, none⟩ = some (.string y2) ∧ w'.cell? ⟨nb, (t.tmod 3).toNat, none⟩ = some (.string (nmOf t))) w') := Lib.hid (fun w' h => ⟨(h.cell (World.block_lt_of_cell? _ _ c1)).trans c1, (h.cell (World.block_lt_of_cell? _ _ hnc)).trans hnc⟩)
          have HC : Hid (∀ w', Below wr.heap.size wr w' → w'.cell? (ad.add (k * 3)) = some (.int .i64 y1) ∧ w'.cell? ⟨(ad.add (k * 3)).block, (ad.add (k * 3)).off + 1, none⟩ = some (.string y2) ∧ w'.cell? ⟨(ad.add (k * 3)).block, (ad.add (k * 3)).off + 2, none⟩ = some (.slice y3 y4.length y5)) := Lib.hid (fun w' h => ⟨(h.cell (World.block_lt_of_cell? _ _ c0)).trans c0, (h.cell (World.block_lt_of_cell? _ _ c1)).trans c1, (h.cell (World.block_lt_of_cell? _ _ c2)).trans c2⟩)
          have hxm := Int.tmod_eq_emod_of_nonneg ht1 (b := 3)
          have hx3 : 0 ≤ t.tmod 3 := by rw [hxm]; omega
          have hx4 : t.tmod 3 < 3 := by rw [hxm]; omega
          clear hxm hnc
          generalize hnm0 : nmOf t = nm at *
          have hnm := Lib.hid hnm0
          clear hnm0
          have D1 : Hid (Below wr.heap.size wr wr.drew.drew) := Lib.hid ⟨rfl, rfl, rfl, Nat.le_refl _, fun _ _ => rfl⟩
          by_cases hk0 : k = 0
          · have hd1 : decide ((0 : Int) < (k : Int)) = false := by simp [hk0]
            have hd2 : decide (0 < k) = false := by simp [hk0]
            clear hk0 c0 c1 c2 HJ
            go_wp2_with fail
            refine wp_region_held_drew (S := (fun _ => True)) (by kernel_rfl) trivial (fun hHeld => ?_)
            refine wpAnyH_take (i := 0) (oi := ⟨_, _, _, _, _, _⟩) (v := ?_) rfl (by kernel_rfl) (by kernel_rfl) (by kernel_rfl) (fun _ _ _ h => h) (Or.inl ⟨by rfl, ?_⟩) (by assumption) ?_
            rotate_left
            · intro w' hSw; (try dsimp only at hSw); go_simp; (try with_reducible rfl)
            try simp only [Act.put, List.setIfInBounds_toArray, List.set_cons_zero, List.set_cons_succ]
            refine wpAnyH_take (i := 1) (oi := ⟨_, _, _, _, _, _⟩) (v := ?_) rfl (by kernel_rfl) (by kernel_rfl) (by kernel_rfl) (fun _ _ _ h => h) (Or.inl ⟨by rfl, ?_⟩) (by assumption) ?_
            rotate_left
            · intro w' hSw; (try dsimp only at hSw); go_simp; (try with_reducible rfl)
            try simp only [Act.put, List.setIfInBounds_toArray, List.set_cons_zero, List.set_cons_succ]
            refine wpAnyH_take (i := 2) (oi := ⟨_, _, _, _, _, _⟩) (v := ?_) rfl (by kernel_rfl) (by kernel_rfl) (by kernel_rfl) (fun _ _ _ h => h) (Or.inl ⟨by rfl, ?_⟩) (by assumption) ?_
            rotate_left
            · intro w' hSw; (try dsimp only at hSw); go_simp; (try with_reducible rfl)
            try simp only [Act.put, List.setIfInBounds_toArray, List.set_cons_zero, List.set_cons_succ]
            refine wpAnyH_take (i := 3) (oi := ⟨_, _, _, _, _, _⟩) (v := undef) rfl (by kernel_rfl) (by kernel_rfl) (by kernel_rfl) (fun _ _ _ h => h) (Or.inr ⟨by rfl, rfl⟩) (by assumption) ?_
            try simp only [Act.put, List.setIfInBounds_toArray, List.set_cons_zero, List.set_cons_succ]
            refine wpAnyH_take (i := 4) (oi := ⟨_, _, _, _, _, _⟩) (v := undef) rfl (by kernel_rfl) (by kernel_rfl) (by kernel_rfl) (fun _ _ _ h => h) (Or.inr ⟨by rfl, rfl⟩) (by assumption) ?_
            try simp only [Act.put, List.setIfInBounds_toArray, List.set_cons_zero, List.set_cons_succ]
            refine wpAnyH_take (i := 5) (oi := ⟨_, _, _, _, _, _⟩) (v := undef) rfl (by kernel_rfl) (by kernel_rfl) (by kernel_rfl) (fun _ _ _ h => h) (Or.inr ⟨by rfl, rfl⟩) (by assumption) ?_
            try simp only [Act.put, List.setIfInBounds_toArray, List.set_cons_zero, List.set_cons_succ]
            refine wpAnyH_take (i := 6) (oi := ⟨_, _, _, _, _, _⟩) (v := undef) rfl (by kernel_rfl) (by kernel_rfl) (by kernel_rfl) (fun _ _ _ h => h) (Or.inr ⟨by rfl, rfl⟩) (by assumption) ?_
            try simp only [Act.put, List.setIfInBounds_toArray, List.set_cons_zero, List.set_cons_succ]
            refine wpAnyH_take (i := 7) (oi := ⟨_, _, _, _, _, _⟩) (v := undef) rfl (by kernel_rfl) (by kernel_rfl) (by kernel_rfl) (fun _ _ _ h => h) (Or.inr ⟨by rfl, rfl⟩) (by assumption) ?_
            try simp only [Act.put, List.setIfInBounds_toArray, List.set_cons_zero, List.set_cons_succ]
            refine wpAnyH_take (i := 8) (oi := ⟨_, _, _, _, _, _⟩) (v := undef) rfl (by kernel_rfl) (by kernel_rfl) (by kernel_rfl) (fun _ _ _ h => h) (Or.inr ⟨by rfl, rfl⟩) (by assumption) ?_
            try simp only [Act.put, List.setIfInBounds_toArray, List.set_cons_zero, List.set_cons_succ]
            refine wpAnyH_take (i := 9) (oi := ⟨_, _, _, _, _, _⟩) (v := undef) rfl (by kernel_rfl) (by kernel_rfl) (by kernel_rfl) (fun _ _ _ h => h) (Or.inr ⟨by rfl, rfl⟩) (by assumption) ?_
            try simp only [Act.put, List.setIfInBounds_toArray, List.set_cons_zero, List.set_cons_succ]
            refine wpAnyH_take (i := 10) (oi := ⟨_, _, _, _, _, _⟩) (v := undef) rfl (by kernel_rfl) (by kernel_rfl) (by kernel_rfl) (fun _ _ _ h => h) (Or.inr ⟨by rfl, rfl⟩) (by assumption) ?_
            try simp only [Act.put, List.setIfInBounds_toArray, List.set_cons_zero, List.set_cons_succ]
            refine wpAnyH_take (i := 11) (oi := ⟨_, _, _, _, _, _⟩) (v := undef) rfl (by kernel_rfl) (by kernel_rfl) (by kernel_rfl) (fun _ _ _ h => h) (Or.inr ⟨by rfl, rfl⟩) (by assumption) ?_
            try simp only [Act.put, List.setIfInBounds_toArray, List.set_cons_zero, List.set_cons_succ]
            refine wpAnyH_take (i := 12) (oi := ⟨_, _, _, _, _, _⟩) (v := undef) rfl (by kernel_rfl) (by kernel_rfl) (by kernel_rfl) (fun _ _ _ h => h) (Or.inr ⟨by rfl, rfl⟩) (by assumption) ?_
            try simp only [Act.put, List.setIfInBounds_toArray, List.set_cons_zero, List.set_cons_succ]
            refine wpAnyH_take (i := 13) (oi := ⟨_, _, _, _, _, _⟩) (v := undef) rfl (by kernel_rfl) (by kernel_rfl) (by kernel_rfl) (fun _ _ _ h => h) (Or.inr ⟨by rfl, rfl⟩) (by assumption) ?_
            try simp only [Act.put, List.setIfInBounds_toArray, List.set_cons_zero, List.set_cons_succ]
            refine wpAnyH_take (i := 14) (oi := ⟨_, _, _, _, _, _⟩) (v := undef) rfl (by kernel_rfl) (by kernel_rfl) (by kernel_rfl) (fun _ _ _ h => h) (Or.inr ⟨by rfl, rfl⟩) (by assumption) ?_
            try simp only [Act.put, List.setIfInBounds_toArray, List.set_cons_zero, List.set_cons_succ]
            refine wpAnyH_take (i := 15) (oi := ⟨_, _, _, _, _, _⟩) (v := ?_) rfl (by kernel_rfl) (by kernel_rfl) (by kernel_rfl) (fun _ _ _ h => h) (Or.inl ⟨by rfl, ?_⟩) (by assumption) ?_
            rotate_left
            · intro w' hSw; (try dsimp only at hSw); go_simp; (try with_reducible rfl)
            try simp only [Act.put, List.setIfInBounds_toArray, List.set_cons_zero, List.set_cons_succ]
            refine wpAnyH_done (by kernel_rfl) ?_ _
            clear hHeld hd1 hd2
            go_wp2_with fail
            by_cases hts : y2 = nm
            · have q1 := str_eq hts
              have EQ := Lib.hid (show ((ys.take (k + 1)).filter fun y => decide (y.1.2.1 = nm)) = ((ys.take k).filter fun y => decide (y.1.2.1 = nm)) ++ [((y1, y2, y4), y3, y5)] by
                rw [HTk.out, List.filter_append, List.filter_cons_of_pos (by simp [hts])]; rfl)
              clear hts
              refine wp_region_held_drew (S := (fun w' => w'.cell? ⟨(ad.add (k * 3)).block, (ad.add (k * 3)).off + 1, none⟩ = some (.string y2) ∧ w'.cell? ⟨nb, (t.tmod 3).toNat, none⟩ = some (.string nm))) (by kernel_rfl) (HS18.out _ D1.out) (fun hHeld => ?_)
              refine wpAnyH_take (i := 0) (oi := ⟨_, _, _, _, _, _⟩) (v := ?_) rfl (by kernel_rfl) (by kernel_rfl) (by kernel_rfl) (fun _ _ _ h => h) (Or.inl ⟨by rfl, ?_⟩) (by assumption) ?_
              rotate_left
              · intro w' hSw; (try dsimp only at hSw); go_simp; (try with_reducible rfl)
              try simp only [Act.put, List.setIfInBounds_toArray, List.set_cons_zero, List.set_cons_succ]
              refine wpAnyH_take (i := 1) (oi := ⟨_, _, _, _, _, _⟩) (v := ?_) rfl (by kernel_rfl) (by kernel_rfl) (by kernel_rfl) (fun _ _ _ h => h) (Or.inl ⟨by rfl, ?_⟩) (by assumption) ?_
              rotate_left
              · intro w' hSw; (try dsimp only at hSw); go_simp; (try with_reducible rfl)
              try simp only [Act.put, List.setIfInBounds_toArray, List.set_cons_zero, List.set_cons_succ]
              refine wpAnyH_take (i := 2) (oi := ⟨_, _, _, _, _, _⟩) (v := ?_) rfl (by kernel_rfl) (by kernel_rfl) (by kernel_rfl) (fun _ _ _ h => h) (Or.inl ⟨by rfl, ?_⟩) (by assumption) ?_
              rotate_left
              · intro w' hSw; (try dsimp only at hSw); go_simp; (try with_reducible rfl)
              try simp only [Act.put, List.setIfInBounds_toArray, List.set_cons_zero, List.set_cons_succ]
              refine wpAnyH_take (i := 3) (oi := ⟨_, _, _, _, _, _⟩) (v := ?_) rfl (by kernel_rfl) (by kernel_rfl) (by kernel_rfl) (fun _ _ _ h => h) (Or.inl ⟨by rfl, ?_⟩) (by assumption) ?_
              rotate_left
              · intro w' hSw; (try dsimp only at hSw); go_simp; (try with_reducible rfl)
              try simp only [Act.put, List.setIfInBounds_toArray, List.set_cons_zero, List.set_cons_succ]
              refine wpAnyH_take (i := 4) (oi := ⟨_, _, _, _, _, _⟩) (v := ?_) rfl (by kernel_rfl) (by kernel_rfl) (by kernel_rfl) (fun _ _ _ h => h) (Or.inl ⟨by rfl, ?_⟩) (by assumption) ?_
              rotate_left
              · intro w' hSw; (try dsimp only at hSw); go_simp; (try with_reducible rfl)
              try simp only [Act.put, List.setIfInBounds_toArray, List.set_cons_zero, List.set_cons_succ]
              refine wpAnyH_take (i := 5) (oi := ⟨_, _, _, _, _, _⟩) (v := ?_) rfl (by kernel_rfl) (by kernel_rfl) (by kernel_rfl) (fun _ _ _ h => h) (Or.inl ⟨by rfl, ?_⟩) (by assumption) ?_
              rotate_left
              · intro w' hSw; (try dsimp only at hSw); go_simp; (try with_reducible rfl)
              try simp only [Act.put, List.setIfInBounds_toArray, List.set_cons_zero, List.set_cons_succ]
              refine wpAnyH_take (i := 6) (oi := ⟨_, _, _, _, _, _⟩) (v := ?_) rfl (by kernel_rfl) (by kernel_rfl) (by kernel_rfl) (fun _ _ _ h => h) (Or.inl ⟨by rfl, ?_⟩) (by assumption) ?_
              rotate_left
              · intro w' hSw; (try dsimp only at hSw); go_simp; (try with_reducible rfl)
              try simp only [Act.put, List.setIfInBounds_toArray, List.set_cons_zero, List.set_cons_succ]
              refine wpAnyH_take (i := 7) (oi := ⟨_, _, _, _, _, _⟩) (v := ?_) rfl (by kernel_rfl) (by kernel_rfl) (by kernel_rfl) (fun _ _ _ h => h) (Or.inl ⟨by rfl, ?_⟩) (by assumption) ?_
              rotate_left
              · intro w' hSw; (try dsimp only at hSw); go_simp; (try with_reducible rfl)
              try simp only [Act.put, List.setIfInBounds_toArray, List.set_cons_zero, List.set_cons_succ]
              refine wpAnyH_take (i := 8) (oi := ⟨_, _, _, _, _, _⟩) (v := ?_) rfl (by kernel_rfl) (by kernel_rfl) (by kernel_rfl) (fun _ _ _ h => h) (Or.inl ⟨by rfl, ?_⟩) (by assumption) ?_
              rotate_left
              · intro w' hSw; (try dsimp only at hSw); go_simp; (try with_reducible rfl)
              try simp only [Act.put, List.setIfInBounds_toArray, List.set_cons_zero, List.set_cons_succ]
              refine wpAnyH_take (i := 9) (oi := ⟨_, _, _, _, _, _⟩) (v := ?_) rfl (by kernel_rfl) (by kernel_rfl) (by kernel_rfl) (fun _ _ _ h => h) (Or.inl ⟨by rfl, ?_⟩) (by assumption) ?_
              rotate_left
              · intro w' hSw; (try dsimp only at hSw); go_simp; (try with_reducible rfl)
              try simp only [Act.put, List.setIfInBounds_toArray, List.set_cons_zero, List.set_cons_succ]
              refine wpAnyH_take (i := 10) (oi := ⟨_, _, _, _, _, _⟩) (v := ?_) rfl (by kernel_rfl) (by kernel_rfl) (by kernel_rfl) (fun _ _ _ h => h) (Or.inl ⟨by rfl, ?_⟩) (by assumption) ?_
              rotate_left
              · intro w' hSw; (try dsimp only at hSw); go_simp; (try with_reducible rfl)
              try simp only [Act.put, List.setIfInBounds_toArray, List.set_cons_zero, List.set_cons_succ]
              refine wpAnyH_done (by kernel_rfl) ?_ _
              clear hHeld
              obtain ⟨c0, c1, c2⟩ := HC.out _ D1.out
              have E7 := Lib.hid ((hB.out.trans (D1.out.mono hB.out.size)).alloc (hB.out.trans (D1.out.mono hB.out.size)).size (.cells #[.int .i64 y1, .string y2, .slice y3 y4.length y5] 43))
              have O7 := Lib.hid (((hO.out.below D1.out)).below ((Below.refl wr.drew.drew.heap.size wr.drew.drew).alloc (Nat.le_refl _) (.cells #[.int .i64 y1, .string y2, .slice y3 y4.length y5] 43)))
              have N7 := Lib.hid (new_one (f := fsc) (m := 3) (N := fun _ => False) wr.drew.drew ((y1, y2, y4), y3, y5) 43 (fun h => h))
              go_wp2_with (at_builtin; refine wpList_append_ownW (f := fsc) fsc_len fsc_flat (by decide) rfl (.tmp 78) (.tmp 83) 38 rfl w6.heap.size 43 i0 zF 48 Tryd.underlying38 hi hz0 hz1 hz2 rfl vo _ _ rfl O7.out (some ⟨wr.heap.size, 0, none⟩) 1 [((y1, y2, y4), y3, y5)] (fun h => by cases h) N7.out rfl (by have := HLf.out; unfold maxLen; simp; omega) (by have := HLf.out; simp; omega) E7.out.size ?_)
              intro v8 w8 ho8 hg8 _
              have E8 := Lib.hid (E7.out.grown hg8 E7.out.size (fun q hq => (O7.out.lt hq).1))
              have O8 := Lib.hid (show OwnW w8 w6.heap.size 43 3 v8 ((ys.take (k + 1)).filter fun y => decide (y.1.2.1 = nm)).length (((ys.take (k + 1)).filter fun y => decide (y.1.2.1 = nm)).flatMap fsc) by rw [EQ.out, List.length_append, List.flatMap_append, List.flatMap_singleton]; exact ho8)
              clear ho8 hg8 c0 c1 c2 EQ
              go_wp2_with fail
              go_roundw
              case rel => exact ⟨k + 1, v8, by omega, by go_num, rfl, O8, E8⟩
              case measure => first | (simp [RowKit.intOf]; done) | (simp [RowKit.intOf]; omega)
            · have q1 := str_ne hts
              have EQ := Lib.hid (show ((ys.take (k + 1)).filter fun y => decide (y.1.2.1 = nm)) = ((ys.take k).filter fun y => decide (y.1.2.1 = nm)) by
                rw [HTk.out, List.filter_append, List.filter_cons_of_neg (by simp [hts])]; simp)
              have O8 := Lib.hid (show OwnW wr.drew.drew w6.heap.size 43 3 vo ((ys.take (k + 1)).filter fun y => decide (y.1.2.1 = nm)).length (((ys.take (k + 1)).filter fun y => decide (y.1.2.1 = nm)).flatMap fsc) by rw [EQ.out]; exact hO.out.below D1.out)
              have E8 := Lib.hid (hB.out.trans (D1.out.mono hB.out.size))
              clear hts EQ
              refine wp_region_held_drew (S := (fun w' => w'.cell? ⟨(ad.add (k * 3)).block, (ad.add (k * 3)).off + 1, none⟩ = some (.string y2) ∧ w'.cell? ⟨nb, (t.tmod 3).toNat, none⟩ = some (.string nm))) (by kernel_rfl) (HS18.out _ D1.out) (fun hHeld => ?_)
              refine wpAnyH_take (i := 0) (oi := ⟨_, _, _, _, _, _⟩) (v := ?_) rfl (by kernel_rfl) (by kernel_rfl) (by kernel_rfl) (fun _ _ _ h => h) (Or.inl ⟨by rfl, ?_⟩) (by assumption) ?_
              rotate_left
              · intro w' hSw; (try dsimp only at hSw); go_simp; (try with_reducible rfl)
              try simp only [Act.put, List.setIfInBounds_toArray, List.set_cons_zero, List.set_cons_succ]
              refine wpAnyH_take (i := 1) (oi := ⟨_, _, _, _, _, _⟩) (v := ?_) rfl (by kernel_rfl) (by kernel_rfl) (by kernel_rfl) (fun _ _ _ h => h) (Or.inl ⟨by rfl, ?_⟩) (by assumption) ?_
              rotate_left
              · intro w' hSw; (try dsimp only at hSw); go_simp; (try with_reducible rfl)
              try simp only [Act.put, List.setIfInBounds_toArray, List.set_cons_zero, List.set_cons_succ]
              refine wpAnyH_take (i := 2) (oi := ⟨_, _, _, _, _, _⟩) (v := ?_) rfl (by kernel_rfl) (by kernel_rfl) (by kernel_rfl) (fun _ _ _ h => h) (Or.inl ⟨by rfl, ?_⟩) (by assumption) ?_
              rotate_left
              · intro w' hSw; (try dsimp only at hSw); go_simp; (try with_reducible rfl)
              try simp only [Act.put, List.setIfInBounds_toArray, List.set_cons_zero, List.set_cons_succ]
              refine wpAnyH_take (i := 3) (oi := ⟨_, _, _, _, _, _⟩) (v := ?_) rfl (by kernel_rfl) (by kernel_rfl) (by kernel_rfl) (fun _ _ _ h => h) (Or.inl ⟨by rfl, ?_⟩) (by assumption) ?_
              rotate_left
              · intro w' hSw; (try dsimp only at hSw); go_simp; (try with_reducible rfl)
              try simp only [Act.put, List.setIfInBounds_toArray, List.set_cons_zero, List.set_cons_succ]
              refine wpAnyH_take (i := 4) (oi := ⟨_, _, _, _, _, _⟩) (v := ?_) rfl (by kernel_rfl) (by kernel_rfl) (by kernel_rfl) (fun _ _ _ h => h) (Or.inl ⟨by rfl, ?_⟩) (by assumption) ?_
              rotate_left
              · intro w' hSw; (try dsimp only at hSw); go_simp; (try with_reducible rfl)
              try simp only [Act.put, List.setIfInBounds_toArray, List.set_cons_zero, List.set_cons_succ]
              refine wpAnyH_take (i := 5) (oi := ⟨_, _, _, _, _, _⟩) (v := ?_) rfl (by kernel_rfl) (by kernel_rfl) (by kernel_rfl) (fun _ _ _ h => h) (Or.inl ⟨by rfl, ?_⟩) (by assumption) ?_
              rotate_left
              · intro w' hSw; (try dsimp only at hSw); go_simp; (try with_reducible rfl)
              try simp only [Act.put, List.setIfInBounds_toArray, List.set_cons_zero, List.set_cons_succ]
              refine wpAnyH_take (i := 6) (oi := ⟨_, _, _, _, _, _⟩) (v := ?_) rfl (by kernel_rfl) (by kernel_rfl) (by kernel_rfl) (fun _ _ _ h => h) (Or.inl ⟨by rfl, ?_⟩) (by assumption) ?_
              rotate_left
              · intro w' hSw; (try dsimp only at hSw); go_simp; (try with_reducible rfl)
              try simp only [Act.put, List.setIfInBounds_toArray, List.set_cons_zero, List.set_cons_succ]
              refine wpAnyH_take (i := 7) (oi := ⟨_, _, _, _, _, _⟩) (v := ?_) rfl (by kernel_rfl) (by kernel_rfl) (by kernel_rfl) (fun _ _ _ h => h) (Or.inl ⟨by rfl, ?_⟩) (by assumption) ?_
              rotate_left
              · intro w' hSw; (try dsimp only at hSw); go_simp; (try with_reducible rfl)
              try simp only [Act.put, List.setIfInBounds_toArray, List.set_cons_zero, List.set_cons_succ]
              refine wpAnyH_take (i := 8) (oi := ⟨_, _, _, _, _, _⟩) (v := ?_) rfl (by kernel_rfl) (by kernel_rfl) (by kernel_rfl) (fun _ _ _ h => h) (Or.inl ⟨by rfl, ?_⟩) (by assumption) ?_
              rotate_left
              · intro w' hSw; (try dsimp only at hSw); go_simp; (try with_reducible rfl)
              try simp only [Act.put, List.setIfInBounds_toArray, List.set_cons_zero, List.set_cons_succ]
              refine wpAnyH_take (i := 9) (oi := ⟨_, _, _, _, _, _⟩) (v := ?_) rfl (by kernel_rfl) (by kernel_rfl) (by kernel_rfl) (fun _ _ _ h => h) (Or.inl ⟨by rfl, ?_⟩) (by assumption) ?_
              rotate_left
              · intro w' hSw; (try dsimp only at hSw); go_simp; (try with_reducible rfl)
              try simp only [Act.put, List.setIfInBounds_toArray, List.set_cons_zero, List.set_cons_succ]
              refine wpAnyH_take (i := 10) (oi := ⟨_, _, _, _, _, _⟩) (v := ?_) rfl (by kernel_rfl) (by kernel_rfl) (by kernel_rfl) (fun _ _ _ h => h) (Or.inl ⟨by rfl, ?_⟩) (by assumption) ?_
              rotate_left
              · intro w' hSw; (try dsimp only at hSw); go_simp; (try with_reducible rfl)
              try simp only [Act.put, List.setIfInBounds_toArray, List.set_cons_zero, List.set_cons_succ]
              refine wpAnyH_done (by kernel_rfl) ?_ _
              clear hHeld
              go_wp2_with fail
              go_roundw
              case rel => exact ⟨k + 1, vo, by omega, by go_num, rfl, O8, E8⟩
              case measure => first | (simp [RowKit.intOf]; done) | (simp [RowKit.intOf]; omega)
          · obtain ⟨j, hj⟩ : ∃ j, k = j + 1 := ⟨k - 1, by omega⟩
            obtain ⟨u1, hu, hlt1⟩ := HJ.out j hj
            have HS16 : Hid (∀ w', Below wr.heap.size wr w' → w'.cell? (ad.add (k * 3)) = some (.int .i64 y1) ∧ w'.cell? (ad.add (j * 3)) = some (.int .i64 u1)) := Lib.hid (fun w' h => ⟨(h.cell (World.block_lt_of_cell? _ _ c0)).trans c0, (h.cell (World.block_lt_of_cell? _ _ hu)).trans hu⟩)
            have hd1 : decide ((0 : Int) < (k : Int)) = true := by simp; omega
            have hd2 : decide (0 < k) = true := by simp; omega
            have hd3 : 0 < k := by omega
            have hjI : (j : Int) < (ys.length : Int) := by omega
            have hjw : IntKind.i64.wrap ((k : Int) - 1) = (j : Int) := (IntWalk.i64_in _ (by omega)).trans (by omega)
            have hle : decide (y1 ≤ u1) = false := by simp; omega
            have hle2 : ¬ y1 ≤ u1 := by omega
            clear hk0 hj hu HJ c0 c1 c2
            go_wp2_with fail
            refine wp_region_held_drew (S := (fun w' => w'.cell? (ad.add (k * 3)) = some (.int .i64 y1) ∧ w'.cell? (ad.add (j * 3)) = some (.int .i64 u1))) (by kernel_rfl) (HS16.out _ D0.out) (fun hHeld => ?_)
            refine wpAnyH_take (i := 0) (oi := ⟨_, _, _, _, _, _⟩) (v := ?_) rfl (by kernel_rfl) (by kernel_rfl) (by kernel_rfl) (fun _ _ _ h => h) (Or.inl ⟨by rfl, ?_⟩) (by assumption) ?_
            rotate_left
            · intro w' hSw; (try dsimp only at hSw); go_simp; (try with_reducible rfl)
            try simp only [Act.put, List.setIfInBounds_toArray, List.set_cons_zero, List.set_cons_succ]
            refine wpAnyH_take (i := 1) (oi := ⟨_, _, _, _, _, _⟩) (v := ?_) rfl (by kernel_rfl) (by kernel_rfl) (by kernel_rfl) (fun _ _ _ h => h) (Or.inl ⟨by rfl, ?_⟩) (by assumption) ?_
            rotate_left
            · intro w' hSw; (try dsimp only at hSw); go_simp; (try with_reducible rfl)
            try simp only [Act.put, List.setIfInBounds_toArray, List.set_cons_zero, List.set_cons_succ]
            refine wpAnyH_take (i := 2) (oi := ⟨_, _, _, _, _, _⟩) (v := ?_) rfl (by kernel_rfl) (by kernel_rfl) (by kernel_rfl) (fun _ _ _ h => h) (Or.inl ⟨by rfl, ?_⟩) (by assumption) ?_
            rotate_left
            · intro w' hSw; (try dsimp only at hSw); go_simp; (try with_reducible rfl)
            try simp only [Act.put, List.setIfInBounds_toArray, List.set_cons_zero, List.set_cons_succ]
            refine wpAnyH_take (i := 3) (oi := ⟨_, _, _, _, _, _⟩) (v := ?_) rfl (by kernel_rfl) (by kernel_rfl) (by kernel_rfl) (fun _ _ _ h => h) (Or.inl ⟨by rfl, ?_⟩) (by assumption) ?_
            rotate_left
            · intro w' hSw; (try dsimp only at hSw); go_simp; (try with_reducible rfl)
            try simp only [Act.put, List.setIfInBounds_toArray, List.set_cons_zero, List.set_cons_succ]
            refine wpAnyH_take (i := 4) (oi := ⟨_, _, _, _, _, _⟩) (v := ?_) rfl (by kernel_rfl) (by kernel_rfl) (by kernel_rfl) (fun _ _ _ h => h) (Or.inl ⟨by rfl, ?_⟩) (by assumption) ?_
            rotate_left
            · intro w' hSw; (try dsimp only at hSw); go_simp; (try with_reducible rfl)
            try simp only [Act.put, List.setIfInBounds_toArray, List.set_cons_zero, List.set_cons_succ]
            refine wpAnyH_take (i := 5) (oi := ⟨_, _, _, _, _, _⟩) (v := ?_) rfl (by kernel_rfl) (by kernel_rfl) (by kernel_rfl) (fun _ _ _ h => h) (Or.inl ⟨by rfl, ?_⟩) (by assumption) ?_
            rotate_left
            · intro w' hSw; (try dsimp only at hSw); go_simp; (try with_reducible rfl)
            try simp only [Act.put, List.setIfInBounds_toArray, List.set_cons_zero, List.set_cons_succ]
            refine wpAnyH_take (i := 6) (oi := ⟨_, _, _, _, _, _⟩) (v := ?_) rfl (by kernel_rfl) (by kernel_rfl) (by kernel_rfl) (fun _ _ _ h => h) (Or.inl ⟨by rfl, ?_⟩) (by assumption) ?_
            rotate_left
            · intro w' hSw; (try dsimp only at hSw); go_simp; (try with_reducible rfl)
            try simp only [Act.put, List.setIfInBounds_toArray, List.set_cons_zero, List.set_cons_succ]
            refine wpAnyH_take (i := 7) (oi := ⟨_, _, _, _, _, _⟩) (v := ?_) rfl (by kernel_rfl) (by kernel_rfl) (by kernel_rfl) (fun _ _ _ h => h) (Or.inl ⟨by rfl, ?_⟩) (by assumption) ?_
            rotate_left
            · intro w' hSw; (try dsimp only at hSw); go_simp; (try with_reducible rfl)
            try simp only [Act.put, List.setIfInBounds_toArray, List.set_cons_zero, List.set_cons_succ]
            refine wpAnyH_take (i := 8) (oi := ⟨_, _, _, _, _, _⟩) (v := ?_) rfl (by kernel_rfl) (by kernel_rfl) (by kernel_rfl) (fun _ _ _ h => h) (Or.inl ⟨by rfl, ?_⟩) (by assumption) ?_
            rotate_left
            · intro w' hSw; (try dsimp only at hSw); go_simp; (try with_reducible rfl)
            try simp only [Act.put, List.setIfInBounds_toArray, List.set_cons_zero, List.set_cons_succ]
            refine wpAnyH_take (i := 9) (oi := ⟨_, _, _, _, _, _⟩) (v := ?_) rfl (by kernel_rfl) (by kernel_rfl) (by kernel_rfl) (fun _ _ _ h => h) (Or.inl ⟨by rfl, ?_⟩) (by assumption) ?_
            rotate_left
            · intro w' hSw; (try dsimp only at hSw); go_simp; (try with_reducible rfl)
            try simp only [Act.put, List.setIfInBounds_toArray, List.set_cons_zero, List.set_cons_succ]
            refine wpAnyH_take (i := 10) (oi := ⟨_, _, _, _, _, _⟩) (v := ?_) rfl (by kernel_rfl) (by kernel_rfl) (by kernel_rfl) (fun _ _ _ h => h) (Or.inl ⟨by rfl, ?_⟩) (by assumption) ?_
            rotate_left
            · intro w' hSw; (try dsimp only at hSw); go_simp; (try with_reducible rfl)
            try simp only [Act.put, List.setIfInBounds_toArray, List.set_cons_zero, List.set_cons_succ]
            refine wpAnyH_take (i := 11) (oi := ⟨_, _, _, _, _, _⟩) (v := ?_) rfl (by kernel_rfl) (by kernel_rfl) (by kernel_rfl) (fun _ _ _ h => h) (Or.inl ⟨by rfl, ?_⟩) (by assumption) ?_
            rotate_left
            · intro w' hSw; (try dsimp only at hSw); go_simp; (try with_reducible rfl)
            try simp only [Act.put, List.setIfInBounds_toArray, List.set_cons_zero, List.set_cons_succ]
            refine wpAnyH_take (i := 12) (oi := ⟨_, _, _, _, _, _⟩) (v := ?_) rfl (by kernel_rfl) (by kernel_rfl) (by kernel_rfl) (fun _ _ _ h => h) (Or.inl ⟨by rfl, ?_⟩) (by assumption) ?_
            rotate_left
            · intro w' hSw; (try dsimp only at hSw); go_simp; (try with_reducible rfl)
            try simp only [Act.put, List.setIfInBounds_toArray, List.set_cons_zero, List.set_cons_succ]
            refine wpAnyH_take (i := 13) (oi := ⟨_, _, _, _, _, _⟩) (v := ?_) rfl (by kernel_rfl) (by kernel_rfl) (by kernel_rfl) (fun _ _ _ h => h) (Or.inl ⟨by rfl, ?_⟩) (by assumption) ?_
            rotate_left
            · intro w' hSw; (try dsimp only at hSw); go_simp; (try with_reducible rfl)
            try simp only [Act.put, List.setIfInBounds_toArray, List.set_cons_zero, List.set_cons_succ]
            refine wpAnyH_take (i := 14) (oi := ⟨_, _, _, _, _, _⟩) (v := ?_) rfl (by kernel_rfl) (by kernel_rfl) (by kernel_rfl) (fun _ _ _ h => h) (Or.inl ⟨by rfl, ?_⟩) (by assumption) ?_
            rotate_left
            · intro w' hSw; (try dsimp only at hSw); go_simp; (try with_reducible rfl)
            try simp only [Act.put, List.setIfInBounds_toArray, List.set_cons_zero, List.set_cons_succ]
            refine wpAnyH_take (i := 15) (oi := ⟨_, _, _, _, _, _⟩) (v := ?_) rfl (by kernel_rfl) (by kernel_rfl) (by kernel_rfl) (fun _ _ _ h => h) (Or.inl ⟨by rfl, ?_⟩) (by assumption) ?_
            rotate_left
            · intro w' hSw; (try dsimp only at hSw); go_simp; (try with_reducible rfl)
            try simp only [Act.put, List.setIfInBounds_toArray, List.set_cons_zero, List.set_cons_succ]
            refine wpAnyH_done (by kernel_rfl) ?_ _
            clear hHeld hjw hle hle2 hlt1 hd1 hd2 hd3 hjI HS16
            go_wp2_with fail
            by_cases hts : y2 = nm
            · have q1 := str_eq hts
              have EQ := Lib.hid (show ((ys.take (k + 1)).filter fun y => decide (y.1.2.1 = nm)) = ((ys.take k).filter fun y => decide (y.1.2.1 = nm)) ++ [((y1, y2, y4), y3, y5)] by
                rw [HTk.out, List.filter_append, List.filter_cons_of_pos (by simp [hts])]; rfl)
              clear hts
              refine wp_region_held_drew (S := (fun w' => w'.cell? ⟨(ad.add (k * 3)).block, (ad.add (k * 3)).off + 1, none⟩ = some (.string y2) ∧ w'.cell? ⟨nb, (t.tmod 3).toNat, none⟩ = some (.string nm))) (by kernel_rfl) (HS18.out _ D1.out) (fun hHeld => ?_)
              refine wpAnyH_take (i := 0) (oi := ⟨_, _, _, _, _, _⟩) (v := ?_) rfl (by kernel_rfl) (by kernel_rfl) (by kernel_rfl) (fun _ _ _ h => h) (Or.inl ⟨by rfl, ?_⟩) (by assumption) ?_
              rotate_left
              · intro w' hSw; (try dsimp only at hSw); go_simp; (try with_reducible rfl)
              try simp only [Act.put, List.setIfInBounds_toArray, List.set_cons_zero, List.set_cons_succ]
              refine wpAnyH_take (i := 1) (oi := ⟨_, _, _, _, _, _⟩) (v := ?_) rfl (by kernel_rfl) (by kernel_rfl) (by kernel_rfl) (fun _ _ _ h => h) (Or.inl ⟨by rfl, ?_⟩) (by assumption) ?_
              rotate_left
              · intro w' hSw; (try dsimp only at hSw); go_simp; (try with_reducible rfl)
              try simp only [Act.put, List.setIfInBounds_toArray, List.set_cons_zero, List.set_cons_succ]
              refine wpAnyH_take (i := 2) (oi := ⟨_, _, _, _, _, _⟩) (v := ?_) rfl (by kernel_rfl) (by kernel_rfl) (by kernel_rfl) (fun _ _ _ h => h) (Or.inl ⟨by rfl, ?_⟩) (by assumption) ?_
              rotate_left
              · intro w' hSw; (try dsimp only at hSw); go_simp; (try with_reducible rfl)
              try simp only [Act.put, List.setIfInBounds_toArray, List.set_cons_zero, List.set_cons_succ]
              refine wpAnyH_take (i := 3) (oi := ⟨_, _, _, _, _, _⟩) (v := ?_) rfl (by kernel_rfl) (by kernel_rfl) (by kernel_rfl) (fun _ _ _ h => h) (Or.inl ⟨by rfl, ?_⟩) (by assumption) ?_
              rotate_left
              · intro w' hSw; (try dsimp only at hSw); go_simp; (try with_reducible rfl)
              try simp only [Act.put, List.setIfInBounds_toArray, List.set_cons_zero, List.set_cons_succ]
              refine wpAnyH_take (i := 4) (oi := ⟨_, _, _, _, _, _⟩) (v := ?_) rfl (by kernel_rfl) (by kernel_rfl) (by kernel_rfl) (fun _ _ _ h => h) (Or.inl ⟨by rfl, ?_⟩) (by assumption) ?_
              rotate_left
              · intro w' hSw; (try dsimp only at hSw); go_simp; (try with_reducible rfl)
              try simp only [Act.put, List.setIfInBounds_toArray, List.set_cons_zero, List.set_cons_succ]
              refine wpAnyH_take (i := 5) (oi := ⟨_, _, _, _, _, _⟩) (v := ?_) rfl (by kernel_rfl) (by kernel_rfl) (by kernel_rfl) (fun _ _ _ h => h) (Or.inl ⟨by rfl, ?_⟩) (by assumption) ?_
              rotate_left
              · intro w' hSw; (try dsimp only at hSw); go_simp; (try with_reducible rfl)
              try simp only [Act.put, List.setIfInBounds_toArray, List.set_cons_zero, List.set_cons_succ]
              refine wpAnyH_take (i := 6) (oi := ⟨_, _, _, _, _, _⟩) (v := ?_) rfl (by kernel_rfl) (by kernel_rfl) (by kernel_rfl) (fun _ _ _ h => h) (Or.inl ⟨by rfl, ?_⟩) (by assumption) ?_
              rotate_left
              · intro w' hSw; (try dsimp only at hSw); go_simp; (try with_reducible rfl)
              try simp only [Act.put, List.setIfInBounds_toArray, List.set_cons_zero, List.set_cons_succ]
              refine wpAnyH_take (i := 7) (oi := ⟨_, _, _, _, _, _⟩) (v := ?_) rfl (by kernel_rfl) (by kernel_rfl) (by kernel_rfl) (fun _ _ _ h => h) (Or.inl ⟨by rfl, ?_⟩) (by assumption) ?_
              rotate_left
              · intro w' hSw; (try dsimp only at hSw); go_simp; (try with_reducible rfl)
              try simp only [Act.put, List.setIfInBounds_toArray, List.set_cons_zero, List.set_cons_succ]
              refine wpAnyH_take (i := 8) (oi := ⟨_, _, _, _, _, _⟩) (v := ?_) rfl (by kernel_rfl) (by kernel_rfl) (by kernel_rfl) (fun _ _ _ h => h) (Or.inl ⟨by rfl, ?_⟩) (by assumption) ?_
              rotate_left
              · intro w' hSw; (try dsimp only at hSw); go_simp; (try with_reducible rfl)
              try simp only [Act.put, List.setIfInBounds_toArray, List.set_cons_zero, List.set_cons_succ]
              refine wpAnyH_take (i := 9) (oi := ⟨_, _, _, _, _, _⟩) (v := ?_) rfl (by kernel_rfl) (by kernel_rfl) (by kernel_rfl) (fun _ _ _ h => h) (Or.inl ⟨by rfl, ?_⟩) (by assumption) ?_
              rotate_left
              · intro w' hSw; (try dsimp only at hSw); go_simp; (try with_reducible rfl)
              try simp only [Act.put, List.setIfInBounds_toArray, List.set_cons_zero, List.set_cons_succ]
              refine wpAnyH_take (i := 10) (oi := ⟨_, _, _, _, _, _⟩) (v := ?_) rfl (by kernel_rfl) (by kernel_rfl) (by kernel_rfl) (fun _ _ _ h => h) (Or.inl ⟨by rfl, ?_⟩) (by assumption) ?_
              rotate_left
              · intro w' hSw; (try dsimp only at hSw); go_simp; (try with_reducible rfl)
              try simp only [Act.put, List.setIfInBounds_toArray, List.set_cons_zero, List.set_cons_succ]
              refine wpAnyH_done (by kernel_rfl) ?_ _
              clear hHeld
              obtain ⟨c0, c1, c2⟩ := HC.out _ D1.out
              have E7 := Lib.hid ((hB.out.trans (D1.out.mono hB.out.size)).alloc (hB.out.trans (D1.out.mono hB.out.size)).size (.cells #[.int .i64 y1, .string y2, .slice y3 y4.length y5] 43))
              have O7 := Lib.hid (((hO.out.below D1.out)).below ((Below.refl wr.drew.drew.heap.size wr.drew.drew).alloc (Nat.le_refl _) (.cells #[.int .i64 y1, .string y2, .slice y3 y4.length y5] 43)))
              have N7 := Lib.hid (new_one (f := fsc) (m := 3) (N := fun _ => False) wr.drew.drew ((y1, y2, y4), y3, y5) 43 (fun h => h))
              go_wp2_with (at_builtin; refine wpList_append_ownW (f := fsc) fsc_len fsc_flat (by decide) rfl (.tmp 78) (.tmp 83) 38 rfl w6.heap.size 43 i0 zF 48 Tryd.underlying38 hi hz0 hz1 hz2 rfl vo _ _ rfl O7.out (some ⟨wr.heap.size, 0, none⟩) 1 [((y1, y2, y4), y3, y5)] (fun h => by cases h) N7.out rfl (by have := HLf.out; unfold maxLen; simp; omega) (by have := HLf.out; simp; omega) E7.out.size ?_)
              intro v8 w8 ho8 hg8 _
              have E8 := Lib.hid (E7.out.grown hg8 E7.out.size (fun q hq => (O7.out.lt hq).1))
              have O8 := Lib.hid (show OwnW w8 w6.heap.size 43 3 v8 ((ys.take (k + 1)).filter fun y => decide (y.1.2.1 = nm)).length (((ys.take (k + 1)).filter fun y => decide (y.1.2.1 = nm)).flatMap fsc) by rw [EQ.out, List.length_append, List.flatMap_append, List.flatMap_singleton]; exact ho8)
              clear ho8 hg8 c0 c1 c2 EQ
              go_wp2_with fail
              go_roundw
              case rel => exact ⟨k + 1, v8, by omega, by go_num, rfl, O8, E8⟩
              case measure => first | (simp [RowKit.intOf]; done) | (simp [RowKit.intOf]; omega)
            · have q1 := str_ne hts
              have EQ := Lib.hid (show ((ys.take (k + 1)).filter fun y => decide (y.1.2.1 = nm)) = ((ys.take k).filter fun y => decide (y.1.2.1 = nm)) by
                rw [HTk.out, List.filter_append, List.filter_cons_of_neg (by simp [hts])]; simp)
              have O8 := Lib.hid (show OwnW wr.drew.drew w6.heap.size 43 3 vo ((ys.take (k + 1)).filter fun y => decide (y.1.2.1 = nm)).length (((ys.take (k + 1)).filter fun y => decide (y.1.2.1 = nm)).flatMap fsc) by rw [EQ.out]; exact hO.out.below D1.out)
              have E8 := Lib.hid (hB.out.trans (D1.out.mono hB.out.size))
              clear hts EQ
              refine wp_region_held_drew (S := (fun w' => w'.cell? ⟨(ad.add (k * 3)).block, (ad.add (k * 3)).off + 1, none⟩ = some (.string y2) ∧ w'.cell? ⟨nb, (t.tmod 3).toNat, none⟩ = some (.string nm))) (by kernel_rfl) (HS18.out _ D1.out) (fun hHeld => ?_)
              refine wpAnyH_take (i := 0) (oi := ⟨_, _, _, _, _, _⟩) (v := ?_) rfl (by kernel_rfl) (by kernel_rfl) (by kernel_rfl) (fun _ _ _ h => h) (Or.inl ⟨by rfl, ?_⟩) (by assumption) ?_
              rotate_left
              · intro w' hSw; (try dsimp only at hSw); go_simp; (try with_reducible rfl)
              try simp only [Act.put, List.setIfInBounds_toArray, List.set_cons_zero, List.set_cons_succ]
              refine wpAnyH_take (i := 1) (oi := ⟨_, _, _, _, _, _⟩) (v := ?_) rfl (by kernel_rfl) (by kernel_rfl) (by kernel_rfl) (fun _ _ _ h => h) (Or.inl ⟨by rfl, ?_⟩) (by assumption) ?_
              rotate_left
              · intro w' hSw; (try dsimp only at hSw); go_simp; (try with_reducible rfl)
              try simp only [Act.put, List.setIfInBounds_toArray, List.set_cons_zero, List.set_cons_succ]
              refine wpAnyH_take (i := 2) (oi := ⟨_, _, _, _, _, _⟩) (v := ?_) rfl (by kernel_rfl) (by kernel_rfl) (by kernel_rfl) (fun _ _ _ h => h) (Or.inl ⟨by rfl, ?_⟩) (by assumption) ?_
              rotate_left
              · intro w' hSw; (try dsimp only at hSw); go_simp; (try with_reducible rfl)
              try simp only [Act.put, List.setIfInBounds_toArray, List.set_cons_zero, List.set_cons_succ]
              refine wpAnyH_take (i := 3) (oi := ⟨_, _, _, _, _, _⟩) (v := ?_) rfl (by kernel_rfl) (by kernel_rfl) (by kernel_rfl) (fun _ _ _ h => h) (Or.inl ⟨by rfl, ?_⟩) (by assumption) ?_
              rotate_left
              · intro w' hSw; (try dsimp only at hSw); go_simp; (try with_reducible rfl)
              try simp only [Act.put, List.setIfInBounds_toArray, List.set_cons_zero, List.set_cons_succ]
              refine wpAnyH_take (i := 4) (oi := ⟨_, _, _, _, _, _⟩) (v := ?_) rfl (by kernel_rfl) (by kernel_rfl) (by kernel_rfl) (fun _ _ _ h => h) (Or.inl ⟨by rfl, ?_⟩) (by assumption) ?_
              rotate_left
              · intro w' hSw; (try dsimp only at hSw); go_simp; (try with_reducible rfl)
              try simp only [Act.put, List.setIfInBounds_toArray, List.set_cons_zero, List.set_cons_succ]
              refine wpAnyH_take (i := 5) (oi := ⟨_, _, _, _, _, _⟩) (v := ?_) rfl (by kernel_rfl) (by kernel_rfl) (by kernel_rfl) (fun _ _ _ h => h) (Or.inl ⟨by rfl, ?_⟩) (by assumption) ?_
              rotate_left
              · intro w' hSw; (try dsimp only at hSw); go_simp; (try with_reducible rfl)
              try simp only [Act.put, List.setIfInBounds_toArray, List.set_cons_zero, List.set_cons_succ]
              refine wpAnyH_take (i := 6) (oi := ⟨_, _, _, _, _, _⟩) (v := ?_) rfl (by kernel_rfl) (by kernel_rfl) (by kernel_rfl) (fun _ _ _ h => h) (Or.inl ⟨by rfl, ?_⟩) (by assumption) ?_
              rotate_left
              · intro w' hSw; (try dsimp only at hSw); go_simp; (try with_reducible rfl)
              try simp only [Act.put, List.setIfInBounds_toArray, List.set_cons_zero, List.set_cons_succ]
              refine wpAnyH_take (i := 7) (oi := ⟨_, _, _, _, _, _⟩) (v := ?_) rfl (by kernel_rfl) (by kernel_rfl) (by kernel_rfl) (fun _ _ _ h => h) (Or.inl ⟨by rfl, ?_⟩) (by assumption) ?_
              rotate_left
              · intro w' hSw; (try dsimp only at hSw); go_simp; (try with_reducible rfl)
              try simp only [Act.put, List.setIfInBounds_toArray, List.set_cons_zero, List.set_cons_succ]
              refine wpAnyH_take (i := 8) (oi := ⟨_, _, _, _, _, _⟩) (v := ?_) rfl (by kernel_rfl) (by kernel_rfl) (by kernel_rfl) (fun _ _ _ h => h) (Or.inl ⟨by rfl, ?_⟩) (by assumption) ?_
              rotate_left
              · intro w' hSw; (try dsimp only at hSw); go_simp; (try with_reducible rfl)
              try simp only [Act.put, List.setIfInBounds_toArray, List.set_cons_zero, List.set_cons_succ]
              refine wpAnyH_take (i := 9) (oi := ⟨_, _, _, _, _, _⟩) (v := ?_) rfl (by kernel_rfl) (by kernel_rfl) (by kernel_rfl) (fun _ _ _ h => h) (Or.inl ⟨by rfl, ?_⟩) (by assumption) ?_
              rotate_left
              · intro w' hSw; (try dsimp only at hSw); go_simp; (try with_reducible rfl)
              try simp only [Act.put, List.setIfInBounds_toArray, List.set_cons_zero, List.set_cons_succ]
              refine wpAnyH_take (i := 10) (oi := ⟨_, _, _, _, _, _⟩) (v := ?_) rfl (by kernel_rfl) (by kernel_rfl) (by kernel_rfl) (fun _ _ _ h => h) (Or.inl ⟨by rfl, ?_⟩) (by assumption) ?_
              rotate_left
              · intro w' hSw; (try dsimp only at hSw); go_simp; (try with_reducible rfl)
              try simp only [Act.put, List.setIfInBounds_toArray, List.set_cons_zero, List.set_cons_succ]
              refine wpAnyH_done (by kernel_rfl) ?_ _
              clear hHeld
              go_wp2_with fail
              go_roundw
              case rel => exact ⟨k + 1, vo, by omega, by go_num, rfl, O8, E8⟩
              case measure => first | (simp [RowKit.intOf]; done) | (simp [RowKit.intOf]; omega)
        · obtain rfl : k = ys.length := by omega
          generalize hzs0 : (ys.filter fun y => decide (y.1.2.1 = nmOf t)) = zs
          have hO2 : OwnW wr w6.heap.size 43 3 vo zs.length (zs.flatMap fsc) := by
            have := hO.out
            rw [List.take_length, hzs0] at this
            exact this
          obtain ⟨Ao, co, eo, hro, _, _, _⟩ := hO2.rows (N := fun _ => False) fsc_len (by decide) (fun _ _ h => h)
          subst eo
          have RO := Lib.hid hro
          have hzl : zs.length ≤ 1000 := by rw [← hzs0]; exact Nat.le_trans (List.length_filter_le _ _) (by omega)
          have FZ := Lib.hid (fun y (hy : y ∈ zs) => (FR6.out y (by rw [← hzs0] at hy; exact (List.mem_filter.1 hy).1)).below hB.out)
          have ZM := Lib.hid (show zs.map (fun y : Fs => y.1) = (T.filter fun f => decide (f.2.1 = nmOf t)) by
            rw [← hzs0, ← HYS.out, List.filter_map]; rfl)
          have NN := Lib.hid (show ((T.filter fun f => decide (f.2.1 = ⟨#[110, 111, 110, 101]⟩)).length = 0) by
            rw [List.length_eq_zero_iff, List.filter_eq_nil_iff]
            intro f hf
            obtain ⟨x, hx⟩ := HTN.out f hf
            rw [hx]
            have : ∀ x, nmOf x ≠ ⟨#[110, 111, 110, 101]⟩ := by
              intro x
              unfold nmOf
              split
              · decide
              · split <;> decide
            simpa using this x)
          have hnc := NC.out _ BW.out
          rw [Int.tmod_eq_emod_of_nonneg ht1] at hnc
          have hx3 : 0 ≤ t % 3 := by omega
          have hx4 : t % 3 < 3 := by omega
          clear hO hO2 hro hzs0 hlt hk
          generalize hnm0 : nmOf t = nm at *
          clear hnm0
          go_wp2_with fail
          refine (of_y nm (IN.out _ BW.out)).mono ?_
          rintro e w7 ⟨A7, us, rfl, hus, ho7, hf7, b7⟩
          have B7 := Lib.hid b7
          have BW7 := Lib.hid (BW.out.trans (b7.mono BW.out.size))
          have US := Lib.hid hus
          have F7 := Lib.hid hf7
          obtain ⟨A7', c7', e7, hr7, _, _, _⟩ := ho7.rows (N := fun _ => False) fsc_len (by decide) (fun _ _ h => h)
          obtain rfl : A7 = A7' := by injection e7
          have R7 := Lib.hid hr7
          have hul : us.length ≤ 1000 := by
            rw [← List.length_map (f := (fun y : Fs => y.1)), hus]
            exact Nat.le_trans (List.length_filter_le _ _) (by have := hTL.out; omega)
          clear e7 hus ho7 hf7 hr7 b7 hnc
          go_wp2_with fail
          have OC := Lib.hid (ofP_c A7 us.length us w7 R7.out hul)
          (with_reducible refine OC.out.mono ?_)
          rintro e w8 ⟨v8, rfl, ho8, b8⟩
          have B8 := Lib.hid (B7.out.trans (b8.mono B7.out.size))
          have B78 := Lib.hid b8
          have BW8 := Lib.hid (BW7.out.trans (b8.mono BW7.out.size))
          obtain ⟨A8, c8, e8, hr8, _, _, _⟩ := ho8.rows (N := fun _ => False) fsc_len (by decide) (fun _ _ h => h)
          subst e8
          have R8 := Lib.hid hr8
          clear ho8 hr8 b8 OC R7
          go_wp2_with fail
          have SC := Lib.hid (sameP_c A8 c8 us Ao co zs w8 R8.out (RO.out.below B8.out) hul hzl (fun y hy => ⟨RowsAt.mono ((F7.out y hy).below B78.out).arg.row (fun _ h => h.elim), (F7.out y hy).few⟩) (fun y hy => ⟨RowsAt.mono ((FZ.out y hy).below B8.out).arg.row (fun _ h => h.elim), (FZ.out y hy).few⟩))
          have SD := Lib.hid (show decide (us.map (fun y : Fs => y.1) = zs.map (fun y : Fs => y.1)) = true by rw [US.out, ZM.out]; exact decide_eq_true rfl)
          rw [SD.out] at SC
          (with_reducible refine SC.out.mono ?_)
          rintro e w9 ⟨rfl, b9⟩
          have BW9 := Lib.hid (BW8.out.trans (b9.mono BW8.out.size))
          clear b9 SC SD
          go_wp2_with fail
          refine (of_n ⟨#[110, 111, 110, 101]⟩ (IN.out _ BW9.out) NN.out).mono ?_
          rintro e w10 ⟨A10, rfl, _, b10⟩
          have BW10 := Lib.hid (BW9.out.trans (b10.mono BW9.out.size))
          clear b10
          go_wp2_with fail
          go_ret
          exact ⟨rfl, HTW.out _ BW10.out⟩
set_option maxRecDepth 100000 in
theorem kinds_long (A : Option Addr) (c : Nat) (l : List Int) (t : Int) (w : World) (ht : Tab w) (hl : 100 < l.length) : Calls Tryd.prog 4 #[.slice A l.length c, .int .u8 t] w fun e w' => e = .returned (.bool true) ∧ Below w.heap.size w w' := by
  have HT := Lib.hid ht
  have hlI : 100 < (l.length : Int) := by omega
  clear ht
  go_enter Tryd.func4, Tryd.ntmps4
  go_wp2_with fail
  refine (known_c w HT.out).mono ?_
  rintro e w1 ⟨rfl, b1⟩
  have E1 := Lib.hid b1; clear b1
  go_wp2_with fail
  go_ret
  exact ⟨rfl, E1.out⟩
theorem u8b {n : Int} (h : (Lit.int .u8 n).wf = true) : 0 ≤ n ∧ n ≤ 255 := by
  have := h
  simp only [Lit.wf, Bool.and_eq_true, decide_eq_true_eq] at this
  exact this
theorem memoryKinds_any (A : Option Addr) (c : Nat) (l : List Int) (t : Int) (w : World) (ht : Tab w) (hr : RowAt w (Value.int .u8) A l) (hw : ∀ n ∈ l, (Lit.int .u8 n).wf = true) (h2 : (Lit.int .u8 t).wf = true) : Calls Tryd.prog 4 #[.slice A l.length c, .int .u8 t] w fun e w' => e = .returned (.bool true) ∧ Below w.heap.size w w' := by
  by_cases hl : l.length ≤ 100
  · exact kinds_good A c l t w ht hr (fun n hn => u8b (hw n hn)) hl (u8b h2).1 (u8b h2).2
  · exact kinds_long A c l t w ht (by omega)
end Go.Proofs.YtoaepnidlddmjaaDoor
