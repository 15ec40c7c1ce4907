/- BuiltTypes: names of numbers refuse all that is none, wherever it stands. -/
import Derived.Test.YtmadnehipagakaaDoorLv
import Derived.Test.YtmadnehipagakaaDoorNe
namespace Go.Proofs.YtmadnehipagakaaDoor
open Go.RowKit Go.Lib Go.Sort KP
theorem put3g {B g a b c : Nat} {W W1 : World} {x y z : Value} (hg : B ≤ g) (h : Below B W W1) : Below B W (((W1.setCell ⟨g, a, none⟩ x).setCell ⟨g, b, none⟩ y).setCell ⟨g, c, none⟩ z) := ((h.setCell hg _).setCell hg _).setCell hg _
theorem rright_v (a : Vl) (r : Bool) (h : rightB a = r) (hs : cameV a) (W : World) : Calls Tryd.prog 17 #[a.val] W fun e w' => e = .returned (.bool r) ∧ Below W.heap.size W w' := by
  rw [← h]; exact rright_c a W hs.s
theorem refuses {s : ByteArray} {l : List Vl} {k : Nat} {lo : Int} (hs : knownB s = true) (ha : arity s = (lo, -1)) (hlo : lo ≤ 2) (hc : code s = k) (hk : ∀ l, applyN k l = if allInt l then numN k (nums l) else (v0, 8)) (h2 : 2 ≤ l.length) (hn : allInt l = false) : applyO s l = (v0, 8) := by
  rw [apply_of hs (by rw [ha]; unfold fits; simp; omega) hc, hk, hn]
  rfl
def nineB : List ByteArray := [⟨#[43]⟩, ⟨#[45]⟩, ⟨#[42]⟩, ⟨#[109, 105, 110]⟩, ⟨#[109, 97, 120]⟩, ⟨#[60]⟩, ⟨#[60, 61]⟩, ⟨#[62]⟩, ⟨#[62, 61]⟩]
theorem nine_refuse {s : ByteArray} (hs : s ∈ nineB) {l : List Vl} (h2 : 2 ≤ l.length) (hn : allInt l = false) : applyO s l = (v0, 8) := by
  simp only [nineB, List.mem_cons, List.not_mem_nil, or_false] at hs
  rcases hs with rfl | rfl | rfl | rfl | rfl | rfl | rfl | rfl | rfl
  · exact refuses (lo := 0) (k := 1) (by decide +kernel) (by decide +kernel) (by omega) (by decide +kernel) (fun _ => rfl) h2 hn
  · exact refuses (lo := 1) (k := 2) (by decide +kernel) (by decide +kernel) (by omega) (by decide +kernel) (fun _ => rfl) h2 hn
  · exact refuses (lo := 0) (k := 0) (by decide +kernel) (by decide +kernel) (by omega) (by decide +kernel) (fun _ => rfl) h2 hn
  · exact refuses (lo := 1) (k := 14) (by decide +kernel) (by decide +kernel) (by omega) (by decide +kernel) (fun _ => rfl) h2 hn
  · exact refuses (lo := 1) (k := 13) (by decide +kernel) (by decide +kernel) (by omega) (by decide +kernel) (fun _ => rfl) h2 hn
  · exact refuses (lo := 2) (k := 3) (by decide +kernel) (by decide +kernel) (by omega) (by decide +kernel) (fun _ => rfl) h2 hn
  · exact refuses (lo := 2) (k := 4) (by decide +kernel) (by decide +kernel) (by omega) (by decide +kernel) (fun _ => rfl) h2 hn
  · exact refuses (lo := 2) (k := 7) (by decide +kernel) (by decide +kernel) (by omega) (by decide +kernel) (fun _ => rfl) h2 hn
  · exact refuses (lo := 2) (k := 8) (by decide +kernel) (by decide +kernel) (by omega) (by decide +kernel) (fun _ => rfl) h2 hn
set_option maxRecDepth 100000 in
set_option maxHeartbeats 4000000 in
theorem types_1 (m : Int) (A : Option Addr) (c : Nat) (l : List Int) (at_ : Int) (v : Vl) (w : World) (ht : Tab w) (h : l.length < 2) :
    Calls Tryd.prog 5 #[.int .u8 m, .slice A l.length c, .int .i64 at_, v.val] w fun e w' => e = .returned (.bool true) ∧ Below w.heap.size w w' := by
  have KN := Lib.hid (fun W (h : Below w.heap.size w W) => known_any W (ht.b h))
  obtain ⟨a1, a2, a3⟩ := v
  have hB := one_box w (a1, a2, a3) 32
  dsimp only at hB
  have hI : (l.length : Int) < 2 := by omega
  clear h ht
  go_enter Tryd.func5, Tryd.ntmps5
  go_wp2_with fail
  generalize hw2 : w.alloc (.cells #[.int .i64 a1, .int .i64 a2, .string a3] 32) = wb at hB ⊢
  clear hw2
  obtain ⟨⟨c0, c1, c2⟩, hb0, hz⟩ := hB
  have E0 := Lib.hid hb0
  have HA : Hid (∀ W, Below wb.heap.size wb W → (W.cell? ⟨w.heap.size, 0, none⟩ = some (.int .i64 a1) ∧ W.cell? ⟨w.heap.size, 1, none⟩ = some (.int .i64 a2) ∧ W.cell? ⟨w.heap.size, 2, none⟩ = some (.string a3))) :=
    Lib.hid (fun W h => ⟨(h.cell (p := ⟨w.heap.size, 0, none⟩) (by show w.heap.size < _; omega)).trans c0, (h.cell (p := ⟨w.heap.size, 1, none⟩) (by show w.heap.size < _; omega)).trans c1, (h.cell (p := ⟨w.heap.size, 2, none⟩) (by show w.heap.size < _; omega)).trans c2⟩)
  have HZ := Lib.hid hz
  clear c0 c1 c2 hb0 hz
  refine (KN.out wb E0.out).mono ?_
  rintro e w1 ⟨rfl, k1⟩
  have B1 := Lib.hid k1
  obtain ⟨c0, c1, c2⟩ := HA.out _ B1.out
  clear k1
  go_wp2_with fail
  go_ret
  exact ⟨rfl, E0.out.trans (B1.out.mono E0.out.size)⟩
set_option maxRecDepth 100000 in
set_option maxHeartbeats 4000000 in
theorem types_2 (m : Int) (A : Option Addr) (c : Nat) (l : List Int) (at_ : Int) (v : Vl) (w : World) (ht : Tab w) (h : 20 < l.length) :
    Calls Tryd.prog 5 #[.int .u8 m, .slice A l.length c, .int .i64 at_, v.val] w fun e w' => e = .returned (.bool true) ∧ Below w.heap.size w w' := by
  have KN := Lib.hid (fun W (h : Below w.heap.size w W) => known_any W (ht.b h))
  obtain ⟨a1, a2, a3⟩ := v
  have hB := one_box w (a1, a2, a3) 32
  dsimp only at hB
  have hI : (20 : Int) < (l.length : Int) := by omega
  clear h ht
  go_enter Tryd.func5, Tryd.ntmps5
  go_wp2_with fail
  generalize hw2 : w.alloc (.cells #[.int .i64 a1, .int .i64 a2, .string a3] 32) = wb at hB ⊢
  clear hw2
  obtain ⟨⟨c0, c1, c2⟩, hb0, hz⟩ := hB
  have E0 := Lib.hid hb0
  have HA : Hid (∀ W, Below wb.heap.size wb W → (W.cell? ⟨w.heap.size, 0, none⟩ = some (.int .i64 a1) ∧ W.cell? ⟨w.heap.size, 1, none⟩ = some (.int .i64 a2) ∧ W.cell? ⟨w.heap.size, 2, none⟩ = some (.string a3))) :=
    Lib.hid (fun W h => ⟨(h.cell (p := ⟨w.heap.size, 0, none⟩) (by show w.heap.size < _; omega)).trans c0, (h.cell (p := ⟨w.heap.size, 1, none⟩) (by show w.heap.size < _; omega)).trans c1, (h.cell (p := ⟨w.heap.size, 2, none⟩) (by show w.heap.size < _; omega)).trans c2⟩)
  have HZ := Lib.hid hz
  clear c0 c1 c2 hb0 hz
  refine (KN.out wb E0.out).mono ?_
  rintro e w1 ⟨rfl, k1⟩
  have B1 := Lib.hid k1
  obtain ⟨c0, c1, c2⟩ := HA.out _ B1.out
  clear k1
  go_wp2_with fail
  go_ret
  exact ⟨rfl, E0.out.trans (B1.out.mono E0.out.size)⟩
set_option maxRecDepth 100000 in
set_option maxHeartbeats 4000000 in
theorem types_3 (m : Int) (A : Option Addr) (c : Nat) (l : List Int) (at_ : Int) (v : Vl) (w : World) (ht : Tab w) (h2 : 2 ≤ l.length) (h20 : l.length ≤ 20) (h : at_ < 0) :
    Calls Tryd.prog 5 #[.int .u8 m, .slice A l.length c, .int .i64 at_, v.val] w fun e w' => e = .returned (.bool true) ∧ Below w.heap.size w w' := by
  have KN := Lib.hid (fun W (h : Below w.heap.size w W) => known_any W (ht.b h))
  obtain ⟨a1, a2, a3⟩ := v
  have hB := one_box w (a1, a2, a3) 32
  dsimp only at hB
  have hI1 : (2 : Int) ≤ (l.length : Int) := by omega
  have hI2 : (l.length : Int) ≤ 20 := by omega
  clear h2 h20 ht
  go_enter Tryd.func5, Tryd.ntmps5
  go_wp2_with fail
  generalize hw2 : w.alloc (.cells #[.int .i64 a1, .int .i64 a2, .string a3] 32) = wb at hB ⊢
  clear hw2
  obtain ⟨⟨c0, c1, c2⟩, hb0, hz⟩ := hB
  have E0 := Lib.hid hb0
  have HA : Hid (∀ W, Below wb.heap.size wb W → (W.cell? ⟨w.heap.size, 0, none⟩ = some (.int .i64 a1) ∧ W.cell? ⟨w.heap.size, 1, none⟩ = some (.int .i64 a2) ∧ W.cell? ⟨w.heap.size, 2, none⟩ = some (.string a3))) :=
    Lib.hid (fun W h => ⟨(h.cell (p := ⟨w.heap.size, 0, none⟩) (by show w.heap.size < _; omega)).trans c0, (h.cell (p := ⟨w.heap.size, 1, none⟩) (by show w.heap.size < _; omega)).trans c1, (h.cell (p := ⟨w.heap.size, 2, none⟩) (by show w.heap.size < _; omega)).trans c2⟩)
  have HZ := Lib.hid hz
  clear c0 c1 c2 hb0 hz
  refine (KN.out wb E0.out).mono ?_
  rintro e w1 ⟨rfl, k1⟩
  have B1 := Lib.hid k1
  obtain ⟨c0, c1, c2⟩ := HA.out _ B1.out
  clear k1
  go_wp2_with fail
  go_ret
  exact ⟨rfl, E0.out.trans (B1.out.mono E0.out.size)⟩
set_option maxRecDepth 100000 in
set_option maxHeartbeats 4000000 in
theorem types_4 (m : Int) (A : Option Addr) (c : Nat) (l : List Int) (at_ : Int) (v : Vl) (w : World) (ht : Tab w) (h2 : 2 ≤ l.length) (h20 : l.length ≤ 20) (h0 : 0 ≤ at_) (hx : cameV v) (hr : rightB v = false) :
    Calls Tryd.prog 5 #[.int .u8 m, .slice A l.length c, .int .i64 at_, v.val] w fun e w' => e = .returned (.bool true) ∧ Below w.heap.size w w' := by
  have RA := Lib.hid (rright_v v false hr hx)
  have KN := Lib.hid (fun W (h : Below w.heap.size w W) => known_any W (ht.b h))
  obtain ⟨a1, a2, a3⟩ := v
  have hB := one_box w (a1, a2, a3) 32
  dsimp only at hB
  have hI1 : (2 : Int) ≤ (l.length : Int) := by omega
  have hI2 : (l.length : Int) ≤ 20 := by omega
  clear h2 h20 ht hr hx
  go_enter Tryd.func5, Tryd.ntmps5
  go_wp2_with fail
  generalize hw2 : w.alloc (.cells #[.int .i64 a1, .int .i64 a2, .string a3] 32) = wb at hB ⊢
  clear hw2
  obtain ⟨⟨c0, c1, c2⟩, hb0, hz⟩ := hB
  have E0 := Lib.hid hb0
  have HA : Hid (∀ W, Below wb.heap.size wb W → (W.cell? ⟨w.heap.size, 0, none⟩ = some (.int .i64 a1) ∧ W.cell? ⟨w.heap.size, 1, none⟩ = some (.int .i64 a2) ∧ W.cell? ⟨w.heap.size, 2, none⟩ = some (.string a3))) :=
    Lib.hid (fun W h => ⟨(h.cell (p := ⟨w.heap.size, 0, none⟩) (by show w.heap.size < _; omega)).trans c0, (h.cell (p := ⟨w.heap.size, 1, none⟩) (by show w.heap.size < _; omega)).trans c1, (h.cell (p := ⟨w.heap.size, 2, none⟩) (by show w.heap.size < _; omega)).trans c2⟩)
  have HZ := Lib.hid hz
  clear c0 c1 c2 hb0 hz
  refine (KN.out wb E0.out).mono ?_
  rintro e w1 ⟨rfl, k1⟩
  have B1 := Lib.hid k1
  obtain ⟨c0, c1, c2⟩ := HA.out _ B1.out
  clear k1
  go_wp2_with fail
  refine (RA.out _).mono ?_
  rintro e w2 ⟨rfl, k2⟩
  clear c0 c1 c2
  have B2 := Lib.hid (B1.out.trans (k2.mono B1.out.size))
  obtain ⟨c0, c1, c2⟩ := HA.out _ B2.out
  clear k2
  go_wp2_with fail
  go_ret
  exact ⟨rfl, E0.out.trans (B2.out.mono E0.out.size)⟩
set_option maxRecDepth 100000 in
set_option maxHeartbeats 4000000 in
theorem types_5 (m : Int) (A : Option Addr) (c : Nat) (l : List Int) (at_ : Int) (v : Vl) (w : World) (ht : Tab w) (h2 : 2 ≤ l.length) (h20 : l.length ≤ 20) (h0 : 0 ≤ at_) (hx : cameV v) (hr : rightB v = true) (h1 : v.1 = 1) :
    Calls Tryd.prog 5 #[.int .u8 m, .slice A l.length c, .int .i64 at_, v.val] w fun e w' => e = .returned (.bool true) ∧ Below w.heap.size w w' := by
  have RA := Lib.hid (rright_v v true hr hx)
  have KN := Lib.hid (fun W (h : Below w.heap.size w W) => known_any W (ht.b h))
  obtain ⟨a1, a2, a3⟩ := v
  have hB := one_box w (a1, a2, a3) 32
  dsimp only at hB
  have hI1 : (2 : Int) ≤ (l.length : Int) := by omega
  have hI2 : (l.length : Int) ≤ 20 := by omega
  dsimp only at h1
  have e1 : (a1 == 1) = true := by simp [h1]
  clear h2 h20 ht hr hx h1
  go_enter Tryd.func5, Tryd.ntmps5
  go_wp2_with fail
  generalize hw2 : w.alloc (.cells #[.int .i64 a1, .int .i64 a2, .string a3] 32) = wb at hB ⊢
  clear hw2
  obtain ⟨⟨c0, c1, c2⟩, hb0, hz⟩ := hB
  have E0 := Lib.hid hb0
  have HA : Hid (∀ W, Below wb.heap.size wb W → (W.cell? ⟨w.heap.size, 0, none⟩ = some (.int .i64 a1) ∧ W.cell? ⟨w.heap.size, 1, none⟩ = some (.int .i64 a2) ∧ W.cell? ⟨w.heap.size, 2, none⟩ = some (.string a3))) :=
    Lib.hid (fun W h => ⟨(h.cell (p := ⟨w.heap.size, 0, none⟩) (by show w.heap.size < _; omega)).trans c0, (h.cell (p := ⟨w.heap.size, 1, none⟩) (by show w.heap.size < _; omega)).trans c1, (h.cell (p := ⟨w.heap.size, 2, none⟩) (by show w.heap.size < _; omega)).trans c2⟩)
  have HZ := Lib.hid hz
  clear c0 c1 c2 hb0 hz
  refine (KN.out wb E0.out).mono ?_
  rintro e w1 ⟨rfl, k1⟩
  have B1 := Lib.hid k1
  obtain ⟨c0, c1, c2⟩ := HA.out _ B1.out
  clear k1
  go_wp2_with fail
  refine (RA.out _).mono ?_
  rintro e w2 ⟨rfl, k2⟩
  clear c0 c1 c2
  have B2 := Lib.hid (B1.out.trans (k2.mono B1.out.size))
  obtain ⟨c0, c1, c2⟩ := HA.out _ B2.out
  clear k2
  go_wp2_with fail
  go_ret
  exact ⟨rfl, E0.out.trans (B2.out.mono E0.out.size)⟩
set_option maxRecDepth 100000 in
set_option maxHeartbeats 4000000 in
theorem types_6 (m : Int) (A : Option Addr) (c : Nat) (l : List Int) (at_ : Int) (v : Vl) (w : World) (ht : Tab w) (h2 : 2 ≤ l.length) (h20 : l.length ≤ 20) (h0 : 0 ≤ at_) (hx : cameV v) (hr : rightB v = true) (h1 : v.1 ≠ 1) (hla : RowAt w (Value.int .i64) A l) (hlk : ∀ n ∈ l, okI n) (hm0 : 0 ≤ m) (hat : at_ ≤ 9223372036854775807) :
    Calls Tryd.prog 5 #[.int .u8 m, .slice A l.length c, .int .i64 at_, v.val] w fun e w' => e = .returned (.bool true) ∧ Below w.heap.size w w' := by
  have RA := Lib.hid (rright_v v true hr hx)
  obtain ⟨p0, rfl⟩ := Int.eq_ofNat_of_zero_le h0
  obtain ⟨m0, rfl⟩ := Int.eq_ofNat_of_zero_le hm0
  have hok := right_okV hr hx
  have hp : p0 % l.length < l.length := Nat.mod_lt _ (by omega)
  have hAL : allInt ((l.map vI).set (p0 % l.length) v) = false := by
    unfold allInt
    rw [List.all_eq_false]
    exact ⟨v, List.mem_set (by simpa using hp) v, by simpa using h1⟩
  have hOK : ∀ x ∈ (l.map vI).set (p0 % l.length) v, okV x := by
    intro x hx2
    rcases List.mem_or_eq_of_mem_set hx2 with h | h
    · obtain ⟨y, hy, rfl⟩ := List.mem_map.1 h
      exact okV_I (hlk y hy)
    · rw [h]; exact hok
  have TT := Lib.hid (fun W (h : Below w.heap.size w W) => ht.b h)
  have AP := Lib.hid (fun (s : ByteArray) (hs : s ∈ nineB) c W (h : Below w.heap.size w W) g (hv : ValsAt W (some ⟨g, 0, none⟩) ((l.map vI).set (p0 % l.length) v)) => by
    have := apply_c s (some ⟨g, 0, none⟩) c _ W (TT.out W h) hv hOK (by simp; omega)
    rw [nine_refuse hs (by simp; omega) hAL] at this
    simpa using this)
  have R := Lib.hid (fun W (h : Below w.heap.size w W) => hla.below h)
  have KN := Lib.hid (fun W (h : Below w.heap.size w W) => known_any W (ht.b h))
  obtain ⟨a1, a2, a3⟩ := v
  have hB := one_box w (a1, a2, a3) 32
  dsimp only at hB
  have hI1 : (2 : Int) ≤ (l.length : Int) := by omega
  have hI2 : (l.length : Int) ≤ 20 := by omega
  dsimp only at h1
  have e1 : (a1 == 1) = false := by simp [h1]
  have hp0 : (p0 : Int) ≤ 9223372036854775807 := hat
  have HP := Lib.hid hp
  have H20 := Lib.hid (And.intro h2 h20)
  clear h2 h20 ht hr hx h1 hla hlk hok hAL hOK hp h0 hm0 hat
  obtain ⟨i32, hi, hz0, hz1, hz2⟩ := info_parts infoV
  go_enter Tryd.func5, Tryd.ntmps5
  go_wp2_with fail
  generalize hw2 : w.alloc (.cells #[.int .i64 a1, .int .i64 a2, .string a3] 32) = wb at hB ⊢
  clear hw2
  obtain ⟨⟨c0, c1, c2⟩, hb0, hz⟩ := hB
  have E0 := Lib.hid hb0
  have HA : Hid (∀ W, Below wb.heap.size wb W → (W.cell? ⟨w.heap.size, 0, none⟩ = some (.int .i64 a1) ∧ W.cell? ⟨w.heap.size, 1, none⟩ = some (.int .i64 a2) ∧ W.cell? ⟨w.heap.size, 2, none⟩ = some (.string a3))) :=
    Lib.hid (fun W h => ⟨(h.cell (p := ⟨w.heap.size, 0, none⟩) (by show w.heap.size < _; omega)).trans c0, (h.cell (p := ⟨w.heap.size, 1, none⟩) (by show w.heap.size < _; omega)).trans c1, (h.cell (p := ⟨w.heap.size, 2, none⟩) (by show w.heap.size < _; omega)).trans c2⟩)
  have HZ := Lib.hid hz
  clear c0 c1 c2 hb0 hz
  refine (KN.out wb E0.out).mono ?_
  rintro e w1 ⟨rfl, k1⟩
  have B1 := Lib.hid k1
  obtain ⟨c0, c1, c2⟩ := HA.out _ B1.out
  clear k1
  go_wp2_with fail
  refine (RA.out _).mono ?_
  rintro e w2 ⟨rfl, k2⟩
  clear c0 c1 c2
  have B2 := Lib.hid (B1.out.trans (k2.mono B1.out.size))
  obtain ⟨c0, c1, c2⟩ := HA.out _ B2.out
  clear k2
  go_wp2_with fail
  have EW2 := Lib.hid (E0.out.trans (B2.out.mono E0.out.size))
  clear c0 c1 c2
  go_loopw [9, 10] (fun o i wr => ∃ k : Nat, k ≤ l.length ∧ i = .int .i64 k ∧ Hid (wr.ownsRow wb.heap.size 32 3 o k (valsC ((l.map vI).take k))) ∧ Hid (Below wb.heap.size wb wr)) (fun _ i _ => l.length - (intOf i).toNat)
  case atStart => exact ⟨0, by omega, rfl, Lib.hid (World.ownsRow_nil _ _ _ _), B2⟩
  case round =>
    obtain ⟨k, hk, rfl, hO, hB⟩ := hrel
    have EW := Lib.hid (E0.out.trans (hB.out.mono E0.out.size))
    by_cases hlt : k < l.length
    · have hltI : (k : Int) < (l.length : Int) := by omega
      obtain ⟨ad, rfl, _, hc⟩ := R.out _ EW.out k hlt
      have hN := Lib.hid (show valsC ((l.map vI).take (k + 1)) = valsC ((l.map vI).take k) ++ v3 (vI l[k]) by rw [List.take_succ_eq_append_getElem (by simpa using hlt), List.getElem_map]; exact valsC_snoc _ _)
      generalize l[k] = x at *
      go_wp2_with fail
      refine (rInt_c x _).mono ?_
      rintro e w3 ⟨rfl, b3⟩
      have B3 := Lib.hid (hB.out.trans (b3.mono hB.out.size))
      have O3 := Lib.hid ((ownsRow_keep hO.out (Keep.of_below b3 (fun _ => False)) (fun _ _ h => h)).alloc (.cells #[.int .i64 1, .int .i64 x, .string ⟨#[]⟩] 32))
      have N3 := Lib.hid (new_at (v := vI x) (heap_alloc_new w3 (.cells #[.int .i64 1, .int .i64 x, .string ⟨#[]⟩] 32)))
      have B4 := Lib.hid (B3.out.alloc B3.out.size (.cells #[.int .i64 1, .int .i64 x, .string ⟨#[]⟩] 32))
      have EW4 := Lib.hid (E0.out.trans (B4.out.mono E0.out.size))
      clear b3
      go_wp2_with (at_builtin; refine wpList_append_own _ rfl (.tmp 44) (.tmp 50) 30 rfl wb.heap.size 32 i32 zV 3 32 Tryd.underlying30 hi hz0 hz1 hz2 rfl (by decide) _ k _ rfl O3.out ⟨w3.heap.size, 0, none⟩ 1 1 (v3 (vI x)) rfl rfl N3.out (v3_flat (vI x)) (by unfold maxLen; omega) (by omega) B4.out.size ?_)
      intro v' w5 hown hg hnil
      have hown2 : Hid (w5.ownsRow wb.heap.size 32 3 v' (k + 1) (valsC ((l.map vI).take (k + 1)))) := Lib.hid (by rw [hN.out]; exact hown)
      have hB5 := Lib.hid (B4.out.grown hg B4.out.size (fun q hq => (O3.out.lt q hq).1))
      clear hown hg hnil hN
      go_wp2_with fail
      exact ⟨⟨k + 1, by omega, by go_num, hown2, hB5⟩, by simp [intOf]; omega⟩
    · obtain rfl : k = l.length := by omega
      rw [show (l.map vI).take l.length = l.map vI from List.take_of_length_le (by simp)] at hO
      obtain ⟨hln, ho⟩ := vals_owns hO.out
      rcases ho with ⟨h, _⟩ | ⟨g, cp, cur, rfl, hg, hBg, hcp, hcur⟩
      · omega
      have hg3 : Hid (∀ W : World, W.heap[g]? = some (.cells cur 32 (0, 0)) → (W.frozen? ⟨g, p0 % l.length * 3, none⟩ = false ∧ W.frozen? ⟨g, p0 % l.length * 3 + 1, none⟩ = false ∧ W.frozen? ⟨g, p0 % l.length * 3 + 2, none⟩ = false)) := Lib.hid (fun W h => ⟨block_free h, block_free h, block_free h⟩)
      have HS : Hid (∀ W : World, Below wb.heap.size wb W → (fun W : World => Below wb.heap.size wb W ∧ W.cell? ⟨w.heap.size, 0, none⟩ = some (.int .i64 a1) ∧ W.cell? ⟨w.heap.size, 1, none⟩ = some (.int .i64 a2) ∧ W.cell? ⟨w.heap.size, 2, none⟩ = some (.string a3)) W) := Lib.hid (fun W h => ⟨h, (HA.out W h).1, (HA.out W h).2.1, (HA.out W h).2.2⟩)
      have hq : ((p0 : Int).tmod (l.length : Int)) = ((p0 % l.length : Nat) : Int) := by rw [Int.tmod_eq_emod_of_nonneg (by omega)]; rfl
      have hp2 := HP.out
      have hn0 : (l.length : Int) ≠ 0 := by omega
      have hne : l ≠ [] := by rintro rfl; simp at hn0
      have hqw : IntKind.i64.wrap ((p0 % l.length : Nat) : Int) = ((p0 % l.length : Nat) : Int) := IntWalk.i64_in _ (by omega)
      have hqi : (0 : Int) ≤ (p0 : Int) % (l.length : Int) := by omega
      have hql : (p0 : Int) % (l.length : Int) < (l.length : Int) := by omega
      have hqn : ((p0 : Int) % (l.length : Int)).toNat = p0 % l.length := by omega
      have HG := Lib.hid hg
      have G3 : Hid (wr.cell? ⟨g, p0 % l.length * 3, none⟩ = some (.int .i64 1) ∧ wr.cell? ⟨g, p0 % l.length * 3 + 1, none⟩ = some (.int .i64 (l[p0 % l.length]'hp2)) ∧ wr.cell? ⟨g, p0 % l.length * 3 + 2, none⟩ = some (.string ⟨#[]⟩)) := by
        refine Lib.hid ?_
        obtain ⟨q0, q1, q2⟩ := valsC_get (l := l.map vI) (k := p0 % l.length) (by simpa using hp2)
        rw [← hcur, List.getElem?_take_of_lt (by omega)] at q0 q1 q2
        rw [List.getElem_map] at q0 q1 q2
        exact ⟨block_cell hg (by simpa using q0), block_cell hg (by simpa using q1), block_cell hg (by simpa using q2)⟩
      clear hg
      go_wp2_with fail
      refine wp_region_held_drew (S := (fun W : World => Below wb.heap.size wb W ∧ W.cell? ⟨w.heap.size, 0, none⟩ = some (.int .i64 a1) ∧ W.cell? ⟨w.heap.size, 1, none⟩ = some (.int .i64 a2) ∧ W.cell? ⟨w.heap.size, 2, none⟩ = some (.string a3))) (by kernel_rfl) (HS.out _ (belN hB.out 1)) (fun hHeld => ?_)
      refine wpAnyH_take (i := 0) (oi := ⟨_, _, _, _, _, _⟩) (v := ?_) rfl (by kernel_rfl) (by kernel_rfl) (by kernel_rfl) (fun _ _ _ h => h) (Or.inl ⟨by rfl, ?_⟩) (by assumption) ?_
      rotate_left
      · intro w' hSw; (try dsimp only at hSw); go_simp; (try with_reducible rfl)
      try simp only [Act.put, List.setIfInBounds_toArray, List.set_cons_zero, List.set_cons_succ]
      refine wpAnyH_take (i := 1) (oi := ⟨_, _, _, _, _, _⟩) (v := ?_) rfl (by kernel_rfl) (by kernel_rfl) (by kernel_rfl) (fun _ _ _ h => h) (Or.inl ⟨by rfl, ?_⟩) (by assumption) ?_
      rotate_left
      · intro w' hSw; (try dsimp only at hSw); go_simp; (try with_reducible rfl)
      try simp only [Act.put, List.setIfInBounds_toArray, List.set_cons_zero, List.set_cons_succ]
      refine wpAnyH_take (i := 2) (oi := ⟨_, _, _, _, _, _⟩) (v := ?_) rfl (by kernel_rfl) (by kernel_rfl) (by kernel_rfl) (fun _ _ _ h => h) (Or.inl ⟨by rfl, ?_⟩) (by assumption) ?_
      rotate_left
      · intro w' hSw; (try dsimp only at hSw); go_simp; (try with_reducible rfl)
      try simp only [Act.put, List.setIfInBounds_toArray, List.set_cons_zero, List.set_cons_succ]
      refine wpAnyH_take (i := 3) (oi := ⟨_, _, _, _, _, _⟩) (v := ?_) rfl (by kernel_rfl) (by kernel_rfl) (by kernel_rfl) (fun _ _ _ h => h) (Or.inl ⟨by rfl, ?_⟩) (by assumption) ?_
      rotate_left
      · intro w' hSw; (try dsimp only at hSw); go_simp; (try with_reducible rfl)
      try simp only [Act.put, List.setIfInBounds_toArray, List.set_cons_zero, List.set_cons_succ]
      refine wpAnyH_take (i := 4) (oi := ⟨_, _, _, _, _, _⟩) (v := ?_) rfl (by kernel_rfl) (by kernel_rfl) (by kernel_rfl) (fun _ _ _ h => h) (Or.inl ⟨by rfl, ?_⟩) (by assumption) ?_
      rotate_left
      · intro w' hSw; (try dsimp only at hSw); go_simp; (try with_reducible rfl)
      try simp only [Act.put, List.setIfInBounds_toArray, List.set_cons_zero, List.set_cons_succ]
      refine wpAnyH_take (i := 5) (oi := ⟨_, _, _, _, _, _⟩) (v := ?_) rfl (by kernel_rfl) (by kernel_rfl) (by kernel_rfl) (fun _ _ _ h => h) (Or.inl ⟨by rfl, ?_⟩) (by assumption) ?_
      rotate_left
      · intro w' hSw; (try dsimp only at hSw); go_simp; (try with_reducible rfl)
      try simp only [Act.put, List.setIfInBounds_toArray, List.set_cons_zero, List.set_cons_succ]
      refine wpAnyH_take (i := 6) (oi := ⟨_, _, _, _, _, _⟩) (v := ?_) rfl (by kernel_rfl) (by kernel_rfl) (by kernel_rfl) (fun _ _ _ h => h) (Or.inl ⟨by rfl, ?_⟩) (by assumption) ?_
      rotate_left
      · intro w' hSw; (try dsimp only at hSw); go_simp; (try with_reducible rfl)
      try simp only [Act.put, List.setIfInBounds_toArray, List.set_cons_zero, List.set_cons_succ]
      obtain ⟨f0, f1, f2⟩ := hg3.out wr HG.out
      obtain ⟨g0, g1, g2⟩ := G3.out
      refine wpAnyH_ready (rs := [7]) (by kernel_rfl) (by simp) ?_
      refine AllReadyH.cons (o := ⟨_, _, _, _, _, _⟩) rfl (fun K9 hK9 => ?_) AllReadyH.nil
      go_simp
      refine hK9.out _ _ (HS.out _ (belN (put3g hBg hB.out) 1)) (fun hHeld => ?_)
      clear hK9 K9
      try simp only [Act.put, List.setIfInBounds_toArray, List.set_cons_zero, List.set_cons_succ]
      refine wpAnyH_done (by kernel_rfl) ?_ _
      have hV : Hid (ValsAt (((wr.setCell ⟨g, p0 % l.length * 3, none⟩ (.int .i64 a1)).setCell ⟨g, p0 % l.length * 3 + 1, none⟩ (.int .i64 a2)).setCell ⟨g, p0 % l.length * 3 + 2, none⟩ (.string a3)).drew (some ⟨g, 0, none⟩) ((l.map vI).set (p0 % l.length) (a1, a2, a3))) := Lib.hid (vals_set HG.out hcur hln (p0 % l.length) (a1, a2, a3))
      have hB6 : Hid (Below wb.heap.size wb (((wr.setCell ⟨g, p0 % l.length * 3, none⟩ (.int .i64 a1)).setCell ⟨g, p0 % l.length * 3 + 1, none⟩ (.int .i64 a2)).setCell ⟨g, p0 % l.length * 3 + 2, none⟩ (.string a3)).drew) := Lib.hid (belN (put3g hBg hB.out) 1)
      clear hHeld f0 f1 f2 g0 g1 g2
      generalize (((wr.setCell ⟨g, p0 % l.length * 3, none⟩ (.int .i64 a1)).setCell ⟨g, p0 % l.length * 3 + 1, none⟩ (.int .i64 a2)).setCell ⟨g, p0 % l.length * 3 + 2, none⟩ (.string a3)).drew = w7 at *
      have E7 := Lib.hid (E0.out.trans (hB6.out.mono E0.out.size))
      have E8 := Lib.hid (E7.out.alloc E7.out.size (.cells #[.string ⟨#[43]⟩, .string ⟨#[45]⟩, .string ⟨#[42]⟩, .string ⟨#[109, 105, 110]⟩, .string ⟨#[109, 97, 120]⟩, .string ⟨#[60]⟩, .string ⟨#[60, 61]⟩, .string ⟨#[62]⟩, .string ⟨#[62, 61]⟩] 9))
      have V8 := Lib.hid (hV.out.below ((Below.refl w7.heap.size w7).alloc (Nat.le_refl _) (.cells #[.string ⟨#[43]⟩, .string ⟨#[45]⟩, .string ⟨#[42]⟩, .string ⟨#[109, 105, 110]⟩, .string ⟨#[109, 97, 120]⟩, .string ⟨#[60]⟩, .string ⟨#[60, 61]⟩, .string ⟨#[62]⟩, .string ⟨#[62, 61]⟩] 9)))
      clear G3 hg3 hqw hqi hql hqn hq hne hn0 hp2
      rcases (show m0 % 9 = 0 ∨ m0 % 9 = 1 ∨ m0 % 9 = 2 ∨ m0 % 9 = 3 ∨ m0 % 9 = 4 ∨ m0 % 9 = 5 ∨ m0 % 9 = 6 ∨ m0 % 9 = 7 ∨ m0 % 9 = 8 by omega) with hm | hm | hm | hm | hm | hm | hm | hm | hm
      · have hm2 : ((m0 : Int).tmod 9) = 0 := by rw [Int.tmod_eq_emod_of_nonneg (by omega)]; omega
        clear hm
        go_wp2_with fail
        refine (AP.out ⟨#[43]⟩ (by simp [nineB]) _ _ E8.out _ V8.out).mono ?_
        rintro e w9 ⟨rfl, b9⟩
        have E9 := Lib.hid (E8.out.trans (b9.mono E8.out.size)); clear b9
        unfold pairV
        go_wp2_with fail
        go_ret
        exact ⟨rfl, E9.out.alloc E9.out.size _⟩
      · have hm2 : ((m0 : Int).tmod 9) = 1 := by rw [Int.tmod_eq_emod_of_nonneg (by omega)]; omega
        clear hm
        go_wp2_with fail
        refine (AP.out ⟨#[45]⟩ (by simp [nineB]) _ _ E8.out _ V8.out).mono ?_
        rintro e w9 ⟨rfl, b9⟩
        have E9 := Lib.hid (E8.out.trans (b9.mono E8.out.size)); clear b9
        unfold pairV
        go_wp2_with fail
        go_ret
        exact ⟨rfl, E9.out.alloc E9.out.size _⟩
      · have hm2 : ((m0 : Int).tmod 9) = 2 := by rw [Int.tmod_eq_emod_of_nonneg (by omega)]; omega
        clear hm
        go_wp2_with fail
        refine (AP.out ⟨#[42]⟩ (by simp [nineB]) _ _ E8.out _ V8.out).mono ?_
        rintro e w9 ⟨rfl, b9⟩
        have E9 := Lib.hid (E8.out.trans (b9.mono E8.out.size)); clear b9
        unfold pairV
        go_wp2_with fail
        go_ret
        exact ⟨rfl, E9.out.alloc E9.out.size _⟩
      · have hm2 : ((m0 : Int).tmod 9) = 3 := by rw [Int.tmod_eq_emod_of_nonneg (by omega)]; omega
        clear hm
        go_wp2_with fail
        refine (AP.out ⟨#[109, 105, 110]⟩ (by simp [nineB]) _ _ E8.out _ V8.out).mono ?_
        rintro e w9 ⟨rfl, b9⟩
        have E9 := Lib.hid (E8.out.trans (b9.mono E8.out.size)); clear b9
        unfold pairV
        go_wp2_with fail
        go_ret
        exact ⟨rfl, E9.out.alloc E9.out.size _⟩
      · have hm2 : ((m0 : Int).tmod 9) = 4 := by rw [Int.tmod_eq_emod_of_nonneg (by omega)]; omega
        clear hm
        go_wp2_with fail
        refine (AP.out ⟨#[109, 97, 120]⟩ (by simp [nineB]) _ _ E8.out _ V8.out).mono ?_
        rintro e w9 ⟨rfl, b9⟩
        have E9 := Lib.hid (E8.out.trans (b9.mono E8.out.size)); clear b9
        unfold pairV
        go_wp2_with fail
        go_ret
        exact ⟨rfl, E9.out.alloc E9.out.size _⟩
      · have hm2 : ((m0 : Int).tmod 9) = 5 := by rw [Int.tmod_eq_emod_of_nonneg (by omega)]; omega
        clear hm
        go_wp2_with fail
        refine (AP.out ⟨#[60]⟩ (by simp [nineB]) _ _ E8.out _ V8.out).mono ?_
        rintro e w9 ⟨rfl, b9⟩
        have E9 := Lib.hid (E8.out.trans (b9.mono E8.out.size)); clear b9
        unfold pairV
        go_wp2_with fail
        go_ret
        exact ⟨rfl, E9.out.alloc E9.out.size _⟩
      · have hm2 : ((m0 : Int).tmod 9) = 6 := by rw [Int.tmod_eq_emod_of_nonneg (by omega)]; omega
        clear hm
        go_wp2_with fail
        refine (AP.out ⟨#[60, 61]⟩ (by simp [nineB]) _ _ E8.out _ V8.out).mono ?_
        rintro e w9 ⟨rfl, b9⟩
        have E9 := Lib.hid (E8.out.trans (b9.mono E8.out.size)); clear b9
        unfold pairV
        go_wp2_with fail
        go_ret
        exact ⟨rfl, E9.out.alloc E9.out.size _⟩
      · have hm2 : ((m0 : Int).tmod 9) = 7 := by rw [Int.tmod_eq_emod_of_nonneg (by omega)]; omega
        clear hm
        go_wp2_with fail
        refine (AP.out ⟨#[62]⟩ (by simp [nineB]) _ _ E8.out _ V8.out).mono ?_
        rintro e w9 ⟨rfl, b9⟩
        have E9 := Lib.hid (E8.out.trans (b9.mono E8.out.size)); clear b9
        unfold pairV
        go_wp2_with fail
        go_ret
        exact ⟨rfl, E9.out.alloc E9.out.size _⟩
      · have hm2 : ((m0 : Int).tmod 9) = 8 := by rw [Int.tmod_eq_emod_of_nonneg (by omega)]; omega
        clear hm
        go_wp2_with fail
        refine (AP.out ⟨#[62, 61]⟩ (by simp [nineB]) _ _ E8.out _ V8.out).mono ?_
        rintro e w9 ⟨rfl, b9⟩
        have E9 := Lib.hid (E8.out.trans (b9.mono E8.out.size)); clear b9
        unfold pairV
        go_wp2_with fail
        go_ret
        exact ⟨rfl, E9.out.alloc E9.out.size _⟩
theorem u8b {n : Int} (h : (Lit.int .u8 n).wf = true) : 0 ≤ n ∧ n ≤ 255 := by
  have := h
  simp only [Lit.wf, Bool.and_eq_true, decide_eq_true_eq] at this
  exact ⟨this.1, this.2⟩
theorem builtTypes_any (m : Int) (A : Option Addr) (c : Nat) (l : List Int) (at_ : Int) (v : Vl) (w : World) (ht : Tab w) (hm : (Lit.int .u8 m).wf = true) (ra : RowAt w (Value.int .i64) A l) (wa : ∀ n ∈ l, (Lit.int .i64 n).wf = true) (w2 : (Lit.int .i64 at_).wf = true) (hx : cameV v) :
    Calls Tryd.prog 5 #[.int .u8 m, .slice A l.length c, .int .i64 at_, v.val] w fun e w' => e = .returned (.bool true) ∧ Below w.heap.size w w' := by
  by_cases h2 : 2 ≤ l.length
  · by_cases h20 : l.length ≤ 20
    · by_cases h0 : 0 ≤ at_
      · cases hr : rightB v
        · exact types_4 m A c l at_ v w ht h2 h20 h0 hx hr
        · by_cases h1 : v.1 = 1
          · exact types_5 m A c l at_ v w ht h2 h20 h0 hx hr h1
          · exact types_6 m A c l at_ v w ht h2 h20 h0 hx hr h1 ra (fun n h => i64b (wa n h)) (u8b hm).1 (i64b w2).2
      · exact types_3 m A c l at_ v w ht h2 h20 (by omega)
    · exact types_2 m A c l at_ v w ht (by omega)
  · exact types_1 m A c l at_ v w ht (by omega)
end Go.Proofs.YtmadnehipagakaaDoor
