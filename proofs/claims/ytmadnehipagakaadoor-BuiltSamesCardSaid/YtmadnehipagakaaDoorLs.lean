/- BuiltSames: eq is what is the same, neq the contrary, = of numbers alone. -/
import Derived.Test.YtmadnehipagakaaDoorOa
import Derived.Test.YtmadnehipagakaaDoorNe
namespace Go.Proofs.YtmadnehipagakaaDoor
open Go.RowKit Go.Lib Go.Sort KP
theorem eq_val (a b : Vl) : applyO ⟨#[101, 113]⟩ [a, b] = (vB (decide (a = b)), 0) :=
  (apply_of (s := ⟨#[101, 113]⟩) (l := [a, b]) (k := 11) (by decide +kernel) (by rw [show arity ⟨#[101, 113]⟩ = (2, 2) by decide +kernel]; rfl) (by decide +kernel)).trans rfl
theorem neq_val (a b : Vl) : applyO ⟨#[110, 101, 113]⟩ [a, b] = (vB (!decide (a = b)), 0) :=
  (apply_of (s := ⟨#[110, 101, 113]⟩) (l := [a, b]) (k := 16) (by decide +kernel) (by rw [show arity ⟨#[110, 101, 113]⟩ = (2, 2) by decide +kernel]; rfl) (by decide +kernel)).trans rfl
theorem is_val (a b : Vl) : applyO ⟨#[61]⟩ [a, b] = if a.1 = 1 ∧ b.1 = 1 then (vB (decide (a.2.1 = b.2.1)), 0) else (v0, 8) := by
  rw [apply_of (s := ⟨#[61]⟩) (l := [a, b]) (k := 6) (by decide +kernel) (by rw [show arity ⟨#[61]⟩ = (2, 2) by decide +kernel]; rfl) (by decide +kernel)]
  show (if allInt [a, b] then numN 6 (nums [a, b]) else (v0, 8)) = _
  by_cases h : a.1 = 1 ∧ b.1 = 1
  · rw [if_pos h, if_pos (by simp [allInt, h.1, h.2])]
    show (vB (decide (a.2.1 = b.2.1) && true), (0 : Int)) = _
    rw [Bool.and_true]
  · rw [if_neg h, if_neg (by simpa [allInt] using h)]
theorem right_int {a : Vl} (h : rightB a = true) (h1 : a.1 = 1) : a.2.2 = ⟨#[]⟩ := by
  unfold rightB at h
  rw [if_pos h1] at h
  have : a.2.2.toList = [] := by simpa using h
  apply ba_ext
  rw [← ByteArray.toList_eq, this]
theorem ints_same {a b : Vl} (ha : rightB a = true) (hb : rightB b = true) (h1 : a.1 = 1) (h2 : b.1 = 1) : decide (a.2.1 = b.2.1) = decide (a = b) := by
  obtain ⟨a1, a2, a3⟩ := a
  obtain ⟨b1, b2, b3⟩ := b
  have e1 := right_int ha h1
  have e2 := right_int hb h2
  dsimp only at *
  subst h1 h2 e1 e2
  simp
theorem rright_w (a : Vl) (r : Bool) (h : rightB a = r) (hs : a.2.2.size ≤ 9223372036854775807) (W : World) : Calls Tryd.prog 17 #[a.val] W fun e w' => e = .returned (.bool r) ∧ Below W.heap.size W w' := by
  rw [← h]; exact rright_c a W hs
theorem apply_at (s : ByteArray) (ls : List Vl) (r : Vl × Int) (hr : applyO s ls = r) (g : Nat) {w0 : World} {o : Obj} (ht : Tab w0) (hk : ∀ v ∈ ls, okV v) (hl : ls.length ≤ 1000000) (T : TypeId) (ho : o = .cells (valsC ls).toArray T) (W : World) (hW : Below w0.heap.size w0 W) (hb : W.heap[g]? = some o) :
    Calls Tryd.prog 14 #[.string s, .slice (some ⟨g, 0, none⟩) ls.length ls.length] W fun e w' => e = .returned (pairV r) ∧ Below W.heap.size W w' := by
  subst ho
  rw [← hr]
  exact apply_c s _ _ ls _ (ht.b hW) (vals_block hb) hk hl
set_option maxRecDepth 100000 in
set_option maxHeartbeats 4000000 in
theorem sames_1 (a b : Vl) (w : World) (ht : Tab w) (ha : cameV a) (hra : rightB a = false) :
    Calls Tryd.prog 7 #[a.val, b.val] w fun e w' => e = .returned (.bool true) ∧ Below w.heap.size w w' := by
  have RA := Lib.hid (rright_w a false hra ha.s)
  clear ha hra
  obtain ⟨a1, a2, a3⟩ := a
  obtain ⟨b1, b2, b3⟩ := b
  have hB := two_boxes w (a1, a2, a3) (b1, b2, b3) 32 32
  dsimp only at hB
  go_enter Tryd.func7, Tryd.ntmps7
  go_wp2_with fail
  generalize hw2 : (w.alloc (.cells #[.int .i64 a1, .int .i64 a2, .string a3] 32)).alloc (.cells #[.int .i64 b1, .int .i64 b2, .string b3] 32) = wb at hB ⊢
  clear hw2
  obtain ⟨⟨⟨c0, c1, c2⟩, ⟨d0, d1, d2⟩⟩, hb0, hz⟩ := hB
  have E0 := Lib.hid hb0
  have HA : Hid (∀ W, Below wb.heap.size wb W → (W.cell? ⟨w.heap.size, 0, none⟩ = some (.int .i64 a1) ∧ W.cell? ⟨w.heap.size, 1, none⟩ = some (.int .i64 a2) ∧ W.cell? ⟨w.heap.size, 2, none⟩ = some (.string a3) ∧ W.cell? ⟨w.heap.size + 1, 0, none⟩ = some (.int .i64 b1) ∧ W.cell? ⟨w.heap.size + 1, 1, none⟩ = some (.int .i64 b2) ∧ W.cell? ⟨w.heap.size + 1, 2, none⟩ = some (.string b3))) :=
    Lib.hid (fun W h => ⟨(h.cell (p := ⟨w.heap.size, 0, none⟩) (by show w.heap.size < _; omega)).trans c0, (h.cell (p := ⟨w.heap.size, 1, none⟩) (by show w.heap.size < _; omega)).trans c1, (h.cell (p := ⟨w.heap.size, 2, none⟩) (by show w.heap.size < _; omega)).trans c2, (h.cell (p := ⟨w.heap.size + 1, 0, none⟩) (by show w.heap.size + 1 < _; omega)).trans d0, (h.cell (p := ⟨w.heap.size + 1, 1, none⟩) (by show w.heap.size + 1 < _; omega)).trans d1, (h.cell (p := ⟨w.heap.size + 1, 2, none⟩) (by show w.heap.size + 1 < _; omega)).trans d2⟩)
  have HZ := Lib.hid hz
  have TB := Lib.hid (ht.b hb0)
  clear c0 c1 c2 d0 d1 d2 hb0 hz ht
  refine (known_any wb TB.out).mono ?_
  rintro e w1 ⟨rfl, k1⟩
  have B1 := Lib.hid k1
  obtain ⟨c0, c1, c2, d0, d1, d2⟩ := HA.out _ B1.out
  clear k1
  go_wp2_with fail
  refine (RA.out _).mono ?_
  rintro e w2 ⟨rfl, k2⟩
  clear c0 c1 c2 d0 d1 d2
  have B2 := Lib.hid (B1.out.trans (k2.mono B1.out.size))
  obtain ⟨c0, c1, c2, d0, d1, d2⟩ := HA.out _ B2.out
  clear k2
  go_wp2_with fail
  go_ret
  exact ⟨rfl, E0.out.trans (B2.out.mono E0.out.size)⟩
set_option maxRecDepth 100000 in
set_option maxHeartbeats 4000000 in
theorem sames_2 (a b : Vl) (w : World) (ht : Tab w) (ha : cameV a) (hb : cameV b) (hra : rightB a = true) (hrb : rightB b = false) :
    Calls Tryd.prog 7 #[a.val, b.val] w fun e w' => e = .returned (.bool true) ∧ Below w.heap.size w w' := by
  have RA := Lib.hid (rright_w a true hra ha.s)
  have RB := Lib.hid (rright_w b false hrb hb.s)
  clear ha hb hra hrb
  obtain ⟨a1, a2, a3⟩ := a
  obtain ⟨b1, b2, b3⟩ := b
  have hB := two_boxes w (a1, a2, a3) (b1, b2, b3) 32 32
  dsimp only at hB
  go_enter Tryd.func7, Tryd.ntmps7
  go_wp2_with fail
  generalize hw2 : (w.alloc (.cells #[.int .i64 a1, .int .i64 a2, .string a3] 32)).alloc (.cells #[.int .i64 b1, .int .i64 b2, .string b3] 32) = wb at hB ⊢
  clear hw2
  obtain ⟨⟨⟨c0, c1, c2⟩, ⟨d0, d1, d2⟩⟩, hb0, hz⟩ := hB
  have E0 := Lib.hid hb0
  have HA : Hid (∀ W, Below wb.heap.size wb W → (W.cell? ⟨w.heap.size, 0, none⟩ = some (.int .i64 a1) ∧ W.cell? ⟨w.heap.size, 1, none⟩ = some (.int .i64 a2) ∧ W.cell? ⟨w.heap.size, 2, none⟩ = some (.string a3) ∧ W.cell? ⟨w.heap.size + 1, 0, none⟩ = some (.int .i64 b1) ∧ W.cell? ⟨w.heap.size + 1, 1, none⟩ = some (.int .i64 b2) ∧ W.cell? ⟨w.heap.size + 1, 2, none⟩ = some (.string b3))) :=
    Lib.hid (fun W h => ⟨(h.cell (p := ⟨w.heap.size, 0, none⟩) (by show w.heap.size < _; omega)).trans c0, (h.cell (p := ⟨w.heap.size, 1, none⟩) (by show w.heap.size < _; omega)).trans c1, (h.cell (p := ⟨w.heap.size, 2, none⟩) (by show w.heap.size < _; omega)).trans c2, (h.cell (p := ⟨w.heap.size + 1, 0, none⟩) (by show w.heap.size + 1 < _; omega)).trans d0, (h.cell (p := ⟨w.heap.size + 1, 1, none⟩) (by show w.heap.size + 1 < _; omega)).trans d1, (h.cell (p := ⟨w.heap.size + 1, 2, none⟩) (by show w.heap.size + 1 < _; omega)).trans d2⟩)
  have HZ := Lib.hid hz
  have TB := Lib.hid (ht.b hb0)
  clear c0 c1 c2 d0 d1 d2 hb0 hz ht
  refine (known_any wb TB.out).mono ?_
  rintro e w1 ⟨rfl, k1⟩
  have B1 := Lib.hid k1
  obtain ⟨c0, c1, c2, d0, d1, d2⟩ := HA.out _ B1.out
  clear k1
  go_wp2_with fail
  refine (RA.out _).mono ?_
  rintro e w2 ⟨rfl, k2⟩
  clear c0 c1 c2 d0 d1 d2
  have B2 := Lib.hid (B1.out.trans (k2.mono B1.out.size))
  obtain ⟨c0, c1, c2, d0, d1, d2⟩ := HA.out _ B2.out
  clear k2
  go_wp2_with fail
  refine (RB.out _).mono ?_
  rintro e w3 ⟨rfl, k3⟩
  clear c0 c1 c2 d0 d1 d2
  have B3 := Lib.hid (B2.out.trans (k3.mono B2.out.size))
  obtain ⟨c0, c1, c2, d0, d1, d2⟩ := HA.out _ B3.out
  clear k3
  go_wp2_with fail
  go_ret
  exact ⟨rfl, E0.out.trans (B3.out.mono E0.out.size)⟩
set_option maxRecDepth 100000 in
set_option maxHeartbeats 4000000 in
theorem sames_3 (a b : Vl) (w : World) (ht : Tab w) (ha : cameV a) (hb : cameV b) (hra : rightB a = true) (hrb : rightB b = true) (h1 : a.1 ≠ 1) :
    Calls Tryd.prog 7 #[a.val, b.val] w fun e w' => e = .returned (.bool true) ∧ Below w.heap.size w w' := by
  have hk : ∀ v ∈ [a, b], okV v := by intro v hv; simp at hv; rcases hv with rfl | rfl; exact right_okV hra ha; exact right_okV hrb hb
  have RA := Lib.hid (rright_w a true hra ha.s)
  have RB := Lib.hid (rright_w b true hrb hb.s)
  have HVK1 := eq_val a b
  have HVK2 := neq_val a b
  have HVK3 := is_val a b
  rw [if_neg (fun h => h1 h.1)] at HVK3
  obtain ⟨a1, a2, a3⟩ := a
  obtain ⟨b1, b2, b3⟩ := b
  dsimp only at h1
  have SAB := Lib.hid (fun W => rsame_c (a1, a2, a3) (b1, b2, b3) W)
  generalize hq : decide ((a1, a2, a3) = (b1, b2, b3)) = q at *
  clear hq
  have K1 : Hid (∀ W g, Below w.heap.size w W → W.heap[g]? = some (.cells #[.int .i64 a1, .int .i64 a2, .string a3, .int .i64 b1, .int .i64 b2, .string b3] 32) → Calls Tryd.prog 14 #[.string ⟨#[101, 113]⟩, .slice (some ⟨g, 0, none⟩) 2 2] W fun e w' => e = .returned (.tuple #[.agg #[.int .i64 2, .int .i64 0, .string (sB q)], .int .i64 0]) ∧ Below W.heap.size W w') := Lib.hid (fun W g h hg => apply_at ⟨#[101, 113]⟩ [(a1, a2, a3), (b1, b2, b3)] _ (HVK1) g ht hk (by simp) 32 rfl W h hg)
  have K2 : Hid (∀ W g, Below w.heap.size w W → W.heap[g]? = some (.cells #[.int .i64 a1, .int .i64 a2, .string a3, .int .i64 b1, .int .i64 b2, .string b3] 32) → Calls Tryd.prog 14 #[.string ⟨#[110, 101, 113]⟩, .slice (some ⟨g, 0, none⟩) 2 2] W fun e w' => e = .returned (.tuple #[.agg #[.int .i64 2, .int .i64 0, .string (sB (!q))], .int .i64 0]) ∧ Below W.heap.size W w') := Lib.hid (fun W g h hg => apply_at ⟨#[110, 101, 113]⟩ [(a1, a2, a3), (b1, b2, b3)] _ (HVK2) g ht hk (by simp) 32 rfl W h hg)
  have K3 : Hid (∀ W g, Below w.heap.size w W → W.heap[g]? = some (.cells #[.int .i64 a1, .int .i64 a2, .string a3, .int .i64 b1, .int .i64 b2, .string b3] 32) → Calls Tryd.prog 14 #[.string ⟨#[61]⟩, .slice (some ⟨g, 0, none⟩) 2 2] W fun e w' => e = .returned (.tuple #[.agg #[.int .i64 0, .int .i64 0, .string ⟨#[]⟩], .int .i64 8]) ∧ Below W.heap.size W w') := Lib.hid (fun W g h hg => apply_at ⟨#[61]⟩ [(a1, a2, a3), (b1, b2, b3)] _ (HVK3) g ht hk (by simp) 32 rfl W h hg)
  have SX : Hid (∀ W, Calls Tryd.prog 15 #[.agg #[.int .i64 2, .int .i64 0, .string (sB q)], .agg #[.int .i64 2, .int .i64 0, .string (sB q)]] W fun e w' => e = .returned (.bool true) ∧ Below W.heap.size W w') := Lib.hid (fun W => by have := rsame_c (vB q) (vB q) W; rwa [decide_eq_true rfl] at this)
  have SY : Hid (∀ W, Calls Tryd.prog 15 #[.agg #[.int .i64 2, .int .i64 0, .string (sB (!q))], .agg #[.int .i64 2, .int .i64 0, .string (sB (!q))]] W fun e w' => e = .returned (.bool true) ∧ Below W.heap.size W w') := Lib.hid (fun W => by have := rsame_c (vB (!q)) (vB (!q)) W; rwa [decide_eq_true rfl] at this)
  have e1 : (a1 == 1) = false := by simp [h1]
  clear h1
  clear ha hb hk hra hrb HVK1 HVK2 HVK3
  have hB := two_boxes w (a1, a2, a3) (b1, b2, b3) 32 32
  dsimp only at hB
  go_enter Tryd.func7, Tryd.ntmps7
  go_wp2_with fail
  generalize hw2 : (w.alloc (.cells #[.int .i64 a1, .int .i64 a2, .string a3] 32)).alloc (.cells #[.int .i64 b1, .int .i64 b2, .string b3] 32) = wb at hB ⊢
  clear hw2
  obtain ⟨⟨⟨c0, c1, c2⟩, ⟨d0, d1, d2⟩⟩, hb0, hz⟩ := hB
  have E0 := Lib.hid hb0
  have HA : Hid (∀ W, Below wb.heap.size wb W → (W.cell? ⟨w.heap.size, 0, none⟩ = some (.int .i64 a1) ∧ W.cell? ⟨w.heap.size, 1, none⟩ = some (.int .i64 a2) ∧ W.cell? ⟨w.heap.size, 2, none⟩ = some (.string a3) ∧ W.cell? ⟨w.heap.size + 1, 0, none⟩ = some (.int .i64 b1) ∧ W.cell? ⟨w.heap.size + 1, 1, none⟩ = some (.int .i64 b2) ∧ W.cell? ⟨w.heap.size + 1, 2, none⟩ = some (.string b3))) :=
    Lib.hid (fun W h => ⟨(h.cell (p := ⟨w.heap.size, 0, none⟩) (by show w.heap.size < _; omega)).trans c0, (h.cell (p := ⟨w.heap.size, 1, none⟩) (by show w.heap.size < _; omega)).trans c1, (h.cell (p := ⟨w.heap.size, 2, none⟩) (by show w.heap.size < _; omega)).trans c2, (h.cell (p := ⟨w.heap.size + 1, 0, none⟩) (by show w.heap.size + 1 < _; omega)).trans d0, (h.cell (p := ⟨w.heap.size + 1, 1, none⟩) (by show w.heap.size + 1 < _; omega)).trans d1, (h.cell (p := ⟨w.heap.size + 1, 2, none⟩) (by show w.heap.size + 1 < _; omega)).trans d2⟩)
  have HZ := Lib.hid hz
  have TB := Lib.hid (ht.b hb0)
  clear c0 c1 c2 d0 d1 d2 hb0 hz ht
  refine (known_any wb TB.out).mono ?_
  rintro e w1 ⟨rfl, k1⟩
  have B1 := Lib.hid k1
  obtain ⟨c0, c1, c2, d0, d1, d2⟩ := HA.out _ B1.out
  clear k1
  go_wp2_with fail
  refine (RA.out _).mono ?_
  rintro e w2 ⟨rfl, k2⟩
  clear c0 c1 c2 d0 d1 d2
  have B2 := Lib.hid (B1.out.trans (k2.mono B1.out.size))
  obtain ⟨c0, c1, c2, d0, d1, d2⟩ := HA.out _ B2.out
  clear k2
  go_wp2_with fail
  refine (RB.out _).mono ?_
  rintro e w3 ⟨rfl, k3⟩
  clear c0 c1 c2 d0 d1 d2
  have B3 := Lib.hid (B2.out.trans (k3.mono B2.out.size))
  obtain ⟨c0, c1, c2, d0, d1, d2⟩ := HA.out _ B3.out
  clear k3
  go_wp2_with fail
  have BW3 := Lib.hid (E0.out.trans (B3.out.mono E0.out.size))
  refine (K1.out _ _ (BW3.out.alloc BW3.out.size _) (heap_alloc_new w3 _)).mono ?_
  rintro e w4 ⟨rfl, k4⟩
  clear c0 c1 c2 d0 d1 d2
  have B4 := Lib.hid ((B3.out.alloc B3.out.size _).trans (k4.mono (B3.out.alloc B3.out.size _).size))
  have G4 := Lib.hid (keepB (heap_alloc_new w3 _) k4)
  have BW4 := Lib.hid (E0.out.trans (B4.out.mono E0.out.size))
  clear k4
  go_wp2_with fail
  refine (K2.out _ _ (BW4.out.alloc BW4.out.size _) ((Below.heap_alloc w4 _ _ (Array.getElem?_eq_some_iff.1 G4.out).1).trans G4.out)).mono ?_
  rintro e w5 ⟨rfl, k5⟩
  have B5 := Lib.hid ((B4.out.alloc B4.out.size _).trans (k5.mono (B4.out.alloc B4.out.size _).size))
  have G5 := Lib.hid (keepA G4.out k5)
  have X5 := Lib.hid (keepB (heap_alloc_new w4 _) k5)
  have BW5 := Lib.hid (E0.out.trans (B5.out.mono E0.out.size))
  clear k5
  go_wp2_with fail
  refine (K3.out _ _ (BW5.out.alloc BW5.out.size _) ((Below.heap_alloc w5 _ _ (Array.getElem?_eq_some_iff.1 G5.out).1).trans G5.out)).mono ?_
  rintro e w6 ⟨rfl, k6⟩
  have B6 := Lib.hid ((B5.out.alloc B5.out.size _).trans (k6.mono (B5.out.alloc B5.out.size _).size))
  have X6 := Lib.hid (keepA X5.out k6)
  have Y6 := Lib.hid (keepB (heap_alloc_new w5 _) k6)
  have B7 := Lib.hid (B6.out.alloc B6.out.size (.cells #[.int .i64 0, .int .i64 0, .string ⟨#[]⟩] 32))
  have X7 := Lib.hid ((Below.heap_alloc w6 (.cells #[.int .i64 0, .int .i64 0, .string ⟨#[]⟩] 32) _ (Array.getElem?_eq_some_iff.1 X6.out).1).trans X6.out)
  have Y7 := Lib.hid ((Below.heap_alloc w6 (.cells #[.int .i64 0, .int .i64 0, .string ⟨#[]⟩] 32) _ (Array.getElem?_eq_some_iff.1 Y6.out).1).trans Y6.out)
  have Z7 := Lib.hid (heap_alloc_new w6 (.cells #[.int .i64 0, .int .i64 0, .string ⟨#[]⟩] 32))
  obtain ⟨c0, c1, c2, d0, d1, d2⟩ := HA.out _ B6.out
  have lA : w.heap.size < w6.heap.size := by have := B6.out.size; have := HZ.out; omega
  have lB : w.heap.size + 1 < w6.heap.size := by have := B6.out.size; have := HZ.out; omega
  clear k6
  go_wp2_with fail
  clear c0 c1 c2 d0 d1 d2 lA lB
  generalize w6.alloc (.cells #[.int .i64 0, .int .i64 0, .string ⟨#[]⟩] 32) = w7 at B7 X7 Y7 Z7 ⊢
  have HS : Hid (∀ W, Below w7.heap.size w7 W → (fun W => Below w7.heap.size w7 W ∧ W.cell? ⟨w.heap.size, 0, none⟩ = some (.int .i64 a1) ∧ W.cell? ⟨w.heap.size, 1, none⟩ = some (.int .i64 a2) ∧ W.cell? ⟨w.heap.size, 2, none⟩ = some (.string a3) ∧ W.cell? ⟨w.heap.size + 1, 0, none⟩ = some (.int .i64 b1) ∧ W.cell? ⟨w.heap.size + 1, 1, none⟩ = some (.int .i64 b2) ∧ W.cell? ⟨w.heap.size + 1, 2, none⟩ = some (.string b3) ∧ W.cell? ⟨w4.heap.size, 0, none⟩ = some (.int .i64 2) ∧ W.cell? ⟨w4.heap.size, 1, none⟩ = some (.int .i64 0) ∧ W.cell? ⟨w4.heap.size, 2, none⟩ = some (.string (sB q)) ∧ W.cell? ⟨w5.heap.size, 0, none⟩ = some (.int .i64 2) ∧ W.cell? ⟨w5.heap.size, 1, none⟩ = some (.int .i64 0) ∧ W.cell? ⟨w5.heap.size, 2, none⟩ = some (.string (sB (!q))) ∧ W.cell? ⟨w6.heap.size, 0, none⟩ = some (.int .i64 0) ∧ W.cell? ⟨w6.heap.size, 1, none⟩ = some (.int .i64 0) ∧ W.cell? ⟨w6.heap.size, 2, none⟩ = some (.string ⟨#[]⟩)) W) := Lib.hid (fun W h => by
    obtain ⟨c0, c1, c2, d0, d1, d2⟩ := HA.out _ (B7.out.trans (h.mono B7.out.size))
    have x := keepB X7.out h
    have y := keepB Y7.out h
    have z := keepB Z7.out h
    exact ⟨h, c0, c1, c2, d0, d1, d2, block_cell x rfl, block_cell x rfl, block_cell x rfl, block_cell y rfl, block_cell y rfl, block_cell y rfl, block_cell z rfl, block_cell z rfl, block_cell z rfl⟩)
  have W0 : IntKind.i64.wrap 0 = 0 := by decide
  have D7 : Below w7.heap.size w7 w7.drew := ⟨rfl, rfl, rfl, Nat.le_refl _, fun _ _ => rfl⟩
  refine wp_region_held_drew (S := (fun W => Below w7.heap.size w7 W ∧ W.cell? ⟨w.heap.size, 0, none⟩ = some (.int .i64 a1) ∧ W.cell? ⟨w.heap.size, 1, none⟩ = some (.int .i64 a2) ∧ W.cell? ⟨w.heap.size, 2, none⟩ = some (.string a3) ∧ W.cell? ⟨w.heap.size + 1, 0, none⟩ = some (.int .i64 b1) ∧ W.cell? ⟨w.heap.size + 1, 1, none⟩ = some (.int .i64 b2) ∧ W.cell? ⟨w.heap.size + 1, 2, none⟩ = some (.string b3) ∧ W.cell? ⟨w4.heap.size, 0, none⟩ = some (.int .i64 2) ∧ W.cell? ⟨w4.heap.size, 1, none⟩ = some (.int .i64 0) ∧ W.cell? ⟨w4.heap.size, 2, none⟩ = some (.string (sB q)) ∧ W.cell? ⟨w5.heap.size, 0, none⟩ = some (.int .i64 2) ∧ W.cell? ⟨w5.heap.size, 1, none⟩ = some (.int .i64 0) ∧ W.cell? ⟨w5.heap.size, 2, none⟩ = some (.string (sB (!q))) ∧ W.cell? ⟨w6.heap.size, 0, none⟩ = some (.int .i64 0) ∧ W.cell? ⟨w6.heap.size, 1, none⟩ = some (.int .i64 0) ∧ W.cell? ⟨w6.heap.size, 2, none⟩ = some (.string ⟨#[]⟩))) (by kernel_rfl) (HS.out _ D7) (fun hHeld => ?_)
  refine wpAnyH_take (i := 0) (oi := ⟨_, _, _, _, _, _⟩) (v := ?_) rfl (by kernel_rfl) (by kernel_rfl) (by kernel_rfl) (fun _ _ _ h => h) (Or.inl ⟨by rfl, ?_⟩) (by assumption) ?_
  rotate_left
  · intro w' hSw; (try dsimp only at hSw); go_simp; (try with_reducible rfl)
  try simp only [Act.put, List.setIfInBounds_toArray, List.set_cons_zero, List.set_cons_succ]
  refine wpAnyH_take (i := 1) (oi := ⟨_, _, _, _, _, _⟩) (v := ?_) rfl (by kernel_rfl) (by kernel_rfl) (by kernel_rfl) (fun _ _ _ h => h) (Or.inl ⟨by rfl, ?_⟩) (by assumption) ?_
  rotate_left
  · intro w' hSw; (try dsimp only at hSw); go_simp; (try with_reducible rfl)
  try simp only [Act.put, List.setIfInBounds_toArray, List.set_cons_zero, List.set_cons_succ]
  refine wpAnyH_take (i := 2) (oi := ⟨_, _, _, _, _, _⟩) (v := ?_) rfl (by kernel_rfl) (by kernel_rfl) (by kernel_rfl) (fun _ _ _ h => h) (Or.inl ⟨by rfl, ?_⟩) (by assumption) ?_
  rotate_left
  · intro w' hSw; (try dsimp only at hSw); go_simp; (try with_reducible rfl)
  try simp only [Act.put, List.setIfInBounds_toArray, List.set_cons_zero, List.set_cons_succ]
  refine wpAnyH_take (i := 3) (oi := ⟨_, _, _, _, _, _⟩) (v := ?_) rfl (by kernel_rfl) (by kernel_rfl) (by kernel_rfl) (fun _ _ _ h => h) (Or.inl ⟨by rfl, ?_⟩) (by assumption) ?_
  rotate_left
  · intro w' hSw; (try dsimp only at hSw); go_simp; (try with_reducible rfl)
  try simp only [Act.put, List.setIfInBounds_toArray, List.set_cons_zero, List.set_cons_succ]
  refine wpAnyH_take (i := 4) (oi := ⟨_, _, _, _, _, _⟩) (v := ?_) rfl (by kernel_rfl) (by kernel_rfl) (by kernel_rfl) (fun _ _ _ h => h) (Or.inl ⟨by rfl, ?_⟩) (by assumption) ?_
  rotate_left
  · intro w' hSw; (try dsimp only at hSw); go_simp; (try with_reducible rfl)
  try simp only [Act.put, List.setIfInBounds_toArray, List.set_cons_zero, List.set_cons_succ]
  refine wpAnyH_take (i := 5) (oi := ⟨_, _, _, _, _, _⟩) (v := ?_) rfl (by kernel_rfl) (by kernel_rfl) (by kernel_rfl) (fun _ _ _ h => h) (Or.inl ⟨by rfl, ?_⟩) (by assumption) ?_
  rotate_left
  · intro w' hSw; (try dsimp only at hSw); go_simp; (try with_reducible rfl)
  try simp only [Act.put, List.setIfInBounds_toArray, List.set_cons_zero, List.set_cons_succ]
  refine wpAnyH_take (i := 6) (oi := ⟨_, _, _, _, _, _⟩) (v := ?_) rfl (by kernel_rfl) (by kernel_rfl) (by kernel_rfl) (fun _ _ _ h => h) (Or.inl ⟨by rfl, ?_⟩) (by assumption) ?_
  rotate_left
  · intro w' hSw; (try dsimp only at hSw); go_simp; (try with_reducible rfl)
  try simp only [Act.put, List.setIfInBounds_toArray, List.set_cons_zero, List.set_cons_succ]
  refine wpAnyH_take (i := 7) (oi := ⟨_, _, _, _, _, _⟩) (v := ?_) rfl (by kernel_rfl) (by kernel_rfl) (by kernel_rfl) (fun _ _ _ h => h) (Or.inl ⟨by rfl, ?_⟩) (by assumption) ?_
  rotate_left
  · intro w' hSw; (try dsimp only at hSw); go_simp; (try with_reducible rfl)
  try simp only [Act.put, List.setIfInBounds_toArray, List.set_cons_zero, List.set_cons_succ]
  refine wpAnyH_ready (rs := [8]) (by kernel_rfl) (by simp) ?_
  refine AllReadyH.cons (o := ⟨_, _, _, _, _, _⟩) rfl (fun K9 hK9 => ?_) AllReadyH.nil
  go_simp
  (with_reducible refine ((belowW (W0 := w7) hHeld.1 (SAB.out _))).mono ?_)
  rintro e v1 ⟨rfl, m1⟩
  have M1 := Lib.hid m1
  clear m1
  go_wp2_with fail
  refine hK9.out _ _ (HS.out _ M1.out) (fun hHeld => ?_)
  clear hK9 K9
  try simp only [Act.put, List.setIfInBounds_toArray, List.set_cons_zero, List.set_cons_succ]
  refine wpAnyH_ready (rs := [9]) (by kernel_rfl) (by simp) ?_
  refine AllReadyH.cons (o := ⟨_, _, _, _, _, _⟩) rfl (fun K9 hK9 => ?_) AllReadyH.nil
  go_simp
  (with_reducible refine ((belowW (W0 := w7) hHeld.1 (rBool_c q _))).mono ?_)
  rintro e v2 ⟨rfl, m2⟩
  have M2 := Lib.hid m2
  clear m2
  go_wp2_with fail
  refine hK9.out _ _ (HS.out _ M2.out) (fun hHeld => ?_)
  clear hK9 K9
  try simp only [Act.put, List.setIfInBounds_toArray, List.set_cons_zero, List.set_cons_succ]
  refine wpAnyH_ready (rs := [10]) (by kernel_rfl) (by simp) ?_
  refine AllReadyH.cons (o := ⟨_, _, _, _, _, _⟩) rfl (fun K9 hK9 => ?_) AllReadyH.nil
  go_simp
  (with_reducible refine ((belowW (W0 := w7) hHeld.1 (SX.out _))).mono ?_)
  rintro e v3 ⟨rfl, m3⟩
  have M3 := Lib.hid m3
  clear m3
  go_wp2_with fail
  refine hK9.out _ _ (HS.out _ M3.out) (fun hHeld => ?_)
  clear hK9 K9
  try simp only [Act.put, List.setIfInBounds_toArray, List.set_cons_zero, List.set_cons_succ]
  refine wpAnyH_take (i := 11) (oi := ⟨_, _, _, _, _, _⟩) (v := ?_) rfl (by kernel_rfl) (by kernel_rfl) (by kernel_rfl) (fun _ _ _ h => h) (Or.inl ⟨by rfl, ?_⟩) (by assumption) ?_
  rotate_left
  · intro w' hSw; (try dsimp only at hSw); go_simp; (try with_reducible rfl)
  try simp only [Act.put, List.setIfInBounds_toArray, List.set_cons_zero, List.set_cons_succ]
  refine wpAnyH_take (i := 12) (oi := ⟨_, _, _, _, _, _⟩) (v := ?_) rfl (by kernel_rfl) (by kernel_rfl) (by kernel_rfl) (fun _ _ _ h => h) (Or.inl ⟨by rfl, ?_⟩) (by assumption) ?_
  rotate_left
  · intro w' hSw; (try dsimp only at hSw); go_simp; (try with_reducible rfl)
  try simp only [Act.put, List.setIfInBounds_toArray, List.set_cons_zero, List.set_cons_succ]
  refine wpAnyH_take (i := 13) (oi := ⟨_, _, _, _, _, _⟩) (v := ?_) rfl (by kernel_rfl) (by kernel_rfl) (by kernel_rfl) (fun _ _ _ h => h) (Or.inl ⟨by rfl, ?_⟩) (by assumption) ?_
  rotate_left
  · intro w' hSw; (try dsimp only at hSw); go_simp; (try with_reducible rfl)
  try simp only [Act.put, List.setIfInBounds_toArray, List.set_cons_zero, List.set_cons_succ]
  refine wpAnyH_take (i := 14) (oi := ⟨_, _, _, _, _, _⟩) (v := ?_) rfl (by kernel_rfl) (by kernel_rfl) (by kernel_rfl) (fun _ _ _ h => h) (Or.inl ⟨by rfl, ?_⟩) (by assumption) ?_
  rotate_left
  · intro w' hSw; (try dsimp only at hSw); go_simp; (try with_reducible rfl)
  try simp only [Act.put, List.setIfInBounds_toArray, List.set_cons_zero, List.set_cons_succ]
  refine wpAnyH_take (i := 15) (oi := ⟨_, _, _, _, _, _⟩) (v := ?_) rfl (by kernel_rfl) (by kernel_rfl) (by kernel_rfl) (fun _ _ _ h => h) (Or.inl ⟨by rfl, ?_⟩) (by assumption) ?_
  rotate_left
  · intro w' hSw; (try dsimp only at hSw); go_simp; (try with_reducible rfl)
  try simp only [Act.put, List.setIfInBounds_toArray, List.set_cons_zero, List.set_cons_succ]
  refine wpAnyH_ready (rs := [16]) (by kernel_rfl) (by simp) ?_
  refine AllReadyH.cons (o := ⟨_, _, _, _, _, _⟩) rfl (fun K9 hK9 => ?_) AllReadyH.nil
  go_simp
  (with_reducible refine ((belowW (W0 := w7) hHeld.1 (SAB.out _))).mono ?_)
  rintro e v4 ⟨rfl, m4⟩
  have M4 := Lib.hid m4
  clear m4
  go_wp2_with fail
  refine hK9.out _ _ (HS.out _ M4.out) (fun hHeld => ?_)
  clear hK9 K9
  try simp only [Act.put, List.setIfInBounds_toArray, List.set_cons_zero, List.set_cons_succ]
  refine wpAnyH_take (i := 17) (oi := ⟨_, _, _, _, _, _⟩) (v := ?_) rfl (by kernel_rfl) (by kernel_rfl) (by kernel_rfl) (fun _ _ _ h => h) (Or.inl ⟨by rfl, ?_⟩) (by assumption) ?_
  rotate_left
  · intro w' hSw; (try dsimp only at hSw); go_simp; (try with_reducible rfl)
  try simp only [Act.put, List.setIfInBounds_toArray, List.set_cons_zero, List.set_cons_succ]
  refine wpAnyH_ready (rs := [18]) (by kernel_rfl) (by simp) ?_
  refine AllReadyH.cons (o := ⟨_, _, _, _, _, _⟩) rfl (fun K9 hK9 => ?_) AllReadyH.nil
  go_simp
  (with_reducible refine ((belowW (W0 := w7) hHeld.1 (rBool_c (!q) _))).mono ?_)
  rintro e v5 ⟨rfl, m5⟩
  have M5 := Lib.hid m5
  clear m5
  go_wp2_with fail
  refine hK9.out _ _ (HS.out _ M5.out) (fun hHeld => ?_)
  clear hK9 K9
  try simp only [Act.put, List.setIfInBounds_toArray, List.set_cons_zero, List.set_cons_succ]
  refine wpAnyH_ready (rs := [19]) (by kernel_rfl) (by simp) ?_
  refine AllReadyH.cons (o := ⟨_, _, _, _, _, _⟩) rfl (fun K9 hK9 => ?_) AllReadyH.nil
  go_simp
  (with_reducible refine ((belowW (W0 := w7) hHeld.1 (SY.out _))).mono ?_)
  rintro e v6 ⟨rfl, m6⟩
  have M6 := Lib.hid m6
  clear m6
  go_wp2_with fail
  refine hK9.out _ _ (HS.out _ M6.out) (fun hHeld => ?_)
  clear hK9 K9
  try simp only [Act.put, List.setIfInBounds_toArray, List.set_cons_zero, List.set_cons_succ]
  refine wpAnyH_take (i := 20) (oi := ⟨_, _, _, _, _, _⟩) (v := ?_) rfl (by kernel_rfl) (by kernel_rfl) (by kernel_rfl) (fun _ _ _ h => h) (Or.inl ⟨by rfl, ?_⟩) (by assumption) ?_
  rotate_left
  · intro w' hSw; (try dsimp only at hSw); go_simp; (try with_reducible rfl)
  try simp only [Act.put, List.setIfInBounds_toArray, List.set_cons_zero, List.set_cons_succ]
  refine wpAnyH_take (i := 21) (oi := ⟨_, _, _, _, _, _⟩) (v := ?_) rfl (by kernel_rfl) (by kernel_rfl) (by kernel_rfl) (fun _ _ _ h => h) (Or.inl ⟨by rfl, ?_⟩) (by assumption) ?_
  rotate_left
  · intro w' hSw; (try dsimp only at hSw); go_simp; (try with_reducible rfl)
  try simp only [Act.put, List.setIfInBounds_toArray, List.set_cons_zero, List.set_cons_succ]
  refine wpAnyH_take (i := 22) (oi := ⟨_, _, _, _, _, _⟩) (v := ?_) rfl (by kernel_rfl) (by kernel_rfl) (by kernel_rfl) (fun _ _ _ h => h) (Or.inl ⟨by rfl, ?_⟩) (by assumption) ?_
  rotate_left
  · intro w' hSw; (try dsimp only at hSw); go_simp; (try with_reducible rfl)
  try simp only [Act.put, List.setIfInBounds_toArray, List.set_cons_zero, List.set_cons_succ]
  refine wpAnyH_take (i := 23) (oi := ⟨_, _, _, _, _, _⟩) (v := ?_) rfl (by kernel_rfl) (by kernel_rfl) (by kernel_rfl) (fun _ _ _ h => h) (Or.inl ⟨by rfl, ?_⟩) (by assumption) ?_
  rotate_left
  · intro w' hSw; (try dsimp only at hSw); go_simp; (try with_reducible rfl)
  try simp only [Act.put, List.setIfInBounds_toArray, List.set_cons_zero, List.set_cons_succ]
  refine wpAnyH_take (i := 24) (oi := ⟨_, _, _, _, _, _⟩) (v := ?_) rfl (by kernel_rfl) (by kernel_rfl) (by kernel_rfl) (fun _ _ _ h => h) (Or.inl ⟨by rfl, ?_⟩) (by assumption) ?_
  rotate_left
  · intro w' hSw; (try dsimp only at hSw); go_simp; (try with_reducible rfl)
  try simp only [Act.put, List.setIfInBounds_toArray, List.set_cons_zero, List.set_cons_succ]
  refine wpAnyH_take (i := 25) (oi := ⟨_, _, _, _, _, _⟩) (v := ?_) rfl (by kernel_rfl) (by kernel_rfl) (by kernel_rfl) (fun _ _ _ h => h) (Or.inl ⟨by rfl, ?_⟩) (by assumption) ?_
  rotate_left
  · intro w' hSw; (try dsimp only at hSw); go_simp; (try with_reducible rfl)
  try simp only [Act.put, List.setIfInBounds_toArray, List.set_cons_zero, List.set_cons_succ]
  refine wpAnyH_take (i := 26) (oi := ⟨_, _, _, _, _, _⟩) (v := ?_) rfl (by kernel_rfl) (by kernel_rfl) (by kernel_rfl) (fun _ _ _ h => h) (Or.inl ⟨by rfl, ?_⟩) (by assumption) ?_
  rotate_left
  · intro w' hSw; (try dsimp only at hSw); go_simp; (try with_reducible rfl)
  try simp only [Act.put, List.setIfInBounds_toArray, List.set_cons_zero, List.set_cons_succ]
  refine wpAnyH_take (i := 27) (oi := ⟨_, _, _, _, _, _⟩) (v := ?_) rfl (by kernel_rfl) (by kernel_rfl) (by kernel_rfl) (fun _ _ _ h => h) (Or.inl ⟨by rfl, ?_⟩) (by assumption) ?_
  rotate_left
  · intro w' hSw; (try dsimp only at hSw); go_simp; (try with_reducible rfl)
  try simp only [Act.put, List.setIfInBounds_toArray, List.set_cons_zero, List.set_cons_succ]
  refine wpAnyH_take (i := 28) (oi := ⟨_, _, _, _, _, _⟩) (v := ?_) rfl (by kernel_rfl) (by kernel_rfl) (by kernel_rfl) (fun _ _ _ h => h) (Or.inl ⟨by rfl, ?_⟩) (by assumption) ?_
  rotate_left
  · intro w' hSw; (try dsimp only at hSw); go_simp; (try with_reducible rfl)
  try simp only [Act.put, List.setIfInBounds_toArray, List.set_cons_zero, List.set_cons_succ]
  refine wpAnyH_take (i := 29) (oi := ⟨_, _, _, _, _, _⟩) (v := ?_) rfl (by kernel_rfl) (by kernel_rfl) (by kernel_rfl) (fun _ _ _ h => h) (Or.inl ⟨by rfl, ?_⟩) (by assumption) ?_
  rotate_left
  · intro w' hSw; (try dsimp only at hSw); go_simp; (try with_reducible rfl)
  try simp only [Act.put, List.setIfInBounds_toArray, List.set_cons_zero, List.set_cons_succ]
  refine wpAnyH_take (i := 30) (oi := ⟨_, _, _, _, _, _⟩) (v := ?_) rfl (by kernel_rfl) (by kernel_rfl) (by kernel_rfl) (fun _ _ _ h => h) (Or.inl ⟨by rfl, ?_⟩) (by assumption) ?_
  rotate_left
  · intro w' hSw; (try dsimp only at hSw); go_simp; (try with_reducible rfl)
  try simp only [Act.put, List.setIfInBounds_toArray, List.set_cons_zero, List.set_cons_succ]
  refine wpAnyH_take (i := 31) (oi := ⟨_, _, _, _, _, _⟩) (v := undef) rfl (by kernel_rfl) (by kernel_rfl) (by kernel_rfl) (fun _ _ _ h => h) (Or.inr ⟨by rfl, rfl⟩) (by assumption) ?_
  try simp only [Act.put, List.setIfInBounds_toArray, List.set_cons_zero, List.set_cons_succ]
  refine wpAnyH_take (i := 32) (oi := ⟨_, _, _, _, _, _⟩) (v := undef) rfl (by kernel_rfl) (by kernel_rfl) (by kernel_rfl) (fun _ _ _ h => h) (Or.inr ⟨by rfl, rfl⟩) (by assumption) ?_
  try simp only [Act.put, List.setIfInBounds_toArray, List.set_cons_zero, List.set_cons_succ]
  refine wpAnyH_take (i := 33) (oi := ⟨_, _, _, _, _, _⟩) (v := undef) rfl (by kernel_rfl) (by kernel_rfl) (by kernel_rfl) (fun _ _ _ h => h) (Or.inr ⟨by rfl, rfl⟩) (by assumption) ?_
  try simp only [Act.put, List.setIfInBounds_toArray, List.set_cons_zero, List.set_cons_succ]
  refine wpAnyH_take (i := 34) (oi := ⟨_, _, _, _, _, _⟩) (v := ?_) rfl (by kernel_rfl) (by kernel_rfl) (by kernel_rfl) (fun _ _ _ h => h) (Or.inl ⟨by rfl, ?_⟩) (by assumption) ?_
  rotate_left
  · intro w' hSw; (try dsimp only at hSw); go_simp; (try with_reducible rfl)
  try simp only [Act.put, List.setIfInBounds_toArray, List.set_cons_zero, List.set_cons_succ]
  refine wpAnyH_take (i := 35) (oi := ⟨_, _, _, _, _, _⟩) (v := ?_) rfl (by kernel_rfl) (by kernel_rfl) (by kernel_rfl) (fun _ _ _ h => h) (Or.inl ⟨by rfl, ?_⟩) (by assumption) ?_
  rotate_left
  · intro w' hSw; (try dsimp only at hSw); go_simp; (try with_reducible rfl)
  try simp only [Act.put, List.setIfInBounds_toArray, List.set_cons_zero, List.set_cons_succ]
  refine wpAnyH_take (i := 36) (oi := ⟨_, _, _, _, _, _⟩) (v := ?_) rfl (by kernel_rfl) (by kernel_rfl) (by kernel_rfl) (fun _ _ _ h => h) (Or.inl ⟨by rfl, ?_⟩) (by assumption) ?_
  rotate_left
  · intro w' hSw; (try dsimp only at hSw); go_simp; (try with_reducible rfl)
  try simp only [Act.put, List.setIfInBounds_toArray, List.set_cons_zero, List.set_cons_succ]
  refine wpAnyH_done (by kernel_rfl) ?_ _
  have EM := Lib.hid hHeld.1
  clear hHeld
  go_wp2
  go_ret
  exact ⟨rfl, E0.out.trans ((B7.out.trans (EM.out.mono B7.out.size)).mono E0.out.size)⟩
set_option maxRecDepth 100000 in
set_option maxHeartbeats 4000000 in
theorem sames_4 (a b : Vl) (w : World) (ht : Tab w) (ha : cameV a) (hb : cameV b) (hra : rightB a = true) (hrb : rightB b = true) (h1 : a.1 = 1) (h2 : b.1 ≠ 1) :
    Calls Tryd.prog 7 #[a.val, b.val] w fun e w' => e = .returned (.bool true) ∧ Below w.heap.size w w' := by
  have hk : ∀ v ∈ [a, b], okV v := by intro v hv; simp at hv; rcases hv with rfl | rfl; exact right_okV hra ha; exact right_okV hrb hb
  have RA := Lib.hid (rright_w a true hra ha.s)
  have RB := Lib.hid (rright_w b true hrb hb.s)
  have HVK1 := eq_val a b
  have HVK2 := neq_val a b
  have HVK3 := is_val a b
  rw [if_neg (fun h => h2 h.2)] at HVK3
  obtain ⟨a1, a2, a3⟩ := a
  obtain ⟨b1, b2, b3⟩ := b
  dsimp only at h1 h2
  have SAB := Lib.hid (fun W => rsame_c (a1, a2, a3) (b1, b2, b3) W)
  generalize hq : decide ((a1, a2, a3) = (b1, b2, b3)) = q at *
  clear hq
  have K1 : Hid (∀ W g, Below w.heap.size w W → W.heap[g]? = some (.cells #[.int .i64 a1, .int .i64 a2, .string a3, .int .i64 b1, .int .i64 b2, .string b3] 32) → Calls Tryd.prog 14 #[.string ⟨#[101, 113]⟩, .slice (some ⟨g, 0, none⟩) 2 2] W fun e w' => e = .returned (.tuple #[.agg #[.int .i64 2, .int .i64 0, .string (sB q)], .int .i64 0]) ∧ Below W.heap.size W w') := Lib.hid (fun W g h hg => apply_at ⟨#[101, 113]⟩ [(a1, a2, a3), (b1, b2, b3)] _ (HVK1) g ht hk (by simp) 32 rfl W h hg)
  have K2 : Hid (∀ W g, Below w.heap.size w W → W.heap[g]? = some (.cells #[.int .i64 a1, .int .i64 a2, .string a3, .int .i64 b1, .int .i64 b2, .string b3] 32) → Calls Tryd.prog 14 #[.string ⟨#[110, 101, 113]⟩, .slice (some ⟨g, 0, none⟩) 2 2] W fun e w' => e = .returned (.tuple #[.agg #[.int .i64 2, .int .i64 0, .string (sB (!q))], .int .i64 0]) ∧ Below W.heap.size W w') := Lib.hid (fun W g h hg => apply_at ⟨#[110, 101, 113]⟩ [(a1, a2, a3), (b1, b2, b3)] _ (HVK2) g ht hk (by simp) 32 rfl W h hg)
  have K3 : Hid (∀ W g, Below w.heap.size w W → W.heap[g]? = some (.cells #[.int .i64 a1, .int .i64 a2, .string a3, .int .i64 b1, .int .i64 b2, .string b3] 32) → Calls Tryd.prog 14 #[.string ⟨#[61]⟩, .slice (some ⟨g, 0, none⟩) 2 2] W fun e w' => e = .returned (.tuple #[.agg #[.int .i64 0, .int .i64 0, .string ⟨#[]⟩], .int .i64 8]) ∧ Below W.heap.size W w') := Lib.hid (fun W g h hg => apply_at ⟨#[61]⟩ [(a1, a2, a3), (b1, b2, b3)] _ (HVK3) g ht hk (by simp) 32 rfl W h hg)
  have SX : Hid (∀ W, Calls Tryd.prog 15 #[.agg #[.int .i64 2, .int .i64 0, .string (sB q)], .agg #[.int .i64 2, .int .i64 0, .string (sB q)]] W fun e w' => e = .returned (.bool true) ∧ Below W.heap.size W w') := Lib.hid (fun W => by have := rsame_c (vB q) (vB q) W; rwa [decide_eq_true rfl] at this)
  have SY : Hid (∀ W, Calls Tryd.prog 15 #[.agg #[.int .i64 2, .int .i64 0, .string (sB (!q))], .agg #[.int .i64 2, .int .i64 0, .string (sB (!q))]] W fun e w' => e = .returned (.bool true) ∧ Below W.heap.size W w') := Lib.hid (fun W => by have := rsame_c (vB (!q)) (vB (!q)) W; rwa [decide_eq_true rfl] at this)
  have e1 : (a1 == 1) = true := by simp [h1]
  have e2 : (b1 == 1) = false := by simp [h2]
  clear h1 h2
  clear ha hb hk hra hrb HVK1 HVK2 HVK3
  have hB := two_boxes w (a1, a2, a3) (b1, b2, b3) 32 32
  dsimp only at hB
  go_enter Tryd.func7, Tryd.ntmps7
  go_wp2_with fail
  generalize hw2 : (w.alloc (.cells #[.int .i64 a1, .int .i64 a2, .string a3] 32)).alloc (.cells #[.int .i64 b1, .int .i64 b2, .string b3] 32) = wb at hB ⊢
  clear hw2
  obtain ⟨⟨⟨c0, c1, c2⟩, ⟨d0, d1, d2⟩⟩, hb0, hz⟩ := hB
  have E0 := Lib.hid hb0
  have HA : Hid (∀ W, Below wb.heap.size wb W → (W.cell? ⟨w.heap.size, 0, none⟩ = some (.int .i64 a1) ∧ W.cell? ⟨w.heap.size, 1, none⟩ = some (.int .i64 a2) ∧ W.cell? ⟨w.heap.size, 2, none⟩ = some (.string a3) ∧ W.cell? ⟨w.heap.size + 1, 0, none⟩ = some (.int .i64 b1) ∧ W.cell? ⟨w.heap.size + 1, 1, none⟩ = some (.int .i64 b2) ∧ W.cell? ⟨w.heap.size + 1, 2, none⟩ = some (.string b3))) :=
    Lib.hid (fun W h => ⟨(h.cell (p := ⟨w.heap.size, 0, none⟩) (by show w.heap.size < _; omega)).trans c0, (h.cell (p := ⟨w.heap.size, 1, none⟩) (by show w.heap.size < _; omega)).trans c1, (h.cell (p := ⟨w.heap.size, 2, none⟩) (by show w.heap.size < _; omega)).trans c2, (h.cell (p := ⟨w.heap.size + 1, 0, none⟩) (by show w.heap.size + 1 < _; omega)).trans d0, (h.cell (p := ⟨w.heap.size + 1, 1, none⟩) (by show w.heap.size + 1 < _; omega)).trans d1, (h.cell (p := ⟨w.heap.size + 1, 2, none⟩) (by show w.heap.size + 1 < _; omega)).trans d2⟩)
  have HZ := Lib.hid hz
  have TB := Lib.hid (ht.b hb0)
  clear c0 c1 c2 d0 d1 d2 hb0 hz ht
  refine (known_any wb TB.out).mono ?_
  rintro e w1 ⟨rfl, k1⟩
  have B1 := Lib.hid k1
  obtain ⟨c0, c1, c2, d0, d1, d2⟩ := HA.out _ B1.out
  clear k1
  go_wp2_with fail
  refine (RA.out _).mono ?_
  rintro e w2 ⟨rfl, k2⟩
  clear c0 c1 c2 d0 d1 d2
  have B2 := Lib.hid (B1.out.trans (k2.mono B1.out.size))
  obtain ⟨c0, c1, c2, d0, d1, d2⟩ := HA.out _ B2.out
  clear k2
  go_wp2_with fail
  refine (RB.out _).mono ?_
  rintro e w3 ⟨rfl, k3⟩
  clear c0 c1 c2 d0 d1 d2
  have B3 := Lib.hid (B2.out.trans (k3.mono B2.out.size))
  obtain ⟨c0, c1, c2, d0, d1, d2⟩ := HA.out _ B3.out
  clear k3
  go_wp2_with fail
  have BW3 := Lib.hid (E0.out.trans (B3.out.mono E0.out.size))
  refine (K1.out _ _ (BW3.out.alloc BW3.out.size _) (heap_alloc_new w3 _)).mono ?_
  rintro e w4 ⟨rfl, k4⟩
  clear c0 c1 c2 d0 d1 d2
  have B4 := Lib.hid ((B3.out.alloc B3.out.size _).trans (k4.mono (B3.out.alloc B3.out.size _).size))
  have G4 := Lib.hid (keepB (heap_alloc_new w3 _) k4)
  have BW4 := Lib.hid (E0.out.trans (B4.out.mono E0.out.size))
  clear k4
  go_wp2_with fail
  refine (K2.out _ _ (BW4.out.alloc BW4.out.size _) ((Below.heap_alloc w4 _ _ (Array.getElem?_eq_some_iff.1 G4.out).1).trans G4.out)).mono ?_
  rintro e w5 ⟨rfl, k5⟩
  have B5 := Lib.hid ((B4.out.alloc B4.out.size _).trans (k5.mono (B4.out.alloc B4.out.size _).size))
  have G5 := Lib.hid (keepA G4.out k5)
  have X5 := Lib.hid (keepB (heap_alloc_new w4 _) k5)
  have BW5 := Lib.hid (E0.out.trans (B5.out.mono E0.out.size))
  clear k5
  go_wp2_with fail
  refine (K3.out _ _ (BW5.out.alloc BW5.out.size _) ((Below.heap_alloc w5 _ _ (Array.getElem?_eq_some_iff.1 G5.out).1).trans G5.out)).mono ?_
  rintro e w6 ⟨rfl, k6⟩
  have B6 := Lib.hid ((B5.out.alloc B5.out.size _).trans (k6.mono (B5.out.alloc B5.out.size _).size))
  have X6 := Lib.hid (keepA X5.out k6)
  have Y6 := Lib.hid (keepB (heap_alloc_new w5 _) k6)
  have B7 := Lib.hid (B6.out.alloc B6.out.size (.cells #[.int .i64 0, .int .i64 0, .string ⟨#[]⟩] 32))
  have X7 := Lib.hid ((Below.heap_alloc w6 (.cells #[.int .i64 0, .int .i64 0, .string ⟨#[]⟩] 32) _ (Array.getElem?_eq_some_iff.1 X6.out).1).trans X6.out)
  have Y7 := Lib.hid ((Below.heap_alloc w6 (.cells #[.int .i64 0, .int .i64 0, .string ⟨#[]⟩] 32) _ (Array.getElem?_eq_some_iff.1 Y6.out).1).trans Y6.out)
  have Z7 := Lib.hid (heap_alloc_new w6 (.cells #[.int .i64 0, .int .i64 0, .string ⟨#[]⟩] 32))
  obtain ⟨c0, c1, c2, d0, d1, d2⟩ := HA.out _ B6.out
  have lA : w.heap.size < w6.heap.size := by have := B6.out.size; have := HZ.out; omega
  have lB : w.heap.size + 1 < w6.heap.size := by have := B6.out.size; have := HZ.out; omega
  clear k6
  go_wp2_with fail
  clear c0 c1 c2 d0 d1 d2 lA lB
  generalize w6.alloc (.cells #[.int .i64 0, .int .i64 0, .string ⟨#[]⟩] 32) = w7 at B7 X7 Y7 Z7 ⊢
  have HS : Hid (∀ W, Below w7.heap.size w7 W → (fun W => Below w7.heap.size w7 W ∧ W.cell? ⟨w.heap.size, 0, none⟩ = some (.int .i64 a1) ∧ W.cell? ⟨w.heap.size, 1, none⟩ = some (.int .i64 a2) ∧ W.cell? ⟨w.heap.size, 2, none⟩ = some (.string a3) ∧ W.cell? ⟨w.heap.size + 1, 0, none⟩ = some (.int .i64 b1) ∧ W.cell? ⟨w.heap.size + 1, 1, none⟩ = some (.int .i64 b2) ∧ W.cell? ⟨w.heap.size + 1, 2, none⟩ = some (.string b3) ∧ W.cell? ⟨w4.heap.size, 0, none⟩ = some (.int .i64 2) ∧ W.cell? ⟨w4.heap.size, 1, none⟩ = some (.int .i64 0) ∧ W.cell? ⟨w4.heap.size, 2, none⟩ = some (.string (sB q)) ∧ W.cell? ⟨w5.heap.size, 0, none⟩ = some (.int .i64 2) ∧ W.cell? ⟨w5.heap.size, 1, none⟩ = some (.int .i64 0) ∧ W.cell? ⟨w5.heap.size, 2, none⟩ = some (.string (sB (!q))) ∧ W.cell? ⟨w6.heap.size, 0, none⟩ = some (.int .i64 0) ∧ W.cell? ⟨w6.heap.size, 1, none⟩ = some (.int .i64 0) ∧ W.cell? ⟨w6.heap.size, 2, none⟩ = some (.string ⟨#[]⟩)) W) := Lib.hid (fun W h => by
    obtain ⟨c0, c1, c2, d0, d1, d2⟩ := HA.out _ (B7.out.trans (h.mono B7.out.size))
    have x := keepB X7.out h
    have y := keepB Y7.out h
    have z := keepB Z7.out h
    exact ⟨h, c0, c1, c2, d0, d1, d2, block_cell x rfl, block_cell x rfl, block_cell x rfl, block_cell y rfl, block_cell y rfl, block_cell y rfl, block_cell z rfl, block_cell z rfl, block_cell z rfl⟩)
  have W0 : IntKind.i64.wrap 0 = 0 := by decide
  have D7 : Below w7.heap.size w7 w7.drew := ⟨rfl, rfl, rfl, Nat.le_refl _, fun _ _ => rfl⟩
  refine wp_region_held_drew (S := (fun W => Below w7.heap.size w7 W ∧ W.cell? ⟨w.heap.size, 0, none⟩ = some (.int .i64 a1) ∧ W.cell? ⟨w.heap.size, 1, none⟩ = some (.int .i64 a2) ∧ W.cell? ⟨w.heap.size, 2, none⟩ = some (.string a3) ∧ W.cell? ⟨w.heap.size + 1, 0, none⟩ = some (.int .i64 b1) ∧ W.cell? ⟨w.heap.size + 1, 1, none⟩ = some (.int .i64 b2) ∧ W.cell? ⟨w.heap.size + 1, 2, none⟩ = some (.string b3) ∧ W.cell? ⟨w4.heap.size, 0, none⟩ = some (.int .i64 2) ∧ W.cell? ⟨w4.heap.size, 1, none⟩ = some (.int .i64 0) ∧ W.cell? ⟨w4.heap.size, 2, none⟩ = some (.string (sB q)) ∧ W.cell? ⟨w5.heap.size, 0, none⟩ = some (.int .i64 2) ∧ W.cell? ⟨w5.heap.size, 1, none⟩ = some (.int .i64 0) ∧ W.cell? ⟨w5.heap.size, 2, none⟩ = some (.string (sB (!q))) ∧ W.cell? ⟨w6.heap.size, 0, none⟩ = some (.int .i64 0) ∧ W.cell? ⟨w6.heap.size, 1, none⟩ = some (.int .i64 0) ∧ W.cell? ⟨w6.heap.size, 2, none⟩ = some (.string ⟨#[]⟩))) (by kernel_rfl) (HS.out _ D7) (fun hHeld => ?_)
  refine wpAnyH_take (i := 0) (oi := ⟨_, _, _, _, _, _⟩) (v := ?_) rfl (by kernel_rfl) (by kernel_rfl) (by kernel_rfl) (fun _ _ _ h => h) (Or.inl ⟨by rfl, ?_⟩) (by assumption) ?_
  rotate_left
  · intro w' hSw; (try dsimp only at hSw); go_simp; (try with_reducible rfl)
  try simp only [Act.put, List.setIfInBounds_toArray, List.set_cons_zero, List.set_cons_succ]
  refine wpAnyH_take (i := 1) (oi := ⟨_, _, _, _, _, _⟩) (v := ?_) rfl (by kernel_rfl) (by kernel_rfl) (by kernel_rfl) (fun _ _ _ h => h) (Or.inl ⟨by rfl, ?_⟩) (by assumption) ?_
  rotate_left
  · intro w' hSw; (try dsimp only at hSw); go_simp; (try with_reducible rfl)
  try simp only [Act.put, List.setIfInBounds_toArray, List.set_cons_zero, List.set_cons_succ]
  refine wpAnyH_take (i := 2) (oi := ⟨_, _, _, _, _, _⟩) (v := ?_) rfl (by kernel_rfl) (by kernel_rfl) (by kernel_rfl) (fun _ _ _ h => h) (Or.inl ⟨by rfl, ?_⟩) (by assumption) ?_
  rotate_left
  · intro w' hSw; (try dsimp only at hSw); go_simp; (try with_reducible rfl)
  try simp only [Act.put, List.setIfInBounds_toArray, List.set_cons_zero, List.set_cons_succ]
  refine wpAnyH_take (i := 3) (oi := ⟨_, _, _, _, _, _⟩) (v := ?_) rfl (by kernel_rfl) (by kernel_rfl) (by kernel_rfl) (fun _ _ _ h => h) (Or.inl ⟨by rfl, ?_⟩) (by assumption) ?_
  rotate_left
  · intro w' hSw; (try dsimp only at hSw); go_simp; (try with_reducible rfl)
  try simp only [Act.put, List.setIfInBounds_toArray, List.set_cons_zero, List.set_cons_succ]
  refine wpAnyH_take (i := 4) (oi := ⟨_, _, _, _, _, _⟩) (v := ?_) rfl (by kernel_rfl) (by kernel_rfl) (by kernel_rfl) (fun _ _ _ h => h) (Or.inl ⟨by rfl, ?_⟩) (by assumption) ?_
  rotate_left
  · intro w' hSw; (try dsimp only at hSw); go_simp; (try with_reducible rfl)
  try simp only [Act.put, List.setIfInBounds_toArray, List.set_cons_zero, List.set_cons_succ]
  refine wpAnyH_take (i := 5) (oi := ⟨_, _, _, _, _, _⟩) (v := ?_) rfl (by kernel_rfl) (by kernel_rfl) (by kernel_rfl) (fun _ _ _ h => h) (Or.inl ⟨by rfl, ?_⟩) (by assumption) ?_
  rotate_left
  · intro w' hSw; (try dsimp only at hSw); go_simp; (try with_reducible rfl)
  try simp only [Act.put, List.setIfInBounds_toArray, List.set_cons_zero, List.set_cons_succ]
  refine wpAnyH_take (i := 6) (oi := ⟨_, _, _, _, _, _⟩) (v := ?_) rfl (by kernel_rfl) (by kernel_rfl) (by kernel_rfl) (fun _ _ _ h => h) (Or.inl ⟨by rfl, ?_⟩) (by assumption) ?_
  rotate_left
  · intro w' hSw; (try dsimp only at hSw); go_simp; (try with_reducible rfl)
  try simp only [Act.put, List.setIfInBounds_toArray, List.set_cons_zero, List.set_cons_succ]
  refine wpAnyH_take (i := 7) (oi := ⟨_, _, _, _, _, _⟩) (v := ?_) rfl (by kernel_rfl) (by kernel_rfl) (by kernel_rfl) (fun _ _ _ h => h) (Or.inl ⟨by rfl, ?_⟩) (by assumption) ?_
  rotate_left
  · intro w' hSw; (try dsimp only at hSw); go_simp; (try with_reducible rfl)
  try simp only [Act.put, List.setIfInBounds_toArray, List.set_cons_zero, List.set_cons_succ]
  refine wpAnyH_ready (rs := [8]) (by kernel_rfl) (by simp) ?_
  refine AllReadyH.cons (o := ⟨_, _, _, _, _, _⟩) rfl (fun K9 hK9 => ?_) AllReadyH.nil
  go_simp
  (with_reducible refine ((belowW (W0 := w7) hHeld.1 (SAB.out _))).mono ?_)
  rintro e v1 ⟨rfl, m1⟩
  have M1 := Lib.hid m1
  clear m1
  go_wp2_with fail
  refine hK9.out _ _ (HS.out _ M1.out) (fun hHeld => ?_)
  clear hK9 K9
  try simp only [Act.put, List.setIfInBounds_toArray, List.set_cons_zero, List.set_cons_succ]
  refine wpAnyH_ready (rs := [9]) (by kernel_rfl) (by simp) ?_
  refine AllReadyH.cons (o := ⟨_, _, _, _, _, _⟩) rfl (fun K9 hK9 => ?_) AllReadyH.nil
  go_simp
  (with_reducible refine ((belowW (W0 := w7) hHeld.1 (rBool_c q _))).mono ?_)
  rintro e v2 ⟨rfl, m2⟩
  have M2 := Lib.hid m2
  clear m2
  go_wp2_with fail
  refine hK9.out _ _ (HS.out _ M2.out) (fun hHeld => ?_)
  clear hK9 K9
  try simp only [Act.put, List.setIfInBounds_toArray, List.set_cons_zero, List.set_cons_succ]
  refine wpAnyH_ready (rs := [10]) (by kernel_rfl) (by simp) ?_
  refine AllReadyH.cons (o := ⟨_, _, _, _, _, _⟩) rfl (fun K9 hK9 => ?_) AllReadyH.nil
  go_simp
  (with_reducible refine ((belowW (W0 := w7) hHeld.1 (SX.out _))).mono ?_)
  rintro e v3 ⟨rfl, m3⟩
  have M3 := Lib.hid m3
  clear m3
  go_wp2_with fail
  refine hK9.out _ _ (HS.out _ M3.out) (fun hHeld => ?_)
  clear hK9 K9
  try simp only [Act.put, List.setIfInBounds_toArray, List.set_cons_zero, List.set_cons_succ]
  refine wpAnyH_take (i := 11) (oi := ⟨_, _, _, _, _, _⟩) (v := ?_) rfl (by kernel_rfl) (by kernel_rfl) (by kernel_rfl) (fun _ _ _ h => h) (Or.inl ⟨by rfl, ?_⟩) (by assumption) ?_
  rotate_left
  · intro w' hSw; (try dsimp only at hSw); go_simp; (try with_reducible rfl)
  try simp only [Act.put, List.setIfInBounds_toArray, List.set_cons_zero, List.set_cons_succ]
  refine wpAnyH_take (i := 12) (oi := ⟨_, _, _, _, _, _⟩) (v := ?_) rfl (by kernel_rfl) (by kernel_rfl) (by kernel_rfl) (fun _ _ _ h => h) (Or.inl ⟨by rfl, ?_⟩) (by assumption) ?_
  rotate_left
  · intro w' hSw; (try dsimp only at hSw); go_simp; (try with_reducible rfl)
  try simp only [Act.put, List.setIfInBounds_toArray, List.set_cons_zero, List.set_cons_succ]
  refine wpAnyH_take (i := 13) (oi := ⟨_, _, _, _, _, _⟩) (v := ?_) rfl (by kernel_rfl) (by kernel_rfl) (by kernel_rfl) (fun _ _ _ h => h) (Or.inl ⟨by rfl, ?_⟩) (by assumption) ?_
  rotate_left
  · intro w' hSw; (try dsimp only at hSw); go_simp; (try with_reducible rfl)
  try simp only [Act.put, List.setIfInBounds_toArray, List.set_cons_zero, List.set_cons_succ]
  refine wpAnyH_take (i := 14) (oi := ⟨_, _, _, _, _, _⟩) (v := ?_) rfl (by kernel_rfl) (by kernel_rfl) (by kernel_rfl) (fun _ _ _ h => h) (Or.inl ⟨by rfl, ?_⟩) (by assumption) ?_
  rotate_left
  · intro w' hSw; (try dsimp only at hSw); go_simp; (try with_reducible rfl)
  try simp only [Act.put, List.setIfInBounds_toArray, List.set_cons_zero, List.set_cons_succ]
  refine wpAnyH_take (i := 15) (oi := ⟨_, _, _, _, _, _⟩) (v := ?_) rfl (by kernel_rfl) (by kernel_rfl) (by kernel_rfl) (fun _ _ _ h => h) (Or.inl ⟨by rfl, ?_⟩) (by assumption) ?_
  rotate_left
  · intro w' hSw; (try dsimp only at hSw); go_simp; (try with_reducible rfl)
  try simp only [Act.put, List.setIfInBounds_toArray, List.set_cons_zero, List.set_cons_succ]
  refine wpAnyH_ready (rs := [16]) (by kernel_rfl) (by simp) ?_
  refine AllReadyH.cons (o := ⟨_, _, _, _, _, _⟩) rfl (fun K9 hK9 => ?_) AllReadyH.nil
  go_simp
  (with_reducible refine ((belowW (W0 := w7) hHeld.1 (SAB.out _))).mono ?_)
  rintro e v4 ⟨rfl, m4⟩
  have M4 := Lib.hid m4
  clear m4
  go_wp2_with fail
  refine hK9.out _ _ (HS.out _ M4.out) (fun hHeld => ?_)
  clear hK9 K9
  try simp only [Act.put, List.setIfInBounds_toArray, List.set_cons_zero, List.set_cons_succ]
  refine wpAnyH_take (i := 17) (oi := ⟨_, _, _, _, _, _⟩) (v := ?_) rfl (by kernel_rfl) (by kernel_rfl) (by kernel_rfl) (fun _ _ _ h => h) (Or.inl ⟨by rfl, ?_⟩) (by assumption) ?_
  rotate_left
  · intro w' hSw; (try dsimp only at hSw); go_simp; (try with_reducible rfl)
  try simp only [Act.put, List.setIfInBounds_toArray, List.set_cons_zero, List.set_cons_succ]
  refine wpAnyH_ready (rs := [18]) (by kernel_rfl) (by simp) ?_
  refine AllReadyH.cons (o := ⟨_, _, _, _, _, _⟩) rfl (fun K9 hK9 => ?_) AllReadyH.nil
  go_simp
  (with_reducible refine ((belowW (W0 := w7) hHeld.1 (rBool_c (!q) _))).mono ?_)
  rintro e v5 ⟨rfl, m5⟩
  have M5 := Lib.hid m5
  clear m5
  go_wp2_with fail
  refine hK9.out _ _ (HS.out _ M5.out) (fun hHeld => ?_)
  clear hK9 K9
  try simp only [Act.put, List.setIfInBounds_toArray, List.set_cons_zero, List.set_cons_succ]
  refine wpAnyH_ready (rs := [19]) (by kernel_rfl) (by simp) ?_
  refine AllReadyH.cons (o := ⟨_, _, _, _, _, _⟩) rfl (fun K9 hK9 => ?_) AllReadyH.nil
  go_simp
  (with_reducible refine ((belowW (W0 := w7) hHeld.1 (SY.out _))).mono ?_)
  rintro e v6 ⟨rfl, m6⟩
  have M6 := Lib.hid m6
  clear m6
  go_wp2_with fail
  refine hK9.out _ _ (HS.out _ M6.out) (fun hHeld => ?_)
  clear hK9 K9
  try simp only [Act.put, List.setIfInBounds_toArray, List.set_cons_zero, List.set_cons_succ]
  refine wpAnyH_take (i := 20) (oi := ⟨_, _, _, _, _, _⟩) (v := ?_) rfl (by kernel_rfl) (by kernel_rfl) (by kernel_rfl) (fun _ _ _ h => h) (Or.inl ⟨by rfl, ?_⟩) (by assumption) ?_
  rotate_left
  · intro w' hSw; (try dsimp only at hSw); go_simp; (try with_reducible rfl)
  try simp only [Act.put, List.setIfInBounds_toArray, List.set_cons_zero, List.set_cons_succ]
  refine wpAnyH_take (i := 21) (oi := ⟨_, _, _, _, _, _⟩) (v := ?_) rfl (by kernel_rfl) (by kernel_rfl) (by kernel_rfl) (fun _ _ _ h => h) (Or.inl ⟨by rfl, ?_⟩) (by assumption) ?_
  rotate_left
  · intro w' hSw; (try dsimp only at hSw); go_simp; (try with_reducible rfl)
  try simp only [Act.put, List.setIfInBounds_toArray, List.set_cons_zero, List.set_cons_succ]
  refine wpAnyH_take (i := 22) (oi := ⟨_, _, _, _, _, _⟩) (v := ?_) rfl (by kernel_rfl) (by kernel_rfl) (by kernel_rfl) (fun _ _ _ h => h) (Or.inl ⟨by rfl, ?_⟩) (by assumption) ?_
  rotate_left
  · intro w' hSw; (try dsimp only at hSw); go_simp; (try with_reducible rfl)
  try simp only [Act.put, List.setIfInBounds_toArray, List.set_cons_zero, List.set_cons_succ]
  refine wpAnyH_take (i := 23) (oi := ⟨_, _, _, _, _, _⟩) (v := ?_) rfl (by kernel_rfl) (by kernel_rfl) (by kernel_rfl) (fun _ _ _ h => h) (Or.inl ⟨by rfl, ?_⟩) (by assumption) ?_
  rotate_left
  · intro w' hSw; (try dsimp only at hSw); go_simp; (try with_reducible rfl)
  try simp only [Act.put, List.setIfInBounds_toArray, List.set_cons_zero, List.set_cons_succ]
  refine wpAnyH_take (i := 24) (oi := ⟨_, _, _, _, _, _⟩) (v := ?_) rfl (by kernel_rfl) (by kernel_rfl) (by kernel_rfl) (fun _ _ _ h => h) (Or.inl ⟨by rfl, ?_⟩) (by assumption) ?_
  rotate_left
  · intro w' hSw; (try dsimp only at hSw); go_simp; (try with_reducible rfl)
  try simp only [Act.put, List.setIfInBounds_toArray, List.set_cons_zero, List.set_cons_succ]
  refine wpAnyH_take (i := 25) (oi := ⟨_, _, _, _, _, _⟩) (v := ?_) rfl (by kernel_rfl) (by kernel_rfl) (by kernel_rfl) (fun _ _ _ h => h) (Or.inl ⟨by rfl, ?_⟩) (by assumption) ?_
  rotate_left
  · intro w' hSw; (try dsimp only at hSw); go_simp; (try with_reducible rfl)
  try simp only [Act.put, List.setIfInBounds_toArray, List.set_cons_zero, List.set_cons_succ]
  refine wpAnyH_take (i := 26) (oi := ⟨_, _, _, _, _, _⟩) (v := ?_) rfl (by kernel_rfl) (by kernel_rfl) (by kernel_rfl) (fun _ _ _ h => h) (Or.inl ⟨by rfl, ?_⟩) (by assumption) ?_
  rotate_left
  · intro w' hSw; (try dsimp only at hSw); go_simp; (try with_reducible rfl)
  try simp only [Act.put, List.setIfInBounds_toArray, List.set_cons_zero, List.set_cons_succ]
  refine wpAnyH_take (i := 27) (oi := ⟨_, _, _, _, _, _⟩) (v := ?_) rfl (by kernel_rfl) (by kernel_rfl) (by kernel_rfl) (fun _ _ _ h => h) (Or.inl ⟨by rfl, ?_⟩) (by assumption) ?_
  rotate_left
  · intro w' hSw; (try dsimp only at hSw); go_simp; (try with_reducible rfl)
  try simp only [Act.put, List.setIfInBounds_toArray, List.set_cons_zero, List.set_cons_succ]
  refine wpAnyH_take (i := 28) (oi := ⟨_, _, _, _, _, _⟩) (v := ?_) rfl (by kernel_rfl) (by kernel_rfl) (by kernel_rfl) (fun _ _ _ h => h) (Or.inl ⟨by rfl, ?_⟩) (by assumption) ?_
  rotate_left
  · intro w' hSw; (try dsimp only at hSw); go_simp; (try with_reducible rfl)
  try simp only [Act.put, List.setIfInBounds_toArray, List.set_cons_zero, List.set_cons_succ]
  refine wpAnyH_take (i := 29) (oi := ⟨_, _, _, _, _, _⟩) (v := ?_) rfl (by kernel_rfl) (by kernel_rfl) (by kernel_rfl) (fun _ _ _ h => h) (Or.inl ⟨by rfl, ?_⟩) (by assumption) ?_
  rotate_left
  · intro w' hSw; (try dsimp only at hSw); go_simp; (try with_reducible rfl)
  try simp only [Act.put, List.setIfInBounds_toArray, List.set_cons_zero, List.set_cons_succ]
  refine wpAnyH_take (i := 30) (oi := ⟨_, _, _, _, _, _⟩) (v := ?_) rfl (by kernel_rfl) (by kernel_rfl) (by kernel_rfl) (fun _ _ _ h => h) (Or.inl ⟨by rfl, ?_⟩) (by assumption) ?_
  rotate_left
  · intro w' hSw; (try dsimp only at hSw); go_simp; (try with_reducible rfl)
  try simp only [Act.put, List.setIfInBounds_toArray, List.set_cons_zero, List.set_cons_succ]
  refine wpAnyH_take (i := 31) (oi := ⟨_, _, _, _, _, _⟩) (v := undef) rfl (by kernel_rfl) (by kernel_rfl) (by kernel_rfl) (fun _ _ _ h => h) (Or.inr ⟨by rfl, rfl⟩) (by assumption) ?_
  try simp only [Act.put, List.setIfInBounds_toArray, List.set_cons_zero, List.set_cons_succ]
  refine wpAnyH_take (i := 32) (oi := ⟨_, _, _, _, _, _⟩) (v := undef) rfl (by kernel_rfl) (by kernel_rfl) (by kernel_rfl) (fun _ _ _ h => h) (Or.inr ⟨by rfl, rfl⟩) (by assumption) ?_
  try simp only [Act.put, List.setIfInBounds_toArray, List.set_cons_zero, List.set_cons_succ]
  refine wpAnyH_take (i := 33) (oi := ⟨_, _, _, _, _, _⟩) (v := undef) rfl (by kernel_rfl) (by kernel_rfl) (by kernel_rfl) (fun _ _ _ h => h) (Or.inr ⟨by rfl, rfl⟩) (by assumption) ?_
  try simp only [Act.put, List.setIfInBounds_toArray, List.set_cons_zero, List.set_cons_succ]
  refine wpAnyH_take (i := 34) (oi := ⟨_, _, _, _, _, _⟩) (v := ?_) rfl (by kernel_rfl) (by kernel_rfl) (by kernel_rfl) (fun _ _ _ h => h) (Or.inl ⟨by rfl, ?_⟩) (by assumption) ?_
  rotate_left
  · intro w' hSw; (try dsimp only at hSw); go_simp; (try with_reducible rfl)
  try simp only [Act.put, List.setIfInBounds_toArray, List.set_cons_zero, List.set_cons_succ]
  refine wpAnyH_take (i := 35) (oi := ⟨_, _, _, _, _, _⟩) (v := ?_) rfl (by kernel_rfl) (by kernel_rfl) (by kernel_rfl) (fun _ _ _ h => h) (Or.inl ⟨by rfl, ?_⟩) (by assumption) ?_
  rotate_left
  · intro w' hSw; (try dsimp only at hSw); go_simp; (try with_reducible rfl)
  try simp only [Act.put, List.setIfInBounds_toArray, List.set_cons_zero, List.set_cons_succ]
  refine wpAnyH_take (i := 36) (oi := ⟨_, _, _, _, _, _⟩) (v := ?_) rfl (by kernel_rfl) (by kernel_rfl) (by kernel_rfl) (fun _ _ _ h => h) (Or.inl ⟨by rfl, ?_⟩) (by assumption) ?_
  rotate_left
  · intro w' hSw; (try dsimp only at hSw); go_simp; (try with_reducible rfl)
  try simp only [Act.put, List.setIfInBounds_toArray, List.set_cons_zero, List.set_cons_succ]
  refine wpAnyH_done (by kernel_rfl) ?_ _
  have EM := Lib.hid hHeld.1
  clear hHeld
  go_wp2
  go_ret
  exact ⟨rfl, E0.out.trans ((B7.out.trans (EM.out.mono B7.out.size)).mono E0.out.size)⟩
set_option maxRecDepth 100000 in
set_option maxHeartbeats 4000000 in
theorem sames_5 (a b : Vl) (w : World) (ht : Tab w) (ha : cameV a) (hb : cameV b) (hra : rightB a = true) (hrb : rightB b = true) (h1 : a.1 = 1) (h2 : b.1 = 1) :
    Calls Tryd.prog 7 #[a.val, b.val] w fun e w' => e = .returned (.bool true) ∧ Below w.heap.size w w' := by
  have hk : ∀ v ∈ [a, b], okV v := by intro v hv; simp at hv; rcases hv with rfl | rfl; exact right_okV hra ha; exact right_okV hrb hb
  have RA := Lib.hid (rright_w a true hra ha.s)
  have RB := Lib.hid (rright_w b true hrb hb.s)
  have HVK1 := eq_val a b
  have HVK2 := neq_val a b
  have HVK3 := is_val a b
  rw [if_pos ⟨h1, h2⟩, ints_same hra hrb h1 h2] at HVK3
  obtain ⟨a1, a2, a3⟩ := a
  obtain ⟨b1, b2, b3⟩ := b
  dsimp only at h1 h2
  have SAB := Lib.hid (fun W => rsame_c (a1, a2, a3) (b1, b2, b3) W)
  generalize hq : decide ((a1, a2, a3) = (b1, b2, b3)) = q at *
  clear hq
  have K1 : Hid (∀ W g, Below w.heap.size w W → W.heap[g]? = some (.cells #[.int .i64 a1, .int .i64 a2, .string a3, .int .i64 b1, .int .i64 b2, .string b3] 32) → Calls Tryd.prog 14 #[.string ⟨#[101, 113]⟩, .slice (some ⟨g, 0, none⟩) 2 2] W fun e w' => e = .returned (.tuple #[.agg #[.int .i64 2, .int .i64 0, .string (sB q)], .int .i64 0]) ∧ Below W.heap.size W w') := Lib.hid (fun W g h hg => apply_at ⟨#[101, 113]⟩ [(a1, a2, a3), (b1, b2, b3)] _ (HVK1) g ht hk (by simp) 32 rfl W h hg)
  have K2 : Hid (∀ W g, Below w.heap.size w W → W.heap[g]? = some (.cells #[.int .i64 a1, .int .i64 a2, .string a3, .int .i64 b1, .int .i64 b2, .string b3] 32) → Calls Tryd.prog 14 #[.string ⟨#[110, 101, 113]⟩, .slice (some ⟨g, 0, none⟩) 2 2] W fun e w' => e = .returned (.tuple #[.agg #[.int .i64 2, .int .i64 0, .string (sB (!q))], .int .i64 0]) ∧ Below W.heap.size W w') := Lib.hid (fun W g h hg => apply_at ⟨#[110, 101, 113]⟩ [(a1, a2, a3), (b1, b2, b3)] _ (HVK2) g ht hk (by simp) 32 rfl W h hg)
  have K3 : Hid (∀ W g, Below w.heap.size w W → W.heap[g]? = some (.cells #[.int .i64 a1, .int .i64 a2, .string a3, .int .i64 b1, .int .i64 b2, .string b3] 32) → Calls Tryd.prog 14 #[.string ⟨#[61]⟩, .slice (some ⟨g, 0, none⟩) 2 2] W fun e w' => e = .returned (.tuple #[.agg #[.int .i64 2, .int .i64 0, .string (sB q)], .int .i64 0]) ∧ Below W.heap.size W w') := Lib.hid (fun W g h hg => apply_at ⟨#[61]⟩ [(a1, a2, a3), (b1, b2, b3)] _ (HVK3) g ht hk (by simp) 32 rfl W h hg)
  have SX : Hid (∀ W, Calls Tryd.prog 15 #[.agg #[.int .i64 2, .int .i64 0, .string (sB q)], .agg #[.int .i64 2, .int .i64 0, .string (sB q)]] W fun e w' => e = .returned (.bool true) ∧ Below W.heap.size W w') := Lib.hid (fun W => by have := rsame_c (vB q) (vB q) W; rwa [decide_eq_true rfl] at this)
  have SY : Hid (∀ W, Calls Tryd.prog 15 #[.agg #[.int .i64 2, .int .i64 0, .string (sB (!q))], .agg #[.int .i64 2, .int .i64 0, .string (sB (!q))]] W fun e w' => e = .returned (.bool true) ∧ Below W.heap.size W w') := Lib.hid (fun W => by have := rsame_c (vB (!q)) (vB (!q)) W; rwa [decide_eq_true rfl] at this)
  have e1 : (a1 == 1) = true := by simp [h1]
  have e2 : (b1 == 1) = true := by simp [h2]
  clear h1 h2
  clear ha hb hk hra hrb HVK1 HVK2 HVK3
  have hB := two_boxes w (a1, a2, a3) (b1, b2, b3) 32 32
  dsimp only at hB
  go_enter Tryd.func7, Tryd.ntmps7
  go_wp2_with fail
  generalize hw2 : (w.alloc (.cells #[.int .i64 a1, .int .i64 a2, .string a3] 32)).alloc (.cells #[.int .i64 b1, .int .i64 b2, .string b3] 32) = wb at hB ⊢
  clear hw2
  obtain ⟨⟨⟨c0, c1, c2⟩, ⟨d0, d1, d2⟩⟩, hb0, hz⟩ := hB
  have E0 := Lib.hid hb0
  have HA : Hid (∀ W, Below wb.heap.size wb W → (W.cell? ⟨w.heap.size, 0, none⟩ = some (.int .i64 a1) ∧ W.cell? ⟨w.heap.size, 1, none⟩ = some (.int .i64 a2) ∧ W.cell? ⟨w.heap.size, 2, none⟩ = some (.string a3) ∧ W.cell? ⟨w.heap.size + 1, 0, none⟩ = some (.int .i64 b1) ∧ W.cell? ⟨w.heap.size + 1, 1, none⟩ = some (.int .i64 b2) ∧ W.cell? ⟨w.heap.size + 1, 2, none⟩ = some (.string b3))) :=
    Lib.hid (fun W h => ⟨(h.cell (p := ⟨w.heap.size, 0, none⟩) (by show w.heap.size < _; omega)).trans c0, (h.cell (p := ⟨w.heap.size, 1, none⟩) (by show w.heap.size < _; omega)).trans c1, (h.cell (p := ⟨w.heap.size, 2, none⟩) (by show w.heap.size < _; omega)).trans c2, (h.cell (p := ⟨w.heap.size + 1, 0, none⟩) (by show w.heap.size + 1 < _; omega)).trans d0, (h.cell (p := ⟨w.heap.size + 1, 1, none⟩) (by show w.heap.size + 1 < _; omega)).trans d1, (h.cell (p := ⟨w.heap.size + 1, 2, none⟩) (by show w.heap.size + 1 < _; omega)).trans d2⟩)
  have HZ := Lib.hid hz
  have TB := Lib.hid (ht.b hb0)
  clear c0 c1 c2 d0 d1 d2 hb0 hz ht
  refine (known_any wb TB.out).mono ?_
  rintro e w1 ⟨rfl, k1⟩
  have B1 := Lib.hid k1
  obtain ⟨c0, c1, c2, d0, d1, d2⟩ := HA.out _ B1.out
  clear k1
  go_wp2_with fail
  refine (RA.out _).mono ?_
  rintro e w2 ⟨rfl, k2⟩
  clear c0 c1 c2 d0 d1 d2
  have B2 := Lib.hid (B1.out.trans (k2.mono B1.out.size))
  obtain ⟨c0, c1, c2, d0, d1, d2⟩ := HA.out _ B2.out
  clear k2
  go_wp2_with fail
  refine (RB.out _).mono ?_
  rintro e w3 ⟨rfl, k3⟩
  clear c0 c1 c2 d0 d1 d2
  have B3 := Lib.hid (B2.out.trans (k3.mono B2.out.size))
  obtain ⟨c0, c1, c2, d0, d1, d2⟩ := HA.out _ B3.out
  clear k3
  go_wp2_with fail
  have BW3 := Lib.hid (E0.out.trans (B3.out.mono E0.out.size))
  refine (K1.out _ _ (BW3.out.alloc BW3.out.size _) (heap_alloc_new w3 _)).mono ?_
  rintro e w4 ⟨rfl, k4⟩
  clear c0 c1 c2 d0 d1 d2
  have B4 := Lib.hid ((B3.out.alloc B3.out.size _).trans (k4.mono (B3.out.alloc B3.out.size _).size))
  have G4 := Lib.hid (keepB (heap_alloc_new w3 _) k4)
  have BW4 := Lib.hid (E0.out.trans (B4.out.mono E0.out.size))
  clear k4
  go_wp2_with fail
  refine (K2.out _ _ (BW4.out.alloc BW4.out.size _) ((Below.heap_alloc w4 _ _ (Array.getElem?_eq_some_iff.1 G4.out).1).trans G4.out)).mono ?_
  rintro e w5 ⟨rfl, k5⟩
  have B5 := Lib.hid ((B4.out.alloc B4.out.size _).trans (k5.mono (B4.out.alloc B4.out.size _).size))
  have G5 := Lib.hid (keepA G4.out k5)
  have X5 := Lib.hid (keepB (heap_alloc_new w4 _) k5)
  have BW5 := Lib.hid (E0.out.trans (B5.out.mono E0.out.size))
  clear k5
  go_wp2_with fail
  refine (K3.out _ _ (BW5.out.alloc BW5.out.size _) ((Below.heap_alloc w5 _ _ (Array.getElem?_eq_some_iff.1 G5.out).1).trans G5.out)).mono ?_
  rintro e w6 ⟨rfl, k6⟩
  have B6 := Lib.hid ((B5.out.alloc B5.out.size _).trans (k6.mono (B5.out.alloc B5.out.size _).size))
  have X6 := Lib.hid (keepA X5.out k6)
  have Y6 := Lib.hid (keepB (heap_alloc_new w5 _) k6)
  have B7 := Lib.hid (B6.out.alloc B6.out.size (.cells #[.int .i64 2, .int .i64 0, .string (sB q)] 32))
  have X7 := Lib.hid ((Below.heap_alloc w6 (.cells #[.int .i64 2, .int .i64 0, .string (sB q)] 32) _ (Array.getElem?_eq_some_iff.1 X6.out).1).trans X6.out)
  have Y7 := Lib.hid ((Below.heap_alloc w6 (.cells #[.int .i64 2, .int .i64 0, .string (sB q)] 32) _ (Array.getElem?_eq_some_iff.1 Y6.out).1).trans Y6.out)
  have Z7 := Lib.hid (heap_alloc_new w6 (.cells #[.int .i64 2, .int .i64 0, .string (sB q)] 32))
  obtain ⟨c0, c1, c2, d0, d1, d2⟩ := HA.out _ B6.out
  have lA : w.heap.size < w6.heap.size := by have := B6.out.size; have := HZ.out; omega
  have lB : w.heap.size + 1 < w6.heap.size := by have := B6.out.size; have := HZ.out; omega
  clear k6
  go_wp2_with fail
  clear c0 c1 c2 d0 d1 d2 lA lB
  generalize w6.alloc (.cells #[.int .i64 2, .int .i64 0, .string (sB q)] 32) = w7 at B7 X7 Y7 Z7 ⊢
  have HS : Hid (∀ W, Below w7.heap.size w7 W → (fun W => Below w7.heap.size w7 W ∧ W.cell? ⟨w.heap.size, 0, none⟩ = some (.int .i64 a1) ∧ W.cell? ⟨w.heap.size, 1, none⟩ = some (.int .i64 a2) ∧ W.cell? ⟨w.heap.size, 2, none⟩ = some (.string a3) ∧ W.cell? ⟨w.heap.size + 1, 0, none⟩ = some (.int .i64 b1) ∧ W.cell? ⟨w.heap.size + 1, 1, none⟩ = some (.int .i64 b2) ∧ W.cell? ⟨w.heap.size + 1, 2, none⟩ = some (.string b3) ∧ W.cell? ⟨w4.heap.size, 0, none⟩ = some (.int .i64 2) ∧ W.cell? ⟨w4.heap.size, 1, none⟩ = some (.int .i64 0) ∧ W.cell? ⟨w4.heap.size, 2, none⟩ = some (.string (sB q)) ∧ W.cell? ⟨w5.heap.size, 0, none⟩ = some (.int .i64 2) ∧ W.cell? ⟨w5.heap.size, 1, none⟩ = some (.int .i64 0) ∧ W.cell? ⟨w5.heap.size, 2, none⟩ = some (.string (sB (!q))) ∧ W.cell? ⟨w6.heap.size, 0, none⟩ = some (.int .i64 2) ∧ W.cell? ⟨w6.heap.size, 1, none⟩ = some (.int .i64 0) ∧ W.cell? ⟨w6.heap.size, 2, none⟩ = some (.string (sB q))) W) := Lib.hid (fun W h => by
    obtain ⟨c0, c1, c2, d0, d1, d2⟩ := HA.out _ (B7.out.trans (h.mono B7.out.size))
    have x := keepB X7.out h
    have y := keepB Y7.out h
    have z := keepB Z7.out h
    exact ⟨h, c0, c1, c2, d0, d1, d2, block_cell x rfl, block_cell x rfl, block_cell x rfl, block_cell y rfl, block_cell y rfl, block_cell y rfl, block_cell z rfl, block_cell z rfl, block_cell z rfl⟩)
  have W0 : IntKind.i64.wrap 0 = 0 := by decide
  have D7 : Below w7.heap.size w7 w7.drew := ⟨rfl, rfl, rfl, Nat.le_refl _, fun _ _ => rfl⟩
  refine wp_region_held_drew (S := (fun W => Below w7.heap.size w7 W ∧ W.cell? ⟨w.heap.size, 0, none⟩ = some (.int .i64 a1) ∧ W.cell? ⟨w.heap.size, 1, none⟩ = some (.int .i64 a2) ∧ W.cell? ⟨w.heap.size, 2, none⟩ = some (.string a3) ∧ W.cell? ⟨w.heap.size + 1, 0, none⟩ = some (.int .i64 b1) ∧ W.cell? ⟨w.heap.size + 1, 1, none⟩ = some (.int .i64 b2) ∧ W.cell? ⟨w.heap.size + 1, 2, none⟩ = some (.string b3) ∧ W.cell? ⟨w4.heap.size, 0, none⟩ = some (.int .i64 2) ∧ W.cell? ⟨w4.heap.size, 1, none⟩ = some (.int .i64 0) ∧ W.cell? ⟨w4.heap.size, 2, none⟩ = some (.string (sB q)) ∧ W.cell? ⟨w5.heap.size, 0, none⟩ = some (.int .i64 2) ∧ W.cell? ⟨w5.heap.size, 1, none⟩ = some (.int .i64 0) ∧ W.cell? ⟨w5.heap.size, 2, none⟩ = some (.string (sB (!q))) ∧ W.cell? ⟨w6.heap.size, 0, none⟩ = some (.int .i64 2) ∧ W.cell? ⟨w6.heap.size, 1, none⟩ = some (.int .i64 0) ∧ W.cell? ⟨w6.heap.size, 2, none⟩ = some (.string (sB q)))) (by kernel_rfl) (HS.out _ D7) (fun hHeld => ?_)
  refine wpAnyH_take (i := 0) (oi := ⟨_, _, _, _, _, _⟩) (v := ?_) rfl (by kernel_rfl) (by kernel_rfl) (by kernel_rfl) (fun _ _ _ h => h) (Or.inl ⟨by rfl, ?_⟩) (by assumption) ?_
  rotate_left
  · intro w' hSw; (try dsimp only at hSw); go_simp; (try with_reducible rfl)
  try simp only [Act.put, List.setIfInBounds_toArray, List.set_cons_zero, List.set_cons_succ]
  refine wpAnyH_take (i := 1) (oi := ⟨_, _, _, _, _, _⟩) (v := ?_) rfl (by kernel_rfl) (by kernel_rfl) (by kernel_rfl) (fun _ _ _ h => h) (Or.inl ⟨by rfl, ?_⟩) (by assumption) ?_
  rotate_left
  · intro w' hSw; (try dsimp only at hSw); go_simp; (try with_reducible rfl)
  try simp only [Act.put, List.setIfInBounds_toArray, List.set_cons_zero, List.set_cons_succ]
  refine wpAnyH_take (i := 2) (oi := ⟨_, _, _, _, _, _⟩) (v := ?_) rfl (by kernel_rfl) (by kernel_rfl) (by kernel_rfl) (fun _ _ _ h => h) (Or.inl ⟨by rfl, ?_⟩) (by assumption) ?_
  rotate_left
  · intro w' hSw; (try dsimp only at hSw); go_simp; (try with_reducible rfl)
  try simp only [Act.put, List.setIfInBounds_toArray, List.set_cons_zero, List.set_cons_succ]
  refine wpAnyH_take (i := 3) (oi := ⟨_, _, _, _, _, _⟩) (v := ?_) rfl (by kernel_rfl) (by kernel_rfl) (by kernel_rfl) (fun _ _ _ h => h) (Or.inl ⟨by rfl, ?_⟩) (by assumption) ?_
  rotate_left
  · intro w' hSw; (try dsimp only at hSw); go_simp; (try with_reducible rfl)
  try simp only [Act.put, List.setIfInBounds_toArray, List.set_cons_zero, List.set_cons_succ]
  refine wpAnyH_take (i := 4) (oi := ⟨_, _, _, _, _, _⟩) (v := ?_) rfl (by kernel_rfl) (by kernel_rfl) (by kernel_rfl) (fun _ _ _ h => h) (Or.inl ⟨by rfl, ?_⟩) (by assumption) ?_
  rotate_left
  · intro w' hSw; (try dsimp only at hSw); go_simp; (try with_reducible rfl)
  try simp only [Act.put, List.setIfInBounds_toArray, List.set_cons_zero, List.set_cons_succ]
  refine wpAnyH_take (i := 5) (oi := ⟨_, _, _, _, _, _⟩) (v := ?_) rfl (by kernel_rfl) (by kernel_rfl) (by kernel_rfl) (fun _ _ _ h => h) (Or.inl ⟨by rfl, ?_⟩) (by assumption) ?_
  rotate_left
  · intro w' hSw; (try dsimp only at hSw); go_simp; (try with_reducible rfl)
  try simp only [Act.put, List.setIfInBounds_toArray, List.set_cons_zero, List.set_cons_succ]
  refine wpAnyH_take (i := 6) (oi := ⟨_, _, _, _, _, _⟩) (v := ?_) rfl (by kernel_rfl) (by kernel_rfl) (by kernel_rfl) (fun _ _ _ h => h) (Or.inl ⟨by rfl, ?_⟩) (by assumption) ?_
  rotate_left
  · intro w' hSw; (try dsimp only at hSw); go_simp; (try with_reducible rfl)
  try simp only [Act.put, List.setIfInBounds_toArray, List.set_cons_zero, List.set_cons_succ]
  refine wpAnyH_take (i := 7) (oi := ⟨_, _, _, _, _, _⟩) (v := ?_) rfl (by kernel_rfl) (by kernel_rfl) (by kernel_rfl) (fun _ _ _ h => h) (Or.inl ⟨by rfl, ?_⟩) (by assumption) ?_
  rotate_left
  · intro w' hSw; (try dsimp only at hSw); go_simp; (try with_reducible rfl)
  try simp only [Act.put, List.setIfInBounds_toArray, List.set_cons_zero, List.set_cons_succ]
  refine wpAnyH_ready (rs := [8]) (by kernel_rfl) (by simp) ?_
  refine AllReadyH.cons (o := ⟨_, _, _, _, _, _⟩) rfl (fun K9 hK9 => ?_) AllReadyH.nil
  go_simp
  (with_reducible refine ((belowW (W0 := w7) hHeld.1 (SAB.out _))).mono ?_)
  rintro e v1 ⟨rfl, m1⟩
  have M1 := Lib.hid m1
  clear m1
  go_wp2_with fail
  refine hK9.out _ _ (HS.out _ M1.out) (fun hHeld => ?_)
  clear hK9 K9
  try simp only [Act.put, List.setIfInBounds_toArray, List.set_cons_zero, List.set_cons_succ]
  refine wpAnyH_ready (rs := [9]) (by kernel_rfl) (by simp) ?_
  refine AllReadyH.cons (o := ⟨_, _, _, _, _, _⟩) rfl (fun K9 hK9 => ?_) AllReadyH.nil
  go_simp
  (with_reducible refine ((belowW (W0 := w7) hHeld.1 (rBool_c q _))).mono ?_)
  rintro e v2 ⟨rfl, m2⟩
  have M2 := Lib.hid m2
  clear m2
  go_wp2_with fail
  refine hK9.out _ _ (HS.out _ M2.out) (fun hHeld => ?_)
  clear hK9 K9
  try simp only [Act.put, List.setIfInBounds_toArray, List.set_cons_zero, List.set_cons_succ]
  refine wpAnyH_ready (rs := [10]) (by kernel_rfl) (by simp) ?_
  refine AllReadyH.cons (o := ⟨_, _, _, _, _, _⟩) rfl (fun K9 hK9 => ?_) AllReadyH.nil
  go_simp
  (with_reducible refine ((belowW (W0 := w7) hHeld.1 (SX.out _))).mono ?_)
  rintro e v3 ⟨rfl, m3⟩
  have M3 := Lib.hid m3
  clear m3
  go_wp2_with fail
  refine hK9.out _ _ (HS.out _ M3.out) (fun hHeld => ?_)
  clear hK9 K9
  try simp only [Act.put, List.setIfInBounds_toArray, List.set_cons_zero, List.set_cons_succ]
  refine wpAnyH_take (i := 11) (oi := ⟨_, _, _, _, _, _⟩) (v := ?_) rfl (by kernel_rfl) (by kernel_rfl) (by kernel_rfl) (fun _ _ _ h => h) (Or.inl ⟨by rfl, ?_⟩) (by assumption) ?_
  rotate_left
  · intro w' hSw; (try dsimp only at hSw); go_simp; (try with_reducible rfl)
  try simp only [Act.put, List.setIfInBounds_toArray, List.set_cons_zero, List.set_cons_succ]
  refine wpAnyH_take (i := 12) (oi := ⟨_, _, _, _, _, _⟩) (v := ?_) rfl (by kernel_rfl) (by kernel_rfl) (by kernel_rfl) (fun _ _ _ h => h) (Or.inl ⟨by rfl, ?_⟩) (by assumption) ?_
  rotate_left
  · intro w' hSw; (try dsimp only at hSw); go_simp; (try with_reducible rfl)
  try simp only [Act.put, List.setIfInBounds_toArray, List.set_cons_zero, List.set_cons_succ]
  refine wpAnyH_take (i := 13) (oi := ⟨_, _, _, _, _, _⟩) (v := ?_) rfl (by kernel_rfl) (by kernel_rfl) (by kernel_rfl) (fun _ _ _ h => h) (Or.inl ⟨by rfl, ?_⟩) (by assumption) ?_
  rotate_left
  · intro w' hSw; (try dsimp only at hSw); go_simp; (try with_reducible rfl)
  try simp only [Act.put, List.setIfInBounds_toArray, List.set_cons_zero, List.set_cons_succ]
  refine wpAnyH_take (i := 14) (oi := ⟨_, _, _, _, _, _⟩) (v := ?_) rfl (by kernel_rfl) (by kernel_rfl) (by kernel_rfl) (fun _ _ _ h => h) (Or.inl ⟨by rfl, ?_⟩) (by assumption) ?_
  rotate_left
  · intro w' hSw; (try dsimp only at hSw); go_simp; (try with_reducible rfl)
  try simp only [Act.put, List.setIfInBounds_toArray, List.set_cons_zero, List.set_cons_succ]
  refine wpAnyH_take (i := 15) (oi := ⟨_, _, _, _, _, _⟩) (v := ?_) rfl (by kernel_rfl) (by kernel_rfl) (by kernel_rfl) (fun _ _ _ h => h) (Or.inl ⟨by rfl, ?_⟩) (by assumption) ?_
  rotate_left
  · intro w' hSw; (try dsimp only at hSw); go_simp; (try with_reducible rfl)
  try simp only [Act.put, List.setIfInBounds_toArray, List.set_cons_zero, List.set_cons_succ]
  refine wpAnyH_ready (rs := [16]) (by kernel_rfl) (by simp) ?_
  refine AllReadyH.cons (o := ⟨_, _, _, _, _, _⟩) rfl (fun K9 hK9 => ?_) AllReadyH.nil
  go_simp
  (with_reducible refine ((belowW (W0 := w7) hHeld.1 (SAB.out _))).mono ?_)
  rintro e v4 ⟨rfl, m4⟩
  have M4 := Lib.hid m4
  clear m4
  go_wp2_with fail
  refine hK9.out _ _ (HS.out _ M4.out) (fun hHeld => ?_)
  clear hK9 K9
  try simp only [Act.put, List.setIfInBounds_toArray, List.set_cons_zero, List.set_cons_succ]
  refine wpAnyH_take (i := 17) (oi := ⟨_, _, _, _, _, _⟩) (v := ?_) rfl (by kernel_rfl) (by kernel_rfl) (by kernel_rfl) (fun _ _ _ h => h) (Or.inl ⟨by rfl, ?_⟩) (by assumption) ?_
  rotate_left
  · intro w' hSw; (try dsimp only at hSw); go_simp; (try with_reducible rfl)
  try simp only [Act.put, List.setIfInBounds_toArray, List.set_cons_zero, List.set_cons_succ]
  refine wpAnyH_ready (rs := [18]) (by kernel_rfl) (by simp) ?_
  refine AllReadyH.cons (o := ⟨_, _, _, _, _, _⟩) rfl (fun K9 hK9 => ?_) AllReadyH.nil
  go_simp
  (with_reducible refine ((belowW (W0 := w7) hHeld.1 (rBool_c (!q) _))).mono ?_)
  rintro e v5 ⟨rfl, m5⟩
  have M5 := Lib.hid m5
  clear m5
  go_wp2_with fail
  refine hK9.out _ _ (HS.out _ M5.out) (fun hHeld => ?_)
  clear hK9 K9
  try simp only [Act.put, List.setIfInBounds_toArray, List.set_cons_zero, List.set_cons_succ]
  refine wpAnyH_ready (rs := [19]) (by kernel_rfl) (by simp) ?_
  refine AllReadyH.cons (o := ⟨_, _, _, _, _, _⟩) rfl (fun K9 hK9 => ?_) AllReadyH.nil
  go_simp
  (with_reducible refine ((belowW (W0 := w7) hHeld.1 (SY.out _))).mono ?_)
  rintro e v6 ⟨rfl, m6⟩
  have M6 := Lib.hid m6
  clear m6
  go_wp2_with fail
  refine hK9.out _ _ (HS.out _ M6.out) (fun hHeld => ?_)
  clear hK9 K9
  try simp only [Act.put, List.setIfInBounds_toArray, List.set_cons_zero, List.set_cons_succ]
  refine wpAnyH_take (i := 20) (oi := ⟨_, _, _, _, _, _⟩) (v := ?_) rfl (by kernel_rfl) (by kernel_rfl) (by kernel_rfl) (fun _ _ _ h => h) (Or.inl ⟨by rfl, ?_⟩) (by assumption) ?_
  rotate_left
  · intro w' hSw; (try dsimp only at hSw); go_simp; (try with_reducible rfl)
  try simp only [Act.put, List.setIfInBounds_toArray, List.set_cons_zero, List.set_cons_succ]
  refine wpAnyH_take (i := 21) (oi := ⟨_, _, _, _, _, _⟩) (v := ?_) rfl (by kernel_rfl) (by kernel_rfl) (by kernel_rfl) (fun _ _ _ h => h) (Or.inl ⟨by rfl, ?_⟩) (by assumption) ?_
  rotate_left
  · intro w' hSw; (try dsimp only at hSw); go_simp; (try with_reducible rfl)
  try simp only [Act.put, List.setIfInBounds_toArray, List.set_cons_zero, List.set_cons_succ]
  refine wpAnyH_take (i := 22) (oi := ⟨_, _, _, _, _, _⟩) (v := ?_) rfl (by kernel_rfl) (by kernel_rfl) (by kernel_rfl) (fun _ _ _ h => h) (Or.inl ⟨by rfl, ?_⟩) (by assumption) ?_
  rotate_left
  · intro w' hSw; (try dsimp only at hSw); go_simp; (try with_reducible rfl)
  try simp only [Act.put, List.setIfInBounds_toArray, List.set_cons_zero, List.set_cons_succ]
  refine wpAnyH_take (i := 23) (oi := ⟨_, _, _, _, _, _⟩) (v := ?_) rfl (by kernel_rfl) (by kernel_rfl) (by kernel_rfl) (fun _ _ _ h => h) (Or.inl ⟨by rfl, ?_⟩) (by assumption) ?_
  rotate_left
  · intro w' hSw; (try dsimp only at hSw); go_simp; (try with_reducible rfl)
  try simp only [Act.put, List.setIfInBounds_toArray, List.set_cons_zero, List.set_cons_succ]
  refine wpAnyH_take (i := 24) (oi := ⟨_, _, _, _, _, _⟩) (v := ?_) rfl (by kernel_rfl) (by kernel_rfl) (by kernel_rfl) (fun _ _ _ h => h) (Or.inl ⟨by rfl, ?_⟩) (by assumption) ?_
  rotate_left
  · intro w' hSw; (try dsimp only at hSw); go_simp; (try with_reducible rfl)
  try simp only [Act.put, List.setIfInBounds_toArray, List.set_cons_zero, List.set_cons_succ]
  refine wpAnyH_take (i := 25) (oi := ⟨_, _, _, _, _, _⟩) (v := ?_) rfl (by kernel_rfl) (by kernel_rfl) (by kernel_rfl) (fun _ _ _ h => h) (Or.inl ⟨by rfl, ?_⟩) (by assumption) ?_
  rotate_left
  · intro w' hSw; (try dsimp only at hSw); go_simp; (try with_reducible rfl)
  try simp only [Act.put, List.setIfInBounds_toArray, List.set_cons_zero, List.set_cons_succ]
  refine wpAnyH_take (i := 26) (oi := ⟨_, _, _, _, _, _⟩) (v := ?_) rfl (by kernel_rfl) (by kernel_rfl) (by kernel_rfl) (fun _ _ _ h => h) (Or.inl ⟨by rfl, ?_⟩) (by assumption) ?_
  rotate_left
  · intro w' hSw; (try dsimp only at hSw); go_simp; (try with_reducible rfl)
  try simp only [Act.put, List.setIfInBounds_toArray, List.set_cons_zero, List.set_cons_succ]
  refine wpAnyH_take (i := 27) (oi := ⟨_, _, _, _, _, _⟩) (v := ?_) rfl (by kernel_rfl) (by kernel_rfl) (by kernel_rfl) (fun _ _ _ h => h) (Or.inl ⟨by rfl, ?_⟩) (by assumption) ?_
  rotate_left
  · intro w' hSw; (try dsimp only at hSw); go_simp; (try with_reducible rfl)
  try simp only [Act.put, List.setIfInBounds_toArray, List.set_cons_zero, List.set_cons_succ]
  refine wpAnyH_take (i := 28) (oi := ⟨_, _, _, _, _, _⟩) (v := ?_) rfl (by kernel_rfl) (by kernel_rfl) (by kernel_rfl) (fun _ _ _ h => h) (Or.inl ⟨by rfl, ?_⟩) (by assumption) ?_
  rotate_left
  · intro w' hSw; (try dsimp only at hSw); go_simp; (try with_reducible rfl)
  try simp only [Act.put, List.setIfInBounds_toArray, List.set_cons_zero, List.set_cons_succ]
  refine wpAnyH_take (i := 29) (oi := ⟨_, _, _, _, _, _⟩) (v := ?_) rfl (by kernel_rfl) (by kernel_rfl) (by kernel_rfl) (fun _ _ _ h => h) (Or.inl ⟨by rfl, ?_⟩) (by assumption) ?_
  rotate_left
  · intro w' hSw; (try dsimp only at hSw); go_simp; (try with_reducible rfl)
  try simp only [Act.put, List.setIfInBounds_toArray, List.set_cons_zero, List.set_cons_succ]
  refine wpAnyH_take (i := 30) (oi := ⟨_, _, _, _, _, _⟩) (v := ?_) rfl (by kernel_rfl) (by kernel_rfl) (by kernel_rfl) (fun _ _ _ h => h) (Or.inl ⟨by rfl, ?_⟩) (by assumption) ?_
  rotate_left
  · intro w' hSw; (try dsimp only at hSw); go_simp; (try with_reducible rfl)
  try simp only [Act.put, List.setIfInBounds_toArray, List.set_cons_zero, List.set_cons_succ]
  refine wpAnyH_take (i := 31) (oi := ⟨_, _, _, _, _, _⟩) (v := ?_) rfl (by kernel_rfl) (by kernel_rfl) (by kernel_rfl) (fun _ _ _ h => h) (Or.inl ⟨by rfl, ?_⟩) (by assumption) ?_
  rotate_left
  · intro w' hSw; (try dsimp only at hSw); go_simp; (try with_reducible rfl)
  try simp only [Act.put, List.setIfInBounds_toArray, List.set_cons_zero, List.set_cons_succ]
  refine wpAnyH_take (i := 32) (oi := ⟨_, _, _, _, _, _⟩) (v := ?_) rfl (by kernel_rfl) (by kernel_rfl) (by kernel_rfl) (fun _ _ _ h => h) (Or.inl ⟨by rfl, ?_⟩) (by assumption) ?_
  rotate_left
  · intro w' hSw; (try dsimp only at hSw); go_simp; (try with_reducible rfl)
  try simp only [Act.put, List.setIfInBounds_toArray, List.set_cons_zero, List.set_cons_succ]
  refine wpAnyH_ready (rs := [33]) (by kernel_rfl) (by simp) ?_
  refine AllReadyH.cons (o := ⟨_, _, _, _, _, _⟩) rfl (fun K9 hK9 => ?_) AllReadyH.nil
  go_simp
  (with_reducible refine ((belowW (W0 := w7) hHeld.1 (SX.out _))).mono ?_)
  rintro e v7 ⟨rfl, m7⟩
  have M7 := Lib.hid m7
  clear m7
  go_wp2_with fail
  refine hK9.out _ _ (HS.out _ M7.out) (fun hHeld => ?_)
  clear hK9 K9
  try simp only [Act.put, List.setIfInBounds_toArray, List.set_cons_zero, List.set_cons_succ]
  refine wpAnyH_take (i := 34) (oi := ⟨_, _, _, _, _, _⟩) (v := ?_) rfl (by kernel_rfl) (by kernel_rfl) (by kernel_rfl) (fun _ _ _ h => h) (Or.inl ⟨by rfl, ?_⟩) (by assumption) ?_
  rotate_left
  · intro w' hSw; (try dsimp only at hSw); go_simp; (try with_reducible rfl)
  try simp only [Act.put, List.setIfInBounds_toArray, List.set_cons_zero, List.set_cons_succ]
  refine wpAnyH_take (i := 35) (oi := ⟨_, _, _, _, _, _⟩) (v := ?_) rfl (by kernel_rfl) (by kernel_rfl) (by kernel_rfl) (fun _ _ _ h => h) (Or.inl ⟨by rfl, ?_⟩) (by assumption) ?_
  rotate_left
  · intro w' hSw; (try dsimp only at hSw); go_simp; (try with_reducible rfl)
  try simp only [Act.put, List.setIfInBounds_toArray, List.set_cons_zero, List.set_cons_succ]
  refine wpAnyH_take (i := 36) (oi := ⟨_, _, _, _, _, _⟩) (v := ?_) rfl (by kernel_rfl) (by kernel_rfl) (by kernel_rfl) (fun _ _ _ h => h) (Or.inl ⟨by rfl, ?_⟩) (by assumption) ?_
  rotate_left
  · intro w' hSw; (try dsimp only at hSw); go_simp; (try with_reducible rfl)
  try simp only [Act.put, List.setIfInBounds_toArray, List.set_cons_zero, List.set_cons_succ]
  refine wpAnyH_done (by kernel_rfl) ?_ _
  have EM := Lib.hid hHeld.1
  clear hHeld
  go_wp2
  go_ret
  exact ⟨rfl, E0.out.trans ((B7.out.trans (EM.out.mono B7.out.size)).mono E0.out.size)⟩
theorem builtSames_any (a b : Vl) (w : World) (ht : Tab w) (ha : cameV a) (hb : cameV b) :
    Calls Tryd.prog 7 #[a.val, b.val] w fun e w' => e = .returned (.bool true) ∧ Below w.heap.size w w' := by
  cases hra : rightB a with
  | false => exact sames_1 a b w ht ha hra
  | true =>
    cases hrb : rightB b with
    | false => exact sames_2 a b w ht ha hb hra hrb
    | true =>
      by_cases h1 : a.1 = 1
      · by_cases h2 : b.1 = 1
        · exact sames_5 a b w ht ha hb hra hrb h1 h2
        · exact sames_4 a b w ht ha hb hra hrb h1 h2
      · exact sames_3 a b w ht ha hb hra hrb h1
end Go.Proofs.YtmadnehipagakaaDoor
