/- BuiltAny: any name, with any values: the program and the reference answer alike, and what is answered is a value. -/
import Derived.Test.YtmadnehipagakaaGreatDoorRan1
namespace Go.Proofs.YtmadnehipagakaaGreatDoor
open Go.RowKit Go.Lib Go.Sort KP
set_option maxHeartbeats 1000000 in
theorem any_long (s : ByteArray) (A : Option Addr) (c : Nat) (l : List Vl) (w : World) (ht : Tab w) (h : 100 < s.size ∨ 30 < l.length) :
    Calls Tryz.prog 3 #[.string s, .slice A l.length c] w fun e w' => e = .returned (.bool true) ∧ Below w.heap.size w w' := by
  have KN := Lib.hid (known_any w ht)
  clear ht
  by_cases h1 : 100 < s.size
  · have hI : (100 : Int) < (s.size : Int) := by omega
    clear h h1
    go_enter Tryz.func3, Tryz.ntmps3
    go_wp2_with fail
    refine KN.out.mono ?_
    rintro e w1 ⟨rfl, b1⟩
    have E1 := Lib.hid b1; clear b1
    go_wp2_with fail
    go_ret
    exact ⟨rfl, E1.out⟩
  · have hI : (s.size : Int) ≤ 100 := by omega
    have hI2 : (30 : Int) < (l.length : Int) := by omega
    clear h h1
    go_enter Tryz.func3, Tryz.ntmps3
    go_wp2_with fail
    refine KN.out.mono ?_
    rintro e w1 ⟨rfl, b1⟩
    have E1 := Lib.hid b1; clear b1
    go_wp2_with fail
    go_ret
    exact ⟨rfl, E1.out⟩
set_option maxRecDepth 100000 in
set_option maxHeartbeats 4000000 in
theorem any_not (s : ByteArray) (A : Option Addr) (c : Nat) (l : List Vl) (w : World) (ht : Tab w) (hv : ValsAt w A l) (hx : ∀ x ∈ l, cameV x) (hs : s.size ≤ 100) (h30 : l.length ≤ 30) (hno : ¬ ∀ k (h : k < l.length), rightB l[k] = true) :
    Calls Tryz.prog 3 #[.string s, .slice A l.length c] w fun e w' => e = .returned (.bool true) ∧ Below w.heap.size w w' := by
  have KN := Lib.hid (known_any w ht)
  have V := Lib.hid (fun W (h : Below w.heap.size w W) => hv.below h)
  have HX := Lib.hid hx
  have NO := Lib.hid hno
  clear hno
  have hsI : (s.size : Int) ≤ 100 := by omega
  have hnI : (l.length : Int) ≤ 30 := by omega
  clear ht hv hx hs
  go_enter Tryz.func3, Tryz.ntmps3
  go_wp2_with fail
  refine KN.out.mono ?_
  rintro e w1 ⟨rfl, b1⟩
  have E1 := Lib.hid b1; clear b1
  go_wp2_with fail
  go_loopw [5] (fun i wr => ∃ k : Nat, k ≤ l.length ∧ i = .int .i64 k ∧ Hid (Below w.heap.size w wr) ∧ Hid (∀ j (h : j < l.length), j < k → rightB l[j] = true)) (fun i _ => l.length - (intOf i).toNat)
  case atStart => exact ⟨0, by omega, rfl, E1, Lib.hid (fun j _ h => by omega)⟩
  case round =>
    obtain ⟨k, hk, rfl, hB, hJ⟩ := hrel
    by_cases hlt : k < l.length
    · have hltI : (k : Int) < (l.length : Int) := by omega
      obtain ⟨ad, rfl, c0, c1, c2⟩ := (V.out _ hB.out).at hlt
      have hc := Lib.hid (HX.out l[k] (List.getElem_mem hlt))
      have hJ2 : Hid (rightB l[k] = true → ∀ j (h : j < l.length), j < k + 1 → rightB l[j] = true) := Lib.hid (fun e j h h2 => by
        by_cases e2 : j = k
        · subst e2; exact e
        · exact hJ.out j h (by omega))
      generalize l[k] = v at *
      obtain ⟨a, b, t⟩ := v
      dsimp only at c0 c1 c2
      cases hr : rightB (a, b, t) with
      | false =>
        have RC := Lib.hid (rright_v (a, b, t) false hr hc.out)
        clear hr
        go_wp2_with fail
        refine (RC.out _).mono ?_
        rintro e w2 ⟨rfl, b2⟩
        have E2 := Lib.hid (hB.out.trans (b2.mono hB.out.size))
        clear b2
        go_wp2_with fail
        go_ret
        exact ⟨rfl, E2.out⟩
      | true =>
        have RC := Lib.hid (rright_v (a, b, t) true hr hc.out)
        have hJ3 := Lib.hid (hJ2.out hr)
        clear hr hJ2
        go_wp2_with fail
        refine (RC.out _).mono ?_
        rintro e w2 ⟨rfl, b2⟩
        have E2 := Lib.hid (hB.out.trans (b2.mono hB.out.size))
        clear b2
        go_wp2_with fail
        exact ⟨⟨k + 1, by omega, by go_num, E2, hJ3⟩, by simp [intOf]; omega⟩
    · obtain rfl : k = l.length := by omega
      exact absurd (fun j h => hJ.out j h h) NO.out
set_option maxRecDepth 100000 in
set_option maxHeartbeats 4000000 in
theorem any_A (s : ByteArray) (A : Option Addr) (c : Nat) (l : List Vl) (w : World) (ht : Tab w) (hv : ValsAt w A l) (hx : ∀ x ∈ l, cameV x) (hs : s.size ≤ 100) (h30 : l.length ≤ 30) (hA : A = none → c = 0) (hall : ∀ k (h : k < l.length), rightB l[k] = true) (hz : (applyO s l).2 = 0) :
    Calls Tryz.prog 3 #[.string s, .slice A l.length c] w fun e w' => e = .returned (.bool true) ∧ Below w.heap.size w w' := by
  have KN := Lib.hid (known_any w ht)
  have V := Lib.hid (fun W (h : Below w.heap.size w W) => hv.below h)
  have HX := Lib.hid hx
  have AR := Lib.hid hall
  have hri : ∀ v ∈ l, rightB v = true := by
    intro v hv2
    obtain ⟨k, hk, rfl⟩ := List.getElem_of_mem hv2
    exact hall k hk
  have hok : ∀ v ∈ l, okV v := fun v h => right_okV (hri v h) (hx v h)
  have K1 := Lib.hid (fun W (h : Below w.heap.size w W) => apply_c s A c l W (ht.b h) (hv.below h) hok (by omega))
  have K2 := Lib.hid (fun W (h : Below w.heap.size w W) => rapply_c s A c l W hA (hv.below h) hx hri h30)
  have K3 := Lib.hid (fun W => arity_c s W)
  have K4 := Lib.hid (fun W => rarity_c s W)
  have K5 := Lib.hid (fun W => known_c s W)
  have K6 := Lib.hid (fun W => rknown_c s W)
  have hrt := apply_right s l hri hz
  generalize applyO s l = r at *
  obtain ⟨⟨v1, v2, v3⟩, f⟩ := r
  dsimp only at hz
  subst hz
  have RV : Hid (∀ W, Calls Tryz.prog 12 #[.agg #[.int .i64 v1, .int .i64 v2, .string v3]] W fun e w' => e = .returned (.bool true) ∧ Below W.heap.size W w') := Lib.hid (fun W => by have := rright_c (v1, v2, v3) W (by have : v3.size ≤ 1000 := right_len hrt; show v3.size ≤ _; omega); rwa [hrt] at this)
  clear hrt
  have SM : Hid (∀ W, Calls Tryz.prog 17 #[.agg #[.int .i64 v1, .int .i64 v2, .string v3], .agg #[.int .i64 v1, .int .i64 v2, .string v3]] W fun e w' => e = .returned (.bool true) ∧ Below W.heap.size W w') := Lib.hid (fun W => by have := rsame_c (v1, v2, v3) (v1, v2, v3) W; rwa [decide_eq_true rfl] at this)
  generalize arity s = ar at *
  obtain ⟨ar1, ar2⟩ := ar
  generalize knownB s = kb at *
  clear hok hri hall hA
  have hsI : (s.size : Int) ≤ 100 := by omega
  have hnI : (l.length : Int) ≤ 30 := by omega
  clear ht hv hx hs
  go_enter Tryz.func3, Tryz.ntmps3
  go_wp2_with fail
  refine KN.out.mono ?_
  rintro e w1 ⟨rfl, b1⟩
  have E1 := Lib.hid b1; clear b1
  go_wp2_with fail
  go_loopw [5] (fun i wr => ∃ k : Nat, k ≤ l.length ∧ i = .int .i64 k ∧ Hid (Below w.heap.size w wr)) (fun i _ => l.length - (intOf i).toNat)
  case atStart => exact ⟨0, by omega, rfl, E1⟩
  case round =>
    obtain ⟨k, hk, rfl, hB⟩ := hrel
    by_cases hlt : k < l.length
    · have hltI : (k : Int) < (l.length : Int) := by omega
      obtain ⟨ad, rfl, c0, c1, c2⟩ := (V.out _ hB.out).at hlt
      have hc := Lib.hid (HX.out l[k] (List.getElem_mem hlt))
      have hr := AR.out k hlt
      generalize l[k] = v at *
      obtain ⟨a, b, t⟩ := v
      dsimp only at c0 c1 c2
      have RC := Lib.hid (rright_v (a, b, t) true hr hc.out)
      
      clear hr
      go_wp2_with fail
      refine (RC.out _).mono ?_
      rintro e w2 ⟨rfl, b2⟩
      have E2 := Lib.hid (hB.out.trans (b2.mono hB.out.size))
      clear b2
      go_wp2_with fail
      exact ⟨⟨k + 1, by omega, by go_num, E2⟩, by simp [intOf]; omega⟩
    · obtain rfl : k = l.length := by omega
      have c0 := 0
      clear c0
      go_wp2_with fail
      refine (K1.out _ hB.out).mono ?_
      rintro e w2 ⟨rfl, k2⟩
      have B2 := Lib.hid (hB.out.trans (k2.mono hB.out.size))
      clear k2
      go_wp2_with fail
      refine (K2.out _ (B2.out.alloc B2.out.size _)).mono ?_
      rintro e w3 ⟨rfl, k3⟩
      have B3 := Lib.hid ((B2.out.alloc B2.out.size _).trans (k3.mono (B2.out.alloc B2.out.size _).size))
      have X3 := Lib.hid (keepB (heap_alloc_new w2 _) k3)
      have B4 := Lib.hid (B3.out.alloc B3.out.size (.cells #[.int .i64 v1, .int .i64 v2, .string v3] 26))
      have X4 := Lib.hid ((Below.heap_alloc w3 (.cells #[.int .i64 v1, .int .i64 v2, .string v3] 26) _ (Array.getElem?_eq_some_iff.1 X3.out).1).trans X3.out)
      have Y4 := Lib.hid (heap_alloc_new w3 (.cells #[.int .i64 v1, .int .i64 v2, .string v3] 26))
      clear k3
      go_wp2_with fail
      refine (K3.out _).mono ?_
      rintro e w4 ⟨rfl, rfl⟩
      go_wp2_with fail
      refine (K4.out _).mono ?_
      rintro e w4 ⟨rfl, rfl⟩
      generalize w3.alloc (.cells #[.int .i64 v1, .int .i64 v2, .string v3] 26) = w4 at B4 X4 Y4 ⊢
      have HS := Lib.hid (fun W (h : Below w4.heap.size w4 W) => by
        have x := keepB X4.out h
        have y := keepB Y4.out h
        exact (⟨block_cell x rfl, block_cell x rfl, block_cell x rfl, block_cell y rfl, block_cell y rfl, block_cell y rfl⟩ : W.cell? ⟨w2.heap.size, 0, none⟩ = some (.int .i64 v1) ∧ W.cell? ⟨w2.heap.size, 1, none⟩ = some (.int .i64 v2) ∧ W.cell? ⟨w2.heap.size, 2, none⟩ = some (.string v3) ∧ W.cell? ⟨w3.heap.size, 0, none⟩ = some (.int .i64 v1) ∧ W.cell? ⟨w3.heap.size, 1, none⟩ = some (.int .i64 v2) ∧ W.cell? ⟨w3.heap.size, 2, none⟩ = some (.string v3)))
      obtain ⟨x0, x1, x2, y0, y1, y2⟩ := HS.out _ (Below.refl _ _)
      go_wp2_with fail
      refine (SM.out _).mono ?_
      rintro e w5 ⟨rfl, k5⟩
      have E5 := Lib.hid k5
      clear k5 x0 x1 x2 y0 y1 y2
      go_wp2_with fail
      refine (K5.out _).mono ?_
      rintro e w6 ⟨rfl, k6⟩
      have E6 := Lib.hid (E5.out.trans (k6.mono E5.out.size))
      clear k6
      go_wp2_with fail
      refine (K6.out _).mono ?_
      rintro e w7 ⟨rfl, k7⟩
      have E7 := Lib.hid (E6.out.trans (k7.mono E6.out.size))
      clear k7
      obtain ⟨x0, x1, x2, _, _, _⟩ := HS.out _ E7.out
      go_wp2_with fail
      refine (RV.out _).mono ?_
      rintro e w8 ⟨rfl, k8⟩
      have E8 := Lib.hid (E7.out.trans (k8.mono E7.out.size))
      clear k8
      go_wp2_with fail
      go_ret
      exact ⟨rfl, B4.out.trans (E8.out.mono B4.out.size)⟩
set_option maxRecDepth 100000 in
set_option maxHeartbeats 4000000 in
theorem any_B (s : ByteArray) (A : Option Addr) (c : Nat) (l : List Vl) (w : World) (ht : Tab w) (hv : ValsAt w A l) (hx : ∀ x ∈ l, cameV x) (hs : s.size ≤ 100) (h30 : l.length ≤ 30) (hA : A = none → c = 0) (hall : ∀ k (h : k < l.length), rightB l[k] = true) (hz : (applyO s l).2 ≠ 0) :
    Calls Tryz.prog 3 #[.string s, .slice A l.length c] w fun e w' => e = .returned (.bool true) ∧ Below w.heap.size w w' := by
  have KN := Lib.hid (known_any w ht)
  have V := Lib.hid (fun W (h : Below w.heap.size w W) => hv.below h)
  have HX := Lib.hid hx
  have AR := Lib.hid hall
  have hri : ∀ v ∈ l, rightB v = true := by
    intro v hv2
    obtain ⟨k, hk, rfl⟩ := List.getElem_of_mem hv2
    exact hall k hk
  have hok : ∀ v ∈ l, okV v := fun v h => right_okV (hri v h) (hx v h)
  have K1 := Lib.hid (fun W (h : Below w.heap.size w W) => apply_c s A c l W (ht.b h) (hv.below h) hok (by omega))
  have K2 := Lib.hid (fun W (h : Below w.heap.size w W) => rapply_c s A c l W hA (hv.below h) hx hri h30)
  have K3 := Lib.hid (fun W => arity_c s W)
  have K4 := Lib.hid (fun W => rarity_c s W)
  have K5 := Lib.hid (fun W => known_c s W)
  have K6 := Lib.hid (fun W => rknown_c s W)
  generalize applyO s l = r at *
  obtain ⟨⟨v1, v2, v3⟩, f⟩ := r
  dsimp only at hz
  have e1 : (f == 0) = false := by simp [hz]
  have e2 : (f != 0) = true := by simp [hz]
  have e3 : ¬ f = 0 := hz
  clear hz
  have SM : Hid (∀ W, Calls Tryz.prog 17 #[.agg #[.int .i64 v1, .int .i64 v2, .string v3], .agg #[.int .i64 v1, .int .i64 v2, .string v3]] W fun e w' => e = .returned (.bool true) ∧ Below W.heap.size W w') := Lib.hid (fun W => by have := rsame_c (v1, v2, v3) (v1, v2, v3) W; rwa [decide_eq_true rfl] at this)
  generalize arity s = ar at *
  obtain ⟨ar1, ar2⟩ := ar
  generalize knownB s = kb at *
  clear hok hri hall hA
  have hsI : (s.size : Int) ≤ 100 := by omega
  have hnI : (l.length : Int) ≤ 30 := by omega
  clear ht hv hx hs
  go_enter Tryz.func3, Tryz.ntmps3
  go_wp2_with fail
  refine KN.out.mono ?_
  rintro e w1 ⟨rfl, b1⟩
  have E1 := Lib.hid b1; clear b1
  go_wp2_with fail
  go_loopw [5] (fun i wr => ∃ k : Nat, k ≤ l.length ∧ i = .int .i64 k ∧ Hid (Below w.heap.size w wr)) (fun i _ => l.length - (intOf i).toNat)
  case atStart => exact ⟨0, by omega, rfl, E1⟩
  case round =>
    obtain ⟨k, hk, rfl, hB⟩ := hrel
    by_cases hlt : k < l.length
    · have hltI : (k : Int) < (l.length : Int) := by omega
      obtain ⟨ad, rfl, c0, c1, c2⟩ := (V.out _ hB.out).at hlt
      have hc := Lib.hid (HX.out l[k] (List.getElem_mem hlt))
      have hr := AR.out k hlt
      generalize l[k] = v at *
      obtain ⟨a, b, t⟩ := v
      dsimp only at c0 c1 c2
      have RC := Lib.hid (rright_v (a, b, t) true hr hc.out)
      
      clear hr
      go_wp2_with fail
      refine (RC.out _).mono ?_
      rintro e w2 ⟨rfl, b2⟩
      have E2 := Lib.hid (hB.out.trans (b2.mono hB.out.size))
      clear b2
      go_wp2_with fail
      exact ⟨⟨k + 1, by omega, by go_num, E2⟩, by simp [intOf]; omega⟩
    · obtain rfl : k = l.length := by omega
      have c0 := 0
      clear c0
      go_wp2_with fail
      refine (K1.out _ hB.out).mono ?_
      rintro e w2 ⟨rfl, k2⟩
      have B2 := Lib.hid (hB.out.trans (k2.mono hB.out.size))
      clear k2
      go_wp2_with fail
      refine (K2.out _ (B2.out.alloc B2.out.size _)).mono ?_
      rintro e w3 ⟨rfl, k3⟩
      have B3 := Lib.hid ((B2.out.alloc B2.out.size _).trans (k3.mono (B2.out.alloc B2.out.size _).size))
      have X3 := Lib.hid (keepB (heap_alloc_new w2 _) k3)
      have B4 := Lib.hid (B3.out.alloc B3.out.size (.cells #[.int .i64 v1, .int .i64 v2, .string v3] 26))
      have X4 := Lib.hid ((Below.heap_alloc w3 (.cells #[.int .i64 v1, .int .i64 v2, .string v3] 26) _ (Array.getElem?_eq_some_iff.1 X3.out).1).trans X3.out)
      have Y4 := Lib.hid (heap_alloc_new w3 (.cells #[.int .i64 v1, .int .i64 v2, .string v3] 26))
      clear k3
      go_wp2_with fail
      refine (K3.out _).mono ?_
      rintro e w4 ⟨rfl, rfl⟩
      go_wp2_with fail
      refine (K4.out _).mono ?_
      rintro e w4 ⟨rfl, rfl⟩
      generalize w3.alloc (.cells #[.int .i64 v1, .int .i64 v2, .string v3] 26) = w4 at B4 X4 Y4 ⊢
      have HS := Lib.hid (fun W (h : Below w4.heap.size w4 W) => by
        have x := keepB X4.out h
        have y := keepB Y4.out h
        exact (⟨block_cell x rfl, block_cell x rfl, block_cell x rfl, block_cell y rfl, block_cell y rfl, block_cell y rfl⟩ : W.cell? ⟨w2.heap.size, 0, none⟩ = some (.int .i64 v1) ∧ W.cell? ⟨w2.heap.size, 1, none⟩ = some (.int .i64 v2) ∧ W.cell? ⟨w2.heap.size, 2, none⟩ = some (.string v3) ∧ W.cell? ⟨w3.heap.size, 0, none⟩ = some (.int .i64 v1) ∧ W.cell? ⟨w3.heap.size, 1, none⟩ = some (.int .i64 v2) ∧ W.cell? ⟨w3.heap.size, 2, none⟩ = some (.string v3)))
      obtain ⟨x0, x1, x2, y0, y1, y2⟩ := HS.out _ (Below.refl _ _)
      go_wp2_with fail
      refine (SM.out _).mono ?_
      rintro e w5 ⟨rfl, k5⟩
      have E5 := Lib.hid k5
      clear k5 x0 x1 x2 y0 y1 y2
      go_wp2_with fail
      refine (K5.out _).mono ?_
      rintro e w6 ⟨rfl, k6⟩
      have E6 := Lib.hid (E5.out.trans (k6.mono E5.out.size))
      clear k6
      go_wp2_with fail
      refine (K6.out _).mono ?_
      rintro e w7 ⟨rfl, k7⟩
      have E7 := Lib.hid (E6.out.trans (k7.mono E6.out.size))
      clear k7
      go_wp2_with fail
      go_ret
      exact ⟨rfl, B4.out.trans (E7.out.mono B4.out.size)⟩
theorem builtAny_any (s : ByteArray) (A : Option Addr) (c : Nat) (l : List Vl) (w : World) (ht : Tab w) (hv : ValsAt w A l) (hx : ∀ x ∈ l, cameV x) (hA : A = none → c = 0) :
    Calls Tryz.prog 3 #[.string s, .slice A l.length c] w fun e w' => e = .returned (.bool true) ∧ Below w.heap.size w w' := by
  by_cases h1 : 100 < s.size ∨ 30 < l.length
  · exact any_long s A c l w ht h1
  by_cases hall : ∀ k (h : k < l.length), rightB l[k] = true
  · by_cases hz : (applyO s l).2 = 0
    · exact any_A s A c l w ht hv hx (by omega) (by omega) hA hall hz
    · exact any_B s A c l w ht hv hx (by omega) (by omega) hA hall hz
  · exact any_not s A c l w ht hv hx (by omega) (by omega) hall
end Go.Proofs.YtmadnehipagakaaGreatDoor
