/- BuiltTexts: texts one behind the other, as a string and as a symbol. -/
import Derived.Test.YtmadnehipagakaaDoorOa
import Derived.Test.YtmadnehipagakaaDoorNe
namespace Go.Proofs.YtmadnehipagakaaDoor
open Go.RowKit Go.Lib Go.Sort KP
theorem rright_v (a : Vl) (r : Bool) (h : rightB a = r) (hs : cameV a) (W : World) : Calls Tryd.prog 17 #[a.val] W fun e w' => e = .returned (.bool r) ∧ Below W.heap.size W w' := by
  rw [← h]; exact rright_c a W hs.s
theorem fits_str (l : List Vl) : fits (arity ⟨#[115, 116, 114, 45, 99, 97, 116]⟩) l.length = true := by
  rw [show arity ⟨#[115, 116, 114, 45, 99, 97, 116]⟩ = (0, -1) by decide +kernel]
  unfold fits; simp
theorem fits_sym {l : List Vl} (h : 1 ≤ l.length) : fits (arity ⟨#[115, 121, 109, 45, 99, 97, 116]⟩) l.length = true := by
  rw [show arity ⟨#[115, 121, 109, 45, 99, 97, 116]⟩ = (1, -1) by decide +kernel]
  unfold fits; simp; omega
theorem str_val (l : List Vl) : applyO ⟨#[115, 116, 114, 45, 99, 97, 116]⟩ l = strCat l := (apply_of (k := 18) (by decide +kernel) (fits_str l) (by decide +kernel)).trans rfl
theorem sym_val {l : List Vl} (h : 1 ≤ l.length) : applyO ⟨#[115, 121, 109, 45, 99, 97, 116]⟩ l = symCat l := (apply_of (k := 19) (by decide +kernel) (fits_sym h) (by decide +kernel)).trans rfl
theorem str_1 {l : List Vl} (h : (cat l).size ≤ 1000) : strCat l = (vT (cat l), 0) := by unfold strCat joinO; rw [if_pos h]; rfl
theorem str_2 {l : List Vl} (h : ¬ (cat l).size ≤ 1000) : strCat l = (v0, 4) := by unfold strCat joinO; rw [if_neg h]; rfl
theorem sym_1 {l : List Vl} (h : ¬ (cat l).size ≤ 40) : symCat l = (v0, 4) := by unfold symCat joinO; rw [if_neg h]; rfl
theorem sym_2 {l : List Vl} (h : (cat l).size ≤ 40) (hr : rightB (vS (cat l)) = false) : symCat l = (v0, 2) := by unfold symCat joinO; rw [if_pos h]; simp [hr]
theorem sym_3 {l : List Vl} (h : (cat l).size ≤ 40) (hr : rightB (vS (cat l)) = true) : symCat l = (vS (cat l), 0) := by unfold symCat joinO; rw [if_pos h]; simp [hr]
theorem right_size {v : Vl} (h : rightB v = true) (hr : cameV v) : (plainS v).size ≤ 1000 := by
  unfold plainS textS
  have hs : v.2.2.size ≤ 1000 := by
    unfold rightB at h
    split at h
    · rw [empty_size h]; omega
    · split at h
      · have h2 : symB v.2.2 = true := by simp at h; exact h.2
        unfold symB at h2
        simp at h2
        omega
      · split at h
        · simp at h; omega
        · cases h
  split
  · exact hs
  · split
    · unfold itoaB
      have := itoa_length_le v.2.1 hr.n.1 hr.n.2
      show (itoa v.2.1).toArray.size ≤ _
      simp; omega
    · exact hs
set_option maxHeartbeats 1000000 in
theorem texts_few (A : Option Addr) (c : Nat) (l : List Vl) (w : World) (ht : Tab w) (h : l.length = 0 ∨ 20 < l.length) :
    Calls Tryd.prog 6 #[.slice A l.length c] w fun e w' => e = .returned (.bool true) ∧ Below w.heap.size w w' := by
  have KN := Lib.hid (known_any w ht)
  clear ht
  rcases h with h | h
  · rw [h]
    clear h
    go_enter Tryd.func6, Tryd.ntmps6
    go_wp2_with fail
    refine KN.out.mono ?_
    rintro e w1 ⟨rfl, b1⟩
    have E1 := Lib.hid b1; clear b1
    go_wp2_with fail
    go_ret
    exact ⟨rfl, E1.out⟩
  · have hI : (20 : Int) < (l.length : Int) := by omega
    have h0 : ((l.length : Int) == 0) = false := beq_eq_false_iff_ne.2 (by omega)
    go_enter Tryd.func6, Tryd.ntmps6
    go_wp2_with fail
    refine KN.out.mono ?_
    rintro e w1 ⟨rfl, b1⟩
    have E1 := Lib.hid b1; clear b1
    go_wp2_with fail
    go_ret
    exact ⟨rfl, E1.out⟩
set_option maxRecDepth 100000 in
set_option maxHeartbeats 4000000 in
theorem texts_not (A : Option Addr) (c : Nat) (l : List Vl) (w : World) (ht : Tab w) (hv : ValsAt w A l) (hx : ∀ x ∈ l, cameV x) (h1 : 1 ≤ l.length) (h20 : l.length ≤ 20) (hno : ¬ ∀ k (h : k < l.length), rightB l[k] = true) :
    Calls Tryd.prog 6 #[.slice A l.length c] w fun e w' => e = .returned (.bool true) ∧ Below w.heap.size w w' := by
  have KN := Lib.hid (known_any w ht)
  have V := Lib.hid (fun W (h : Below w.heap.size w W) => hv.below h)
  have HX := Lib.hid hx
  have NO := Lib.hid hno
  clear hno
  have hnI : (l.length : Int) ≤ 20 := by omega
  have hn1 : (1 : Int) ≤ (l.length : Int) := by omega
  have hn0 : ((l.length : Int) == 0) = false := beq_eq_false_iff_ne.2 (by omega)
  clear ht hv hx
  go_enter Tryd.func6, Tryd.ntmps6
  go_wp2_with fail
  refine KN.out.mono ?_
  rintro e w1 ⟨rfl, b1⟩
  have E1 := Lib.hid b1; clear b1
  go_wp2_with fail
  go_loopw [3, 4] (fun o i wr => ∃ k : Nat, k ≤ l.length ∧ i = .int .i64 k ∧ ∃ S : ByteArray, o = .string S ∧ S.size ≤ 1000 * k ∧ Hid (S = cat (l.take k)) ∧ Hid (Below w.heap.size w wr) ∧ Hid (∀ j (h : j < l.length), j < k → rightB l[j] = true)) (fun _ i _ => l.length - (intOf i).toNat)
  case atStart => exact ⟨0, by omega, rfl, _, rfl, Nat.zero_le _, Lib.hid rfl, E1, Lib.hid (fun j _ h => by omega)⟩
  case round =>
    obtain ⟨k, hk, rfl, S, rfl, hSs, hS, hB, hJ⟩ := hrel
    have hSI : (S.size : Int) ≤ 20000 := by omega
    by_cases hlt : k < l.length
    · have hltI : (k : Int) < (l.length : Int) := by omega
      obtain ⟨ad, rfl, c0, c1, c2⟩ := (V.out _ hB.out).at hlt
      have hN := Lib.hid (show cat (l.take (k + 1)) = cat (l.take k) ++ plainS l[k] by rw [List.take_succ_eq_append_getElem hlt, cat_snoc])
      have hc := Lib.hid (HX.out l[k] (List.getElem_mem hlt))
      have hJ2 : Hid (rightB l[k] = true → ∀ j (h : j < l.length), j < k + 1 → rightB l[j] = true) := Lib.hid (fun e j h h2 => by
        by_cases e2 : j = k
        · subst e2; exact e
        · exact hJ.out j h (by omega))
      generalize l[k] = v at *
      obtain ⟨a, b, s⟩ := v
      dsimp only at c0 c1 c2
      cases hr : rightB (a, b, s) with
      | false =>
        have RC := Lib.hid (rright_v (a, b, s) false hr hc.out)
        clear hr
        go_wp2_with fail
        refine (RC.out _).mono ?_
        rintro e w2 ⟨rfl, b2⟩
        have E2 := Lib.hid (hB.out.trans (b2.mono hB.out.size))
        clear b2
        go_wp2_with fail
        go_ret
        exact ⟨rfl, E2.out⟩
      | true =>
        have RC := Lib.hid (rright_v (a, b, s) true hr hc.out)
        have PC := Lib.hid (plain_c (a, b, s) hc.out.n)
        have hps := right_size hr hc.out
        have hJ3 := Lib.hid (hJ2.out hr)
        clear hr hJ2
        generalize plainS (a, b, s) = x at *
        have hxs : (x.size : Int) ≤ 1000 := by omega
        have hxq : Hid (S.size + x.size ≤ 1000 * (k + 1)) := Lib.hid (by omega)
        clear hps
        go_wp2_with fail
        refine (RC.out _).mono ?_
        rintro e w2 ⟨rfl, b2⟩
        have d0 := (b2.cell (p := ad.add (k * 3)) (World.block_lt_of_cell? _ _ c0)).trans c0
        have d1 := (b2.cell (p := ⟨(ad.add (k * 3)).block, (ad.add (k * 3)).off + 1, none⟩) (World.block_lt_of_cell? _ _ c1)).trans c1
        have d2 := (b2.cell (p := ⟨(ad.add (k * 3)).block, (ad.add (k * 3)).off + 2, none⟩) (World.block_lt_of_cell? _ _ c2)).trans c2
        have E2 := Lib.hid (hB.out.trans (b2.mono hB.out.size))
        clear b2 c0 c1 c2
        go_wp2_with fail
        refine (PC.out _).mono ?_
        rintro e w3 ⟨rfl, b3⟩
        have E3 := Lib.hid (E2.out.trans (b3.mono E2.out.size))
        clear b3 d0 d1 d2
        go_wp2_with fail
        exact ⟨⟨k + 1, by omega, by go_num, _, rfl, by rw [ByteArray.size_append]; exact hxq.out, Lib.hid (by rw [hN.out, hS.out]), E3, hJ3⟩, by simp [intOf]; omega⟩
    · obtain rfl : k = l.length := by omega
      exact absurd (fun j h => hJ.out j h h) NO.out
set_option maxRecDepth 100000 in
set_option maxHeartbeats 4000000 in
theorem texts_A (A : Option Addr) (c : Nat) (l : List Vl) (w : World) (ht : Tab w) (hv : ValsAt w A l) (hx : ∀ x ∈ l, cameV x) (h1 : 1 ≤ l.length) (h20 : l.length ≤ 20) (hall : ∀ k (h : k < l.length), rightB l[k] = true) (hs : ¬ (cat l).size ≤ 1000) :
    Calls Tryd.prog 6 #[.slice A l.length c] w fun e w' => e = .returned (.bool true) ∧ Below w.heap.size w w' := by
  have KN := Lib.hid (known_any w ht)
  have V := Lib.hid (fun W (h : Below w.heap.size w W) => hv.below h)
  have HX := Lib.hid hx
  have AR := Lib.hid hall
  have hok : ∀ v ∈ l, okV v := by
    intro v hv2
    obtain ⟨k, hk, rfl⟩ := List.getElem_of_mem hv2
    exact right_okV (hall k hk) (hx _ hv2)
  have K1 : Hid (∀ W, Below w.heap.size w W → Calls Tryd.prog 14 #[.string ⟨#[115, 116, 114, 45, 99, 97, 116]⟩, .slice A l.length c] W fun e w' => e = .returned (.tuple #[.agg #[.int .i64 0, .int .i64 0, .string ⟨#[]⟩], .int .i64 4]) ∧ Below W.heap.size W w') := Lib.hid (fun W h => by have := apply_c ⟨#[115, 116, 114, 45, 99, 97, 116]⟩ A c l W (ht.b h) (hv.below h) hok (by omega); rwa [str_val, str_2 hs] at this)
  have K2 : Hid (∀ W, Below w.heap.size w W → Calls Tryd.prog 14 #[.string ⟨#[115, 121, 109, 45, 99, 97, 116]⟩, .slice A l.length c] W fun e w' => e = .returned (.tuple #[.agg #[.int .i64 0, .int .i64 0, .string ⟨#[]⟩], .int .i64 4]) ∧ Below W.heap.size W w') := Lib.hid (fun W h => by have := apply_c ⟨#[115, 121, 109, 45, 99, 97, 116]⟩ A c l W (ht.b h) (hv.below h) hok (by omega); rwa [sym_val h1, sym_1 (by omega)] at this)
  clear hok hall
  have hnI : (l.length : Int) ≤ 20 := by omega
  have hn1 : (1 : Int) ≤ (l.length : Int) := by omega
  have hn0 : ((l.length : Int) == 0) = false := beq_eq_false_iff_ne.2 (by omega)
  clear ht hv hx
  go_enter Tryd.func6, Tryd.ntmps6
  go_wp2_with fail
  refine KN.out.mono ?_
  rintro e w1 ⟨rfl, b1⟩
  have E1 := Lib.hid b1; clear b1
  go_wp2_with fail
  go_loopw [3, 4] (fun o i wr => ∃ k : Nat, k ≤ l.length ∧ i = .int .i64 k ∧ ∃ S : ByteArray, o = .string S ∧ S.size ≤ 1000 * k ∧ Hid (S = cat (l.take k)) ∧ Hid (Below w.heap.size w wr)) (fun _ i _ => l.length - (intOf i).toNat)
  case atStart => exact ⟨0, by omega, rfl, _, rfl, Nat.zero_le _, Lib.hid rfl, E1⟩
  case round =>
    obtain ⟨k, hk, rfl, S, rfl, hSs, hS, hB⟩ := hrel
    have hSI : (S.size : Int) ≤ 20000 := by omega
    by_cases hlt : k < l.length
    · have hltI : (k : Int) < (l.length : Int) := by omega
      obtain ⟨ad, rfl, c0, c1, c2⟩ := (V.out _ hB.out).at hlt
      have hN := Lib.hid (show cat (l.take (k + 1)) = cat (l.take k) ++ plainS l[k] by rw [List.take_succ_eq_append_getElem hlt, cat_snoc])
      have hc := Lib.hid (HX.out l[k] (List.getElem_mem hlt))
      have hr := AR.out k hlt
      generalize l[k] = v at *
      obtain ⟨a, b, s⟩ := v
      dsimp only at c0 c1 c2
      have RC := Lib.hid (rright_v (a, b, s) true hr hc.out)
      have PC := Lib.hid (plain_c (a, b, s) hc.out.n)
      have hps := right_size hr hc.out
      
      clear hr
      generalize plainS (a, b, s) = x at *
      have hxs : (x.size : Int) ≤ 1000 := by omega
      have hxq : Hid (S.size + x.size ≤ 1000 * (k + 1)) := Lib.hid (by omega)
      clear hps
      go_wp2_with fail
      refine (RC.out _).mono ?_
      rintro e w2 ⟨rfl, b2⟩
      have d0 := (b2.cell (p := ad.add (k * 3)) (World.block_lt_of_cell? _ _ c0)).trans c0
      have d1 := (b2.cell (p := ⟨(ad.add (k * 3)).block, (ad.add (k * 3)).off + 1, none⟩) (World.block_lt_of_cell? _ _ c1)).trans c1
      have d2 := (b2.cell (p := ⟨(ad.add (k * 3)).block, (ad.add (k * 3)).off + 2, none⟩) (World.block_lt_of_cell? _ _ c2)).trans c2
      have E2 := Lib.hid (hB.out.trans (b2.mono hB.out.size))
      clear b2 c0 c1 c2
      go_wp2_with fail
      refine (PC.out _).mono ?_
      rintro e w3 ⟨rfl, b3⟩
      have E3 := Lib.hid (E2.out.trans (b3.mono E2.out.size))
      clear b3 d0 d1 d2
      go_wp2_with fail
      exact ⟨⟨k + 1, by omega, by go_num, _, rfl, by rw [ByteArray.size_append]; exact hxq.out, Lib.hid (by rw [hN.out, hS.out]), E3⟩, by simp [intOf]; omega⟩
    · obtain rfl : k = l.length := by omega
      have hSc : S = cat l := by rw [List.take_length] at hS; exact hS.out
      subst hSc
      clear hS
      generalize cat l = S at *
      have hz1 : (1000 : Int) < (S.size : Int) := by omega
      have hd : decide ((S.size : Int) ≤ 1000) = false := decide_eq_false (by omega)
      have hz2 : (40 : Int) < (S.size : Int) := by omega
      clear hs
      go_wp2_with fail
      refine (K1.out _ hB.out).mono ?_
      rintro e w2 ⟨rfl, k2⟩
      have B2 := Lib.hid (hB.out.trans (k2.mono hB.out.size))
      clear k2
      go_wp2_with fail
      refine (K2.out _ (B2.out.alloc B2.out.size _)).mono ?_
      rintro e w3 ⟨rfl, k3⟩
      have B3 := Lib.hid ((B2.out.alloc B2.out.size _).trans (k3.mono (B2.out.alloc B2.out.size _).size))
      have X3 := Lib.hid (keepB (heap_alloc_new w2 _) k3)
      have B4 := Lib.hid (B3.out.alloc B3.out.size (.cells #[.int .i64 0, .int .i64 0, .string ⟨#[]⟩] 32))
      have X4 := Lib.hid ((Below.heap_alloc w3 (.cells #[.int .i64 0, .int .i64 0, .string ⟨#[]⟩] 32) _ (Array.getElem?_eq_some_iff.1 X3.out).1).trans X3.out)
      have Y4 := Lib.hid (heap_alloc_new w3 (.cells #[.int .i64 0, .int .i64 0, .string ⟨#[]⟩] 32))
      clear k3
      go_wp2_with fail
      generalize w3.alloc (.cells #[.int .i64 0, .int .i64 0, .string ⟨#[]⟩] 32) = w4 at B4 X4 Y4 ⊢
      have HS : Hid (∀ W, Below w4.heap.size w4 W → (fun W => Below w4.heap.size w4 W ∧ W.cell? ⟨w2.heap.size, 0, none⟩ = some (.int .i64 0) ∧ W.cell? ⟨w2.heap.size, 1, none⟩ = some (.int .i64 0) ∧ W.cell? ⟨w2.heap.size, 2, none⟩ = some (.string ⟨#[]⟩) ∧ W.cell? ⟨w3.heap.size, 0, none⟩ = some (.int .i64 0) ∧ W.cell? ⟨w3.heap.size, 1, none⟩ = some (.int .i64 0) ∧ W.cell? ⟨w3.heap.size, 2, none⟩ = some (.string ⟨#[]⟩)) W) := Lib.hid (fun W h => by
        have x := keepB X4.out h
        have y := keepB Y4.out h
        exact ⟨h, block_cell x rfl, block_cell x rfl, block_cell x rfl, block_cell y rfl, block_cell y rfl, block_cell y rfl⟩)
      have D4 : Below w4.heap.size w4 w4.drew := ⟨rfl, rfl, rfl, Nat.le_refl _, fun _ _ => rfl⟩
      refine wp_region_held_drew (S := (fun W => Below w4.heap.size w4 W ∧ W.cell? ⟨w2.heap.size, 0, none⟩ = some (.int .i64 0) ∧ W.cell? ⟨w2.heap.size, 1, none⟩ = some (.int .i64 0) ∧ W.cell? ⟨w2.heap.size, 2, none⟩ = some (.string ⟨#[]⟩) ∧ W.cell? ⟨w3.heap.size, 0, none⟩ = some (.int .i64 0) ∧ W.cell? ⟨w3.heap.size, 1, none⟩ = some (.int .i64 0) ∧ W.cell? ⟨w3.heap.size, 2, none⟩ = some (.string ⟨#[]⟩))) (by kernel_rfl) (HS.out _ D4) (fun hHeld => ?_)
      refine wpAnyH_take (i := 0) (oi := ⟨_, _, _, _, _, _⟩) (v := ?_) rfl (by kernel_rfl) (by kernel_rfl) (by kernel_rfl) (fun _ _ _ h => h) (Or.inl ⟨by rfl, ?_⟩) (by assumption) ?_
      rotate_left
      · intro w' hSw; (try dsimp only at hSw); go_simp; (try with_reducible rfl)
      try simp only [Act.put, List.setIfInBounds_toArray, List.set_cons_zero, List.set_cons_succ]
      refine wpAnyH_take (i := 1) (oi := ⟨_, _, _, _, _, _⟩) (v := ?_) rfl (by kernel_rfl) (by kernel_rfl) (by kernel_rfl) (fun _ _ _ h => h) (Or.inl ⟨by rfl, ?_⟩) (by assumption) ?_
      rotate_left
      · intro w' hSw; (try dsimp only at hSw); go_simp; (try with_reducible rfl)
      try simp only [Act.put, List.setIfInBounds_toArray, List.set_cons_zero, List.set_cons_succ]
      refine wpAnyH_take (i := 2) (oi := ⟨_, _, _, _, _, _⟩) (v := ?_) rfl (by kernel_rfl) (by kernel_rfl) (by kernel_rfl) (fun _ _ _ h => h) (Or.inl ⟨by rfl, ?_⟩) (by assumption) ?_
      rotate_left
      · intro w' hSw; (try dsimp only at hSw); go_simp; (try with_reducible rfl)
      try simp only [Act.put, List.setIfInBounds_toArray, List.set_cons_zero, List.set_cons_succ]
      refine wpAnyH_take (i := 3) (oi := ⟨_, _, _, _, _, _⟩) (v := ?_) rfl (by kernel_rfl) (by kernel_rfl) (by kernel_rfl) (fun _ _ _ h => h) (Or.inl ⟨by rfl, ?_⟩) (by assumption) ?_
      rotate_left
      · intro w' hSw; (try dsimp only at hSw); go_simp; (try with_reducible rfl)
      try simp only [Act.put, List.setIfInBounds_toArray, List.set_cons_zero, List.set_cons_succ]
      refine wpAnyH_take (i := 4) (oi := ⟨_, _, _, _, _, _⟩) (v := ?_) rfl (by kernel_rfl) (by kernel_rfl) (by kernel_rfl) (fun _ _ _ h => h) (Or.inl ⟨by rfl, ?_⟩) (by assumption) ?_
      rotate_left
      · intro w' hSw; (try dsimp only at hSw); go_simp; (try with_reducible rfl)
      try simp only [Act.put, List.setIfInBounds_toArray, List.set_cons_zero, List.set_cons_succ]
      refine wpAnyH_take (i := 5) (oi := ⟨_, _, _, _, _, _⟩) (v := ?_) rfl (by kernel_rfl) (by kernel_rfl) (by kernel_rfl) (fun _ _ _ h => h) (Or.inl ⟨by rfl, ?_⟩) (by assumption) ?_
      rotate_left
      · intro w' hSw; (try dsimp only at hSw); go_simp; (try with_reducible rfl)
      try simp only [Act.put, List.setIfInBounds_toArray, List.set_cons_zero, List.set_cons_succ]
      refine wpAnyH_take (i := 6) (oi := ⟨_, _, _, _, _, _⟩) (v := ?_) rfl (by kernel_rfl) (by kernel_rfl) (by kernel_rfl) (fun _ _ _ h => h) (Or.inl ⟨by rfl, ?_⟩) (by assumption) ?_
      rotate_left
      · intro w' hSw; (try dsimp only at hSw); go_simp; (try with_reducible rfl)
      try simp only [Act.put, List.setIfInBounds_toArray, List.set_cons_zero, List.set_cons_succ]
      refine wpAnyH_take (i := 7) (oi := ⟨_, _, _, _, _, _⟩) (v := ?_) rfl (by kernel_rfl) (by kernel_rfl) (by kernel_rfl) (fun _ _ _ h => h) (Or.inl ⟨by rfl, ?_⟩) (by assumption) ?_
      rotate_left
      · intro w' hSw; (try dsimp only at hSw); go_simp; (try with_reducible rfl)
      try simp only [Act.put, List.setIfInBounds_toArray, List.set_cons_zero, List.set_cons_succ]
      refine wpAnyH_take (i := 8) (oi := ⟨_, _, _, _, _, _⟩) (v := ?_) rfl (by kernel_rfl) (by kernel_rfl) (by kernel_rfl) (fun _ _ _ h => h) (Or.inl ⟨by rfl, ?_⟩) (by assumption) ?_
      rotate_left
      · intro w' hSw; (try dsimp only at hSw); go_simp; (try with_reducible rfl)
      try simp only [Act.put, List.setIfInBounds_toArray, List.set_cons_zero, List.set_cons_succ]
      refine wpAnyH_take (i := 9) (oi := ⟨_, _, _, _, _, _⟩) (v := ?_) rfl (by kernel_rfl) (by kernel_rfl) (by kernel_rfl) (fun _ _ _ h => h) (Or.inl ⟨by rfl, ?_⟩) (by assumption) ?_
      rotate_left
      · intro w' hSw; (try dsimp only at hSw); go_simp; (try with_reducible rfl)
      try simp only [Act.put, List.setIfInBounds_toArray, List.set_cons_zero, List.set_cons_succ]
      refine wpAnyH_take (i := 10) (oi := ⟨_, _, _, _, _, _⟩) (v := undef) rfl (by kernel_rfl) (by kernel_rfl) (by kernel_rfl) (fun _ _ _ h => h) (Or.inr ⟨by rfl, rfl⟩) (by assumption) ?_
      try simp only [Act.put, List.setIfInBounds_toArray, List.set_cons_zero, List.set_cons_succ]
      refine wpAnyH_take (i := 11) (oi := ⟨_, _, _, _, _, _⟩) (v := undef) rfl (by kernel_rfl) (by kernel_rfl) (by kernel_rfl) (fun _ _ _ h => h) (Or.inr ⟨by rfl, rfl⟩) (by assumption) ?_
      try simp only [Act.put, List.setIfInBounds_toArray, List.set_cons_zero, List.set_cons_succ]
      refine wpAnyH_take (i := 12) (oi := ⟨_, _, _, _, _, _⟩) (v := undef) rfl (by kernel_rfl) (by kernel_rfl) (by kernel_rfl) (fun _ _ _ h => h) (Or.inr ⟨by rfl, rfl⟩) (by assumption) ?_
      try simp only [Act.put, List.setIfInBounds_toArray, List.set_cons_zero, List.set_cons_succ]
      refine wpAnyH_take (i := 13) (oi := ⟨_, _, _, _, _, _⟩) (v := undef) rfl (by kernel_rfl) (by kernel_rfl) (by kernel_rfl) (fun _ _ _ h => h) (Or.inr ⟨by rfl, rfl⟩) (by assumption) ?_
      try simp only [Act.put, List.setIfInBounds_toArray, List.set_cons_zero, List.set_cons_succ]
      refine wpAnyH_take (i := 14) (oi := ⟨_, _, _, _, _, _⟩) (v := undef) rfl (by kernel_rfl) (by kernel_rfl) (by kernel_rfl) (fun _ _ _ h => h) (Or.inr ⟨by rfl, rfl⟩) (by assumption) ?_
      try simp only [Act.put, List.setIfInBounds_toArray, List.set_cons_zero, List.set_cons_succ]
      refine wpAnyH_take (i := 15) (oi := ⟨_, _, _, _, _, _⟩) (v := ?_) rfl (by kernel_rfl) (by kernel_rfl) (by kernel_rfl) (fun _ _ _ h => h) (Or.inl ⟨by rfl, ?_⟩) (by assumption) ?_
      rotate_left
      · intro w' hSw; (try dsimp only at hSw); go_simp; (try with_reducible rfl)
      try simp only [Act.put, List.setIfInBounds_toArray, List.set_cons_zero, List.set_cons_succ]
      refine wpAnyH_take (i := 16) (oi := ⟨_, _, _, _, _, _⟩) (v := ?_) rfl (by kernel_rfl) (by kernel_rfl) (by kernel_rfl) (fun _ _ _ h => h) (Or.inl ⟨by rfl, ?_⟩) (by assumption) ?_
      rotate_left
      · intro w' hSw; (try dsimp only at hSw); go_simp; (try with_reducible rfl)
      try simp only [Act.put, List.setIfInBounds_toArray, List.set_cons_zero, List.set_cons_succ]
      refine wpAnyH_take (i := 17) (oi := ⟨_, _, _, _, _, _⟩) (v := ?_) rfl (by kernel_rfl) (by kernel_rfl) (by kernel_rfl) (fun _ _ _ h => h) (Or.inl ⟨by rfl, ?_⟩) (by assumption) ?_
      rotate_left
      · intro w' hSw; (try dsimp only at hSw); go_simp; (try with_reducible rfl)
      try simp only [Act.put, List.setIfInBounds_toArray, List.set_cons_zero, List.set_cons_succ]
      refine wpAnyH_take (i := 18) (oi := ⟨_, _, _, _, _, _⟩) (v := ?_) rfl (by kernel_rfl) (by kernel_rfl) (by kernel_rfl) (fun _ _ _ h => h) (Or.inl ⟨by rfl, ?_⟩) (by assumption) ?_
      rotate_left
      · intro w' hSw; (try dsimp only at hSw); go_simp; (try with_reducible rfl)
      try simp only [Act.put, List.setIfInBounds_toArray, List.set_cons_zero, List.set_cons_succ]
      refine wpAnyH_take (i := 19) (oi := ⟨_, _, _, _, _, _⟩) (v := ?_) rfl (by kernel_rfl) (by kernel_rfl) (by kernel_rfl) (fun _ _ _ h => h) (Or.inl ⟨by rfl, ?_⟩) (by assumption) ?_
      rotate_left
      · intro w' hSw; (try dsimp only at hSw); go_simp; (try with_reducible rfl)
      try simp only [Act.put, List.setIfInBounds_toArray, List.set_cons_zero, List.set_cons_succ]
      refine wpAnyH_take (i := 20) (oi := ⟨_, _, _, _, _, _⟩) (v := ?_) rfl (by kernel_rfl) (by kernel_rfl) (by kernel_rfl) (fun _ _ _ h => h) (Or.inl ⟨by rfl, ?_⟩) (by assumption) ?_
      rotate_left
      · intro w' hSw; (try dsimp only at hSw); go_simp; (try with_reducible rfl)
      try simp only [Act.put, List.setIfInBounds_toArray, List.set_cons_zero, List.set_cons_succ]
      refine wpAnyH_take (i := 21) (oi := ⟨_, _, _, _, _, _⟩) (v := ?_) rfl (by kernel_rfl) (by kernel_rfl) (by kernel_rfl) (fun _ _ _ h => h) (Or.inl ⟨by rfl, ?_⟩) (by assumption) ?_
      rotate_left
      · intro w' hSw; (try dsimp only at hSw); go_simp; (try with_reducible rfl)
      try simp only [Act.put, List.setIfInBounds_toArray, List.set_cons_zero, List.set_cons_succ]
      refine wpAnyH_take (i := 22) (oi := ⟨_, _, _, _, _, _⟩) (v := ?_) rfl (by kernel_rfl) (by kernel_rfl) (by kernel_rfl) (fun _ _ _ h => h) (Or.inl ⟨by rfl, ?_⟩) (by assumption) ?_
      rotate_left
      · intro w' hSw; (try dsimp only at hSw); go_simp; (try with_reducible rfl)
      try simp only [Act.put, List.setIfInBounds_toArray, List.set_cons_zero, List.set_cons_succ]
      refine wpAnyH_take (i := 23) (oi := ⟨_, _, _, _, _, _⟩) (v := ?_) rfl (by kernel_rfl) (by kernel_rfl) (by kernel_rfl) (fun _ _ _ h => h) (Or.inl ⟨by rfl, ?_⟩) (by assumption) ?_
      rotate_left
      · intro w' hSw; (try dsimp only at hSw); go_simp; (try with_reducible rfl)
      try simp only [Act.put, List.setIfInBounds_toArray, List.set_cons_zero, List.set_cons_succ]
      refine wpAnyH_take (i := 24) (oi := ⟨_, _, _, _, _, _⟩) (v := ?_) rfl (by kernel_rfl) (by kernel_rfl) (by kernel_rfl) (fun _ _ _ h => h) (Or.inl ⟨by rfl, ?_⟩) (by assumption) ?_
      rotate_left
      · intro w' hSw; (try dsimp only at hSw); go_simp; (try with_reducible rfl)
      try simp only [Act.put, List.setIfInBounds_toArray, List.set_cons_zero, List.set_cons_succ]
      refine wpAnyH_done (by kernel_rfl) ?_ _
      have EM := Lib.hid (B4.out.trans (hHeld.1.mono B4.out.size))
      have HM := Lib.hid (fun W h => HS.out W (hHeld.1.trans h))
      have EMb := Lib.hid hHeld.1
      clear hHeld
      go_wp2_with fail
      go_ret
      exact ⟨rfl, EM.out⟩
set_option maxRecDepth 100000 in
set_option maxHeartbeats 4000000 in
theorem texts_B (A : Option Addr) (c : Nat) (l : List Vl) (w : World) (ht : Tab w) (hv : ValsAt w A l) (hx : ∀ x ∈ l, cameV x) (h1 : 1 ≤ l.length) (h20 : l.length ≤ 20) (hall : ∀ k (h : k < l.length), rightB l[k] = true) (hs : (cat l).size ≤ 1000) (hs2 : ¬ (cat l).size ≤ 40) :
    Calls Tryd.prog 6 #[.slice A l.length c] w fun e w' => e = .returned (.bool true) ∧ Below w.heap.size w w' := by
  have KN := Lib.hid (known_any w ht)
  have V := Lib.hid (fun W (h : Below w.heap.size w W) => hv.below h)
  have HX := Lib.hid hx
  have AR := Lib.hid hall
  have hok : ∀ v ∈ l, okV v := by
    intro v hv2
    obtain ⟨k, hk, rfl⟩ := List.getElem_of_mem hv2
    exact right_okV (hall k hk) (hx _ hv2)
  have K1 : Hid (∀ W, Below w.heap.size w W → Calls Tryd.prog 14 #[.string ⟨#[115, 116, 114, 45, 99, 97, 116]⟩, .slice A l.length c] W fun e w' => e = .returned (.tuple #[.agg #[.int .i64 3, .int .i64 0, .string (cat l)], .int .i64 0]) ∧ Below W.heap.size W w') := Lib.hid (fun W h => by have := apply_c ⟨#[115, 116, 114, 45, 99, 97, 116]⟩ A c l W (ht.b h) (hv.below h) hok (by omega); rwa [str_val, str_1 hs] at this)
  have K2 : Hid (∀ W, Below w.heap.size w W → Calls Tryd.prog 14 #[.string ⟨#[115, 121, 109, 45, 99, 97, 116]⟩, .slice A l.length c] W fun e w' => e = .returned (.tuple #[.agg #[.int .i64 0, .int .i64 0, .string ⟨#[]⟩], .int .i64 4]) ∧ Below W.heap.size W w') := Lib.hid (fun W h => by have := apply_c ⟨#[115, 121, 109, 45, 99, 97, 116]⟩ A c l W (ht.b h) (hv.below h) hok (by omega); rwa [sym_val h1, sym_1 hs2] at this)
  clear hok hall
  have hnI : (l.length : Int) ≤ 20 := by omega
  have hn1 : (1 : Int) ≤ (l.length : Int) := by omega
  have hn0 : ((l.length : Int) == 0) = false := beq_eq_false_iff_ne.2 (by omega)
  clear ht hv hx
  go_enter Tryd.func6, Tryd.ntmps6
  go_wp2_with fail
  refine KN.out.mono ?_
  rintro e w1 ⟨rfl, b1⟩
  have E1 := Lib.hid b1; clear b1
  go_wp2_with fail
  go_loopw [3, 4] (fun o i wr => ∃ k : Nat, k ≤ l.length ∧ i = .int .i64 k ∧ ∃ S : ByteArray, o = .string S ∧ S.size ≤ 1000 * k ∧ Hid (S = cat (l.take k)) ∧ Hid (Below w.heap.size w wr)) (fun _ i _ => l.length - (intOf i).toNat)
  case atStart => exact ⟨0, by omega, rfl, _, rfl, Nat.zero_le _, Lib.hid rfl, E1⟩
  case round =>
    obtain ⟨k, hk, rfl, S, rfl, hSs, hS, hB⟩ := hrel
    have hSI : (S.size : Int) ≤ 20000 := by omega
    by_cases hlt : k < l.length
    · have hltI : (k : Int) < (l.length : Int) := by omega
      obtain ⟨ad, rfl, c0, c1, c2⟩ := (V.out _ hB.out).at hlt
      have hN := Lib.hid (show cat (l.take (k + 1)) = cat (l.take k) ++ plainS l[k] by rw [List.take_succ_eq_append_getElem hlt, cat_snoc])
      have hc := Lib.hid (HX.out l[k] (List.getElem_mem hlt))
      have hr := AR.out k hlt
      generalize l[k] = v at *
      obtain ⟨a, b, s⟩ := v
      dsimp only at c0 c1 c2
      have RC := Lib.hid (rright_v (a, b, s) true hr hc.out)
      have PC := Lib.hid (plain_c (a, b, s) hc.out.n)
      have hps := right_size hr hc.out
      
      clear hr
      generalize plainS (a, b, s) = x at *
      have hxs : (x.size : Int) ≤ 1000 := by omega
      have hxq : Hid (S.size + x.size ≤ 1000 * (k + 1)) := Lib.hid (by omega)
      clear hps
      go_wp2_with fail
      refine (RC.out _).mono ?_
      rintro e w2 ⟨rfl, b2⟩
      have d0 := (b2.cell (p := ad.add (k * 3)) (World.block_lt_of_cell? _ _ c0)).trans c0
      have d1 := (b2.cell (p := ⟨(ad.add (k * 3)).block, (ad.add (k * 3)).off + 1, none⟩) (World.block_lt_of_cell? _ _ c1)).trans c1
      have d2 := (b2.cell (p := ⟨(ad.add (k * 3)).block, (ad.add (k * 3)).off + 2, none⟩) (World.block_lt_of_cell? _ _ c2)).trans c2
      have E2 := Lib.hid (hB.out.trans (b2.mono hB.out.size))
      clear b2 c0 c1 c2
      go_wp2_with fail
      refine (PC.out _).mono ?_
      rintro e w3 ⟨rfl, b3⟩
      have E3 := Lib.hid (E2.out.trans (b3.mono E2.out.size))
      clear b3 d0 d1 d2
      go_wp2_with fail
      exact ⟨⟨k + 1, by omega, by go_num, _, rfl, by rw [ByteArray.size_append]; exact hxq.out, Lib.hid (by rw [hN.out, hS.out]), E3⟩, by simp [intOf]; omega⟩
    · obtain rfl : k = l.length := by omega
      have hSc : S = cat l := by rw [List.take_length] at hS; exact hS.out
      subst hSc
      clear hS
      generalize cat l = S at *
      have hz1 : (S.size : Int) ≤ 1000 := by omega
      have hd : decide ((S.size : Int) ≤ 1000) = true := decide_eq_true (by omega)
      have hz2 : (40 : Int) < (S.size : Int) := by omega
      clear hs hs2
      have ST : Hid (∀ W, Calls Tryd.prog 15 #[.agg #[.int .i64 3, .int .i64 0, .string S], .agg #[.int .i64 3, .int .i64 0, .string S]] W fun e w' => e = .returned (.bool true) ∧ Below W.heap.size W w') := Lib.hid (fun W => by have := rsame_c (3, 0, S) (3, 0, S) W; rwa [decide_eq_true rfl] at this)
      go_wp2_with fail
      refine (K1.out _ hB.out).mono ?_
      rintro e w2 ⟨rfl, k2⟩
      have B2 := Lib.hid (hB.out.trans (k2.mono hB.out.size))
      clear k2
      go_wp2_with fail
      refine (K2.out _ (B2.out.alloc B2.out.size _)).mono ?_
      rintro e w3 ⟨rfl, k3⟩
      have B3 := Lib.hid ((B2.out.alloc B2.out.size _).trans (k3.mono (B2.out.alloc B2.out.size _).size))
      have X3 := Lib.hid (keepB (heap_alloc_new w2 _) k3)
      have B4 := Lib.hid (B3.out.alloc B3.out.size (.cells #[.int .i64 0, .int .i64 0, .string ⟨#[]⟩] 32))
      have X4 := Lib.hid ((Below.heap_alloc w3 (.cells #[.int .i64 0, .int .i64 0, .string ⟨#[]⟩] 32) _ (Array.getElem?_eq_some_iff.1 X3.out).1).trans X3.out)
      have Y4 := Lib.hid (heap_alloc_new w3 (.cells #[.int .i64 0, .int .i64 0, .string ⟨#[]⟩] 32))
      clear k3
      go_wp2_with fail
      generalize w3.alloc (.cells #[.int .i64 0, .int .i64 0, .string ⟨#[]⟩] 32) = w4 at B4 X4 Y4 ⊢
      have HS : Hid (∀ W, Below w4.heap.size w4 W → (fun W => Below w4.heap.size w4 W ∧ W.cell? ⟨w2.heap.size, 0, none⟩ = some (.int .i64 3) ∧ W.cell? ⟨w2.heap.size, 1, none⟩ = some (.int .i64 0) ∧ W.cell? ⟨w2.heap.size, 2, none⟩ = some (.string S) ∧ W.cell? ⟨w3.heap.size, 0, none⟩ = some (.int .i64 0) ∧ W.cell? ⟨w3.heap.size, 1, none⟩ = some (.int .i64 0) ∧ W.cell? ⟨w3.heap.size, 2, none⟩ = some (.string ⟨#[]⟩)) W) := Lib.hid (fun W h => by
        have x := keepB X4.out h
        have y := keepB Y4.out h
        exact ⟨h, block_cell x rfl, block_cell x rfl, block_cell x rfl, block_cell y rfl, block_cell y rfl, block_cell y rfl⟩)
      have D4 : Below w4.heap.size w4 w4.drew := ⟨rfl, rfl, rfl, Nat.le_refl _, fun _ _ => rfl⟩
      refine wp_region_held_drew (S := (fun W => Below w4.heap.size w4 W ∧ W.cell? ⟨w2.heap.size, 0, none⟩ = some (.int .i64 3) ∧ W.cell? ⟨w2.heap.size, 1, none⟩ = some (.int .i64 0) ∧ W.cell? ⟨w2.heap.size, 2, none⟩ = some (.string S) ∧ W.cell? ⟨w3.heap.size, 0, none⟩ = some (.int .i64 0) ∧ W.cell? ⟨w3.heap.size, 1, none⟩ = some (.int .i64 0) ∧ W.cell? ⟨w3.heap.size, 2, none⟩ = some (.string ⟨#[]⟩))) (by kernel_rfl) (HS.out _ D4) (fun hHeld => ?_)
      refine wpAnyH_take (i := 0) (oi := ⟨_, _, _, _, _, _⟩) (v := ?_) rfl (by kernel_rfl) (by kernel_rfl) (by kernel_rfl) (fun _ _ _ h => h) (Or.inl ⟨by rfl, ?_⟩) (by assumption) ?_
      rotate_left
      · intro w' hSw; (try dsimp only at hSw); go_simp; (try with_reducible rfl)
      try simp only [Act.put, List.setIfInBounds_toArray, List.set_cons_zero, List.set_cons_succ]
      refine wpAnyH_take (i := 1) (oi := ⟨_, _, _, _, _, _⟩) (v := ?_) rfl (by kernel_rfl) (by kernel_rfl) (by kernel_rfl) (fun _ _ _ h => h) (Or.inl ⟨by rfl, ?_⟩) (by assumption) ?_
      rotate_left
      · intro w' hSw; (try dsimp only at hSw); go_simp; (try with_reducible rfl)
      try simp only [Act.put, List.setIfInBounds_toArray, List.set_cons_zero, List.set_cons_succ]
      refine wpAnyH_take (i := 2) (oi := ⟨_, _, _, _, _, _⟩) (v := ?_) rfl (by kernel_rfl) (by kernel_rfl) (by kernel_rfl) (fun _ _ _ h => h) (Or.inl ⟨by rfl, ?_⟩) (by assumption) ?_
      rotate_left
      · intro w' hSw; (try dsimp only at hSw); go_simp; (try with_reducible rfl)
      try simp only [Act.put, List.setIfInBounds_toArray, List.set_cons_zero, List.set_cons_succ]
      refine wpAnyH_take (i := 3) (oi := ⟨_, _, _, _, _, _⟩) (v := ?_) rfl (by kernel_rfl) (by kernel_rfl) (by kernel_rfl) (fun _ _ _ h => h) (Or.inl ⟨by rfl, ?_⟩) (by assumption) ?_
      rotate_left
      · intro w' hSw; (try dsimp only at hSw); go_simp; (try with_reducible rfl)
      try simp only [Act.put, List.setIfInBounds_toArray, List.set_cons_zero, List.set_cons_succ]
      refine wpAnyH_take (i := 4) (oi := ⟨_, _, _, _, _, _⟩) (v := ?_) rfl (by kernel_rfl) (by kernel_rfl) (by kernel_rfl) (fun _ _ _ h => h) (Or.inl ⟨by rfl, ?_⟩) (by assumption) ?_
      rotate_left
      · intro w' hSw; (try dsimp only at hSw); go_simp; (try with_reducible rfl)
      try simp only [Act.put, List.setIfInBounds_toArray, List.set_cons_zero, List.set_cons_succ]
      refine wpAnyH_take (i := 5) (oi := ⟨_, _, _, _, _, _⟩) (v := ?_) rfl (by kernel_rfl) (by kernel_rfl) (by kernel_rfl) (fun _ _ _ h => h) (Or.inl ⟨by rfl, ?_⟩) (by assumption) ?_
      rotate_left
      · intro w' hSw; (try dsimp only at hSw); go_simp; (try with_reducible rfl)
      try simp only [Act.put, List.setIfInBounds_toArray, List.set_cons_zero, List.set_cons_succ]
      refine wpAnyH_take (i := 6) (oi := ⟨_, _, _, _, _, _⟩) (v := ?_) rfl (by kernel_rfl) (by kernel_rfl) (by kernel_rfl) (fun _ _ _ h => h) (Or.inl ⟨by rfl, ?_⟩) (by assumption) ?_
      rotate_left
      · intro w' hSw; (try dsimp only at hSw); go_simp; (try with_reducible rfl)
      try simp only [Act.put, List.setIfInBounds_toArray, List.set_cons_zero, List.set_cons_succ]
      refine wpAnyH_take (i := 7) (oi := ⟨_, _, _, _, _, _⟩) (v := ?_) rfl (by kernel_rfl) (by kernel_rfl) (by kernel_rfl) (fun _ _ _ h => h) (Or.inl ⟨by rfl, ?_⟩) (by assumption) ?_
      rotate_left
      · intro w' hSw; (try dsimp only at hSw); go_simp; (try with_reducible rfl)
      try simp only [Act.put, List.setIfInBounds_toArray, List.set_cons_zero, List.set_cons_succ]
      refine wpAnyH_take (i := 8) (oi := ⟨_, _, _, _, _, _⟩) (v := ?_) rfl (by kernel_rfl) (by kernel_rfl) (by kernel_rfl) (fun _ _ _ h => h) (Or.inl ⟨by rfl, ?_⟩) (by assumption) ?_
      rotate_left
      · intro w' hSw; (try dsimp only at hSw); go_simp; (try with_reducible rfl)
      try simp only [Act.put, List.setIfInBounds_toArray, List.set_cons_zero, List.set_cons_succ]
      refine wpAnyH_take (i := 9) (oi := ⟨_, _, _, _, _, _⟩) (v := ?_) rfl (by kernel_rfl) (by kernel_rfl) (by kernel_rfl) (fun _ _ _ h => h) (Or.inl ⟨by rfl, ?_⟩) (by assumption) ?_
      rotate_left
      · intro w' hSw; (try dsimp only at hSw); go_simp; (try with_reducible rfl)
      try simp only [Act.put, List.setIfInBounds_toArray, List.set_cons_zero, List.set_cons_succ]
      refine wpAnyH_take (i := 10) (oi := ⟨_, _, _, _, _, _⟩) (v := ?_) rfl (by kernel_rfl) (by kernel_rfl) (by kernel_rfl) (fun _ _ _ h => h) (Or.inl ⟨by rfl, ?_⟩) (by assumption) ?_
      rotate_left
      · intro w' hSw; (try dsimp only at hSw); go_simp; (try with_reducible rfl)
      try simp only [Act.put, List.setIfInBounds_toArray, List.set_cons_zero, List.set_cons_succ]
      refine wpAnyH_take (i := 11) (oi := ⟨_, _, _, _, _, _⟩) (v := ?_) rfl (by kernel_rfl) (by kernel_rfl) (by kernel_rfl) (fun _ _ _ h => h) (Or.inl ⟨by rfl, ?_⟩) (by assumption) ?_
      rotate_left
      · intro w' hSw; (try dsimp only at hSw); go_simp; (try with_reducible rfl)
      try simp only [Act.put, List.setIfInBounds_toArray, List.set_cons_zero, List.set_cons_succ]
      refine wpAnyH_ready (rs := [12]) (by kernel_rfl) (by simp) ?_
      refine AllReadyH.cons (o := ⟨_, _, _, _, _, _⟩) rfl (fun K9 hK9 => ?_) AllReadyH.nil
      go_simp
      (with_reducible refine ((belowW (W0 := w4) hHeld.1 (rStr_c S _))).mono ?_)
      rintro e v1 ⟨rfl, m1⟩
      have M1 := Lib.hid m1
      clear m1
      go_wp2_with fail
      refine hK9.out _ _ (HS.out _ M1.out) (fun hHeld => ?_)
      clear hK9 K9
      try simp only [Act.put, List.setIfInBounds_toArray, List.set_cons_zero, List.set_cons_succ]
      refine wpAnyH_ready (rs := [13]) (by kernel_rfl) (by simp) ?_
      refine AllReadyH.cons (o := ⟨_, _, _, _, _, _⟩) rfl (fun K9 hK9 => ?_) AllReadyH.nil
      go_simp
      (with_reducible refine ((belowW (W0 := w4) hHeld.1 (ST.out _))).mono ?_)
      rintro e v2 ⟨rfl, m2⟩
      have M2 := Lib.hid m2
      clear m2
      go_wp2_with fail
      refine hK9.out _ _ (HS.out _ M2.out) (fun hHeld => ?_)
      clear hK9 K9
      try simp only [Act.put, List.setIfInBounds_toArray, List.set_cons_zero, List.set_cons_succ]
      refine wpAnyH_take (i := 14) (oi := ⟨_, _, _, _, _, _⟩) (v := ?_) rfl (by kernel_rfl) (by kernel_rfl) (by kernel_rfl) (fun _ _ _ h => h) (Or.inl ⟨by rfl, ?_⟩) (by assumption) ?_
      rotate_left
      · intro w' hSw; (try dsimp only at hSw); go_simp; (try with_reducible rfl)
      try simp only [Act.put, List.setIfInBounds_toArray, List.set_cons_zero, List.set_cons_succ]
      refine wpAnyH_take (i := 15) (oi := ⟨_, _, _, _, _, _⟩) (v := ?_) rfl (by kernel_rfl) (by kernel_rfl) (by kernel_rfl) (fun _ _ _ h => h) (Or.inl ⟨by rfl, ?_⟩) (by assumption) ?_
      rotate_left
      · intro w' hSw; (try dsimp only at hSw); go_simp; (try with_reducible rfl)
      try simp only [Act.put, List.setIfInBounds_toArray, List.set_cons_zero, List.set_cons_succ]
      refine wpAnyH_take (i := 16) (oi := ⟨_, _, _, _, _, _⟩) (v := ?_) rfl (by kernel_rfl) (by kernel_rfl) (by kernel_rfl) (fun _ _ _ h => h) (Or.inl ⟨by rfl, ?_⟩) (by assumption) ?_
      rotate_left
      · intro w' hSw; (try dsimp only at hSw); go_simp; (try with_reducible rfl)
      try simp only [Act.put, List.setIfInBounds_toArray, List.set_cons_zero, List.set_cons_succ]
      refine wpAnyH_take (i := 17) (oi := ⟨_, _, _, _, _, _⟩) (v := ?_) rfl (by kernel_rfl) (by kernel_rfl) (by kernel_rfl) (fun _ _ _ h => h) (Or.inl ⟨by rfl, ?_⟩) (by assumption) ?_
      rotate_left
      · intro w' hSw; (try dsimp only at hSw); go_simp; (try with_reducible rfl)
      try simp only [Act.put, List.setIfInBounds_toArray, List.set_cons_zero, List.set_cons_succ]
      refine wpAnyH_take (i := 18) (oi := ⟨_, _, _, _, _, _⟩) (v := ?_) rfl (by kernel_rfl) (by kernel_rfl) (by kernel_rfl) (fun _ _ _ h => h) (Or.inl ⟨by rfl, ?_⟩) (by assumption) ?_
      rotate_left
      · intro w' hSw; (try dsimp only at hSw); go_simp; (try with_reducible rfl)
      try simp only [Act.put, List.setIfInBounds_toArray, List.set_cons_zero, List.set_cons_succ]
      refine wpAnyH_take (i := 19) (oi := ⟨_, _, _, _, _, _⟩) (v := ?_) rfl (by kernel_rfl) (by kernel_rfl) (by kernel_rfl) (fun _ _ _ h => h) (Or.inl ⟨by rfl, ?_⟩) (by assumption) ?_
      rotate_left
      · intro w' hSw; (try dsimp only at hSw); go_simp; (try with_reducible rfl)
      try simp only [Act.put, List.setIfInBounds_toArray, List.set_cons_zero, List.set_cons_succ]
      refine wpAnyH_take (i := 20) (oi := ⟨_, _, _, _, _, _⟩) (v := ?_) rfl (by kernel_rfl) (by kernel_rfl) (by kernel_rfl) (fun _ _ _ h => h) (Or.inl ⟨by rfl, ?_⟩) (by assumption) ?_
      rotate_left
      · intro w' hSw; (try dsimp only at hSw); go_simp; (try with_reducible rfl)
      try simp only [Act.put, List.setIfInBounds_toArray, List.set_cons_zero, List.set_cons_succ]
      refine wpAnyH_take (i := 21) (oi := ⟨_, _, _, _, _, _⟩) (v := undef) rfl (by kernel_rfl) (by kernel_rfl) (by kernel_rfl) (fun _ _ _ h => h) (Or.inr ⟨by rfl, rfl⟩) (by assumption) ?_
      try simp only [Act.put, List.setIfInBounds_toArray, List.set_cons_zero, List.set_cons_succ]
      refine wpAnyH_take (i := 22) (oi := ⟨_, _, _, _, _, _⟩) (v := undef) rfl (by kernel_rfl) (by kernel_rfl) (by kernel_rfl) (fun _ _ _ h => h) (Or.inr ⟨by rfl, rfl⟩) (by assumption) ?_
      try simp only [Act.put, List.setIfInBounds_toArray, List.set_cons_zero, List.set_cons_succ]
      refine wpAnyH_take (i := 23) (oi := ⟨_, _, _, _, _, _⟩) (v := ?_) rfl (by kernel_rfl) (by kernel_rfl) (by kernel_rfl) (fun _ _ _ h => h) (Or.inl ⟨by rfl, ?_⟩) (by assumption) ?_
      rotate_left
      · intro w' hSw; (try dsimp only at hSw); go_simp; (try with_reducible rfl)
      try simp only [Act.put, List.setIfInBounds_toArray, List.set_cons_zero, List.set_cons_succ]
      refine wpAnyH_take (i := 24) (oi := ⟨_, _, _, _, _, _⟩) (v := ?_) rfl (by kernel_rfl) (by kernel_rfl) (by kernel_rfl) (fun _ _ _ h => h) (Or.inl ⟨by rfl, ?_⟩) (by assumption) ?_
      rotate_left
      · intro w' hSw; (try dsimp only at hSw); go_simp; (try with_reducible rfl)
      try simp only [Act.put, List.setIfInBounds_toArray, List.set_cons_zero, List.set_cons_succ]
      refine wpAnyH_done (by kernel_rfl) ?_ _
      have EM := Lib.hid (B4.out.trans (hHeld.1.mono B4.out.size))
      have HM := Lib.hid (fun W h => HS.out W (hHeld.1.trans h))
      have EMb := Lib.hid hHeld.1
      clear hHeld
      go_wp2_with fail
      go_ret
      exact ⟨rfl, EM.out⟩
set_option maxRecDepth 100000 in
set_option maxHeartbeats 4000000 in
theorem texts_C (A : Option Addr) (c : Nat) (l : List Vl) (w : World) (ht : Tab w) (hv : ValsAt w A l) (hx : ∀ x ∈ l, cameV x) (h1 : 1 ≤ l.length) (h20 : l.length ≤ 20) (hall : ∀ k (h : k < l.length), rightB l[k] = true) (hs : (cat l).size ≤ 40) (hr : rightB (vS (cat l)) = false) :
    Calls Tryd.prog 6 #[.slice A l.length c] w fun e w' => e = .returned (.bool true) ∧ Below w.heap.size w w' := by
  have KN := Lib.hid (known_any w ht)
  have V := Lib.hid (fun W (h : Below w.heap.size w W) => hv.below h)
  have HX := Lib.hid hx
  have AR := Lib.hid hall
  have hok : ∀ v ∈ l, okV v := by
    intro v hv2
    obtain ⟨k, hk, rfl⟩ := List.getElem_of_mem hv2
    exact right_okV (hall k hk) (hx _ hv2)
  have K1 : Hid (∀ W, Below w.heap.size w W → Calls Tryd.prog 14 #[.string ⟨#[115, 116, 114, 45, 99, 97, 116]⟩, .slice A l.length c] W fun e w' => e = .returned (.tuple #[.agg #[.int .i64 3, .int .i64 0, .string (cat l)], .int .i64 0]) ∧ Below W.heap.size W w') := Lib.hid (fun W h => by have := apply_c ⟨#[115, 116, 114, 45, 99, 97, 116]⟩ A c l W (ht.b h) (hv.below h) hok (by omega); rwa [str_val, str_1 (by omega)] at this)
  have K2 : Hid (∀ W, Below w.heap.size w W → Calls Tryd.prog 14 #[.string ⟨#[115, 121, 109, 45, 99, 97, 116]⟩, .slice A l.length c] W fun e w' => e = .returned (.tuple #[.agg #[.int .i64 0, .int .i64 0, .string ⟨#[]⟩], .int .i64 2]) ∧ Below W.heap.size W w') := Lib.hid (fun W h => by have := apply_c ⟨#[115, 121, 109, 45, 99, 97, 116]⟩ A c l W (ht.b h) (hv.below h) hok (by omega); rwa [sym_val h1, sym_2 hs hr] at this)
  clear hok hall
  have hnI : (l.length : Int) ≤ 20 := by omega
  have hn1 : (1 : Int) ≤ (l.length : Int) := by omega
  have hn0 : ((l.length : Int) == 0) = false := beq_eq_false_iff_ne.2 (by omega)
  clear ht hv hx
  go_enter Tryd.func6, Tryd.ntmps6
  go_wp2_with fail
  refine KN.out.mono ?_
  rintro e w1 ⟨rfl, b1⟩
  have E1 := Lib.hid b1; clear b1
  go_wp2_with fail
  go_loopw [3, 4] (fun o i wr => ∃ k : Nat, k ≤ l.length ∧ i = .int .i64 k ∧ ∃ S : ByteArray, o = .string S ∧ S.size ≤ 1000 * k ∧ Hid (S = cat (l.take k)) ∧ Hid (Below w.heap.size w wr)) (fun _ i _ => l.length - (intOf i).toNat)
  case atStart => exact ⟨0, by omega, rfl, _, rfl, Nat.zero_le _, Lib.hid rfl, E1⟩
  case round =>
    obtain ⟨k, hk, rfl, S, rfl, hSs, hS, hB⟩ := hrel
    have hSI : (S.size : Int) ≤ 20000 := by omega
    by_cases hlt : k < l.length
    · have hltI : (k : Int) < (l.length : Int) := by omega
      obtain ⟨ad, rfl, c0, c1, c2⟩ := (V.out _ hB.out).at hlt
      have hN := Lib.hid (show cat (l.take (k + 1)) = cat (l.take k) ++ plainS l[k] by rw [List.take_succ_eq_append_getElem hlt, cat_snoc])
      have hc := Lib.hid (HX.out l[k] (List.getElem_mem hlt))
      have hr := AR.out k hlt
      generalize l[k] = v at *
      obtain ⟨a, b, s⟩ := v
      dsimp only at c0 c1 c2
      have RC := Lib.hid (rright_v (a, b, s) true hr hc.out)
      have PC := Lib.hid (plain_c (a, b, s) hc.out.n)
      have hps := right_size hr hc.out
      
      clear hr
      generalize plainS (a, b, s) = x at *
      have hxs : (x.size : Int) ≤ 1000 := by omega
      have hxq : Hid (S.size + x.size ≤ 1000 * (k + 1)) := Lib.hid (by omega)
      clear hps
      go_wp2_with fail
      refine (RC.out _).mono ?_
      rintro e w2 ⟨rfl, b2⟩
      have d0 := (b2.cell (p := ad.add (k * 3)) (World.block_lt_of_cell? _ _ c0)).trans c0
      have d1 := (b2.cell (p := ⟨(ad.add (k * 3)).block, (ad.add (k * 3)).off + 1, none⟩) (World.block_lt_of_cell? _ _ c1)).trans c1
      have d2 := (b2.cell (p := ⟨(ad.add (k * 3)).block, (ad.add (k * 3)).off + 2, none⟩) (World.block_lt_of_cell? _ _ c2)).trans c2
      have E2 := Lib.hid (hB.out.trans (b2.mono hB.out.size))
      clear b2 c0 c1 c2
      go_wp2_with fail
      refine (PC.out _).mono ?_
      rintro e w3 ⟨rfl, b3⟩
      have E3 := Lib.hid (E2.out.trans (b3.mono E2.out.size))
      clear b3 d0 d1 d2
      go_wp2_with fail
      exact ⟨⟨k + 1, by omega, by go_num, _, rfl, by rw [ByteArray.size_append]; exact hxq.out, Lib.hid (by rw [hN.out, hS.out]), E3⟩, by simp [intOf]; omega⟩
    · obtain rfl : k = l.length := by omega
      have hSc : S = cat l := by rw [List.take_length] at hS; exact hS.out
      subst hSc
      clear hS
      generalize cat l = S at *
      have hz1 : (S.size : Int) ≤ 1000 := by omega
      have hd : decide ((S.size : Int) ≤ 1000) = true := decide_eq_true (by omega)
      have hz2 : (S.size : Int) ≤ 40 := by omega
      have RR : Hid (∀ W, Calls Tryd.prog 17 #[.agg #[.int .i64 2, .int .i64 0, .string S]] W fun e w' => e = .returned (.bool false) ∧ Below W.heap.size W w') := Lib.hid (fun W => by rw [← hr]; exact rright_c (vS S) W (by show S.size ≤ _; omega))
      clear hr
      clear hs
      have ST : Hid (∀ W, Calls Tryd.prog 15 #[.agg #[.int .i64 3, .int .i64 0, .string S], .agg #[.int .i64 3, .int .i64 0, .string S]] W fun e w' => e = .returned (.bool true) ∧ Below W.heap.size W w') := Lib.hid (fun W => by have := rsame_c (3, 0, S) (3, 0, S) W; rwa [decide_eq_true rfl] at this)
      go_wp2_with fail
      refine (K1.out _ hB.out).mono ?_
      rintro e w2 ⟨rfl, k2⟩
      have B2 := Lib.hid (hB.out.trans (k2.mono hB.out.size))
      clear k2
      go_wp2_with fail
      refine (K2.out _ (B2.out.alloc B2.out.size _)).mono ?_
      rintro e w3 ⟨rfl, k3⟩
      have B3 := Lib.hid ((B2.out.alloc B2.out.size _).trans (k3.mono (B2.out.alloc B2.out.size _).size))
      have X3 := Lib.hid (keepB (heap_alloc_new w2 _) k3)
      have B4 := Lib.hid (B3.out.alloc B3.out.size (.cells #[.int .i64 0, .int .i64 0, .string ⟨#[]⟩] 32))
      have X4 := Lib.hid ((Below.heap_alloc w3 (.cells #[.int .i64 0, .int .i64 0, .string ⟨#[]⟩] 32) _ (Array.getElem?_eq_some_iff.1 X3.out).1).trans X3.out)
      have Y4 := Lib.hid (heap_alloc_new w3 (.cells #[.int .i64 0, .int .i64 0, .string ⟨#[]⟩] 32))
      clear k3
      go_wp2_with fail
      generalize w3.alloc (.cells #[.int .i64 0, .int .i64 0, .string ⟨#[]⟩] 32) = w4 at B4 X4 Y4 ⊢
      have HS : Hid (∀ W, Below w4.heap.size w4 W → (fun W => Below w4.heap.size w4 W ∧ W.cell? ⟨w2.heap.size, 0, none⟩ = some (.int .i64 3) ∧ W.cell? ⟨w2.heap.size, 1, none⟩ = some (.int .i64 0) ∧ W.cell? ⟨w2.heap.size, 2, none⟩ = some (.string S) ∧ W.cell? ⟨w3.heap.size, 0, none⟩ = some (.int .i64 0) ∧ W.cell? ⟨w3.heap.size, 1, none⟩ = some (.int .i64 0) ∧ W.cell? ⟨w3.heap.size, 2, none⟩ = some (.string ⟨#[]⟩)) W) := Lib.hid (fun W h => by
        have x := keepB X4.out h
        have y := keepB Y4.out h
        exact ⟨h, block_cell x rfl, block_cell x rfl, block_cell x rfl, block_cell y rfl, block_cell y rfl, block_cell y rfl⟩)
      have D4 : Below w4.heap.size w4 w4.drew := ⟨rfl, rfl, rfl, Nat.le_refl _, fun _ _ => rfl⟩
      refine wp_region_held_drew (S := (fun W => Below w4.heap.size w4 W ∧ W.cell? ⟨w2.heap.size, 0, none⟩ = some (.int .i64 3) ∧ W.cell? ⟨w2.heap.size, 1, none⟩ = some (.int .i64 0) ∧ W.cell? ⟨w2.heap.size, 2, none⟩ = some (.string S) ∧ W.cell? ⟨w3.heap.size, 0, none⟩ = some (.int .i64 0) ∧ W.cell? ⟨w3.heap.size, 1, none⟩ = some (.int .i64 0) ∧ W.cell? ⟨w3.heap.size, 2, none⟩ = some (.string ⟨#[]⟩))) (by kernel_rfl) (HS.out _ D4) (fun hHeld => ?_)
      refine wpAnyH_take (i := 0) (oi := ⟨_, _, _, _, _, _⟩) (v := ?_) rfl (by kernel_rfl) (by kernel_rfl) (by kernel_rfl) (fun _ _ _ h => h) (Or.inl ⟨by rfl, ?_⟩) (by assumption) ?_
      rotate_left
      · intro w' hSw; (try dsimp only at hSw); go_simp; (try with_reducible rfl)
      try simp only [Act.put, List.setIfInBounds_toArray, List.set_cons_zero, List.set_cons_succ]
      refine wpAnyH_take (i := 1) (oi := ⟨_, _, _, _, _, _⟩) (v := ?_) rfl (by kernel_rfl) (by kernel_rfl) (by kernel_rfl) (fun _ _ _ h => h) (Or.inl ⟨by rfl, ?_⟩) (by assumption) ?_
      rotate_left
      · intro w' hSw; (try dsimp only at hSw); go_simp; (try with_reducible rfl)
      try simp only [Act.put, List.setIfInBounds_toArray, List.set_cons_zero, List.set_cons_succ]
      refine wpAnyH_take (i := 2) (oi := ⟨_, _, _, _, _, _⟩) (v := ?_) rfl (by kernel_rfl) (by kernel_rfl) (by kernel_rfl) (fun _ _ _ h => h) (Or.inl ⟨by rfl, ?_⟩) (by assumption) ?_
      rotate_left
      · intro w' hSw; (try dsimp only at hSw); go_simp; (try with_reducible rfl)
      try simp only [Act.put, List.setIfInBounds_toArray, List.set_cons_zero, List.set_cons_succ]
      refine wpAnyH_take (i := 3) (oi := ⟨_, _, _, _, _, _⟩) (v := ?_) rfl (by kernel_rfl) (by kernel_rfl) (by kernel_rfl) (fun _ _ _ h => h) (Or.inl ⟨by rfl, ?_⟩) (by assumption) ?_
      rotate_left
      · intro w' hSw; (try dsimp only at hSw); go_simp; (try with_reducible rfl)
      try simp only [Act.put, List.setIfInBounds_toArray, List.set_cons_zero, List.set_cons_succ]
      refine wpAnyH_take (i := 4) (oi := ⟨_, _, _, _, _, _⟩) (v := ?_) rfl (by kernel_rfl) (by kernel_rfl) (by kernel_rfl) (fun _ _ _ h => h) (Or.inl ⟨by rfl, ?_⟩) (by assumption) ?_
      rotate_left
      · intro w' hSw; (try dsimp only at hSw); go_simp; (try with_reducible rfl)
      try simp only [Act.put, List.setIfInBounds_toArray, List.set_cons_zero, List.set_cons_succ]
      refine wpAnyH_take (i := 5) (oi := ⟨_, _, _, _, _, _⟩) (v := ?_) rfl (by kernel_rfl) (by kernel_rfl) (by kernel_rfl) (fun _ _ _ h => h) (Or.inl ⟨by rfl, ?_⟩) (by assumption) ?_
      rotate_left
      · intro w' hSw; (try dsimp only at hSw); go_simp; (try with_reducible rfl)
      try simp only [Act.put, List.setIfInBounds_toArray, List.set_cons_zero, List.set_cons_succ]
      refine wpAnyH_take (i := 6) (oi := ⟨_, _, _, _, _, _⟩) (v := ?_) rfl (by kernel_rfl) (by kernel_rfl) (by kernel_rfl) (fun _ _ _ h => h) (Or.inl ⟨by rfl, ?_⟩) (by assumption) ?_
      rotate_left
      · intro w' hSw; (try dsimp only at hSw); go_simp; (try with_reducible rfl)
      try simp only [Act.put, List.setIfInBounds_toArray, List.set_cons_zero, List.set_cons_succ]
      refine wpAnyH_take (i := 7) (oi := ⟨_, _, _, _, _, _⟩) (v := ?_) rfl (by kernel_rfl) (by kernel_rfl) (by kernel_rfl) (fun _ _ _ h => h) (Or.inl ⟨by rfl, ?_⟩) (by assumption) ?_
      rotate_left
      · intro w' hSw; (try dsimp only at hSw); go_simp; (try with_reducible rfl)
      try simp only [Act.put, List.setIfInBounds_toArray, List.set_cons_zero, List.set_cons_succ]
      refine wpAnyH_take (i := 8) (oi := ⟨_, _, _, _, _, _⟩) (v := ?_) rfl (by kernel_rfl) (by kernel_rfl) (by kernel_rfl) (fun _ _ _ h => h) (Or.inl ⟨by rfl, ?_⟩) (by assumption) ?_
      rotate_left
      · intro w' hSw; (try dsimp only at hSw); go_simp; (try with_reducible rfl)
      try simp only [Act.put, List.setIfInBounds_toArray, List.set_cons_zero, List.set_cons_succ]
      refine wpAnyH_take (i := 9) (oi := ⟨_, _, _, _, _, _⟩) (v := ?_) rfl (by kernel_rfl) (by kernel_rfl) (by kernel_rfl) (fun _ _ _ h => h) (Or.inl ⟨by rfl, ?_⟩) (by assumption) ?_
      rotate_left
      · intro w' hSw; (try dsimp only at hSw); go_simp; (try with_reducible rfl)
      try simp only [Act.put, List.setIfInBounds_toArray, List.set_cons_zero, List.set_cons_succ]
      refine wpAnyH_take (i := 10) (oi := ⟨_, _, _, _, _, _⟩) (v := ?_) rfl (by kernel_rfl) (by kernel_rfl) (by kernel_rfl) (fun _ _ _ h => h) (Or.inl ⟨by rfl, ?_⟩) (by assumption) ?_
      rotate_left
      · intro w' hSw; (try dsimp only at hSw); go_simp; (try with_reducible rfl)
      try simp only [Act.put, List.setIfInBounds_toArray, List.set_cons_zero, List.set_cons_succ]
      refine wpAnyH_take (i := 11) (oi := ⟨_, _, _, _, _, _⟩) (v := ?_) rfl (by kernel_rfl) (by kernel_rfl) (by kernel_rfl) (fun _ _ _ h => h) (Or.inl ⟨by rfl, ?_⟩) (by assumption) ?_
      rotate_left
      · intro w' hSw; (try dsimp only at hSw); go_simp; (try with_reducible rfl)
      try simp only [Act.put, List.setIfInBounds_toArray, List.set_cons_zero, List.set_cons_succ]
      refine wpAnyH_ready (rs := [12]) (by kernel_rfl) (by simp) ?_
      refine AllReadyH.cons (o := ⟨_, _, _, _, _, _⟩) rfl (fun K9 hK9 => ?_) AllReadyH.nil
      go_simp
      (with_reducible refine ((belowW (W0 := w4) hHeld.1 (rStr_c S _))).mono ?_)
      rintro e v1 ⟨rfl, m1⟩
      have M1 := Lib.hid m1
      clear m1
      go_wp2_with fail
      refine hK9.out _ _ (HS.out _ M1.out) (fun hHeld => ?_)
      clear hK9 K9
      try simp only [Act.put, List.setIfInBounds_toArray, List.set_cons_zero, List.set_cons_succ]
      refine wpAnyH_ready (rs := [13]) (by kernel_rfl) (by simp) ?_
      refine AllReadyH.cons (o := ⟨_, _, _, _, _, _⟩) rfl (fun K9 hK9 => ?_) AllReadyH.nil
      go_simp
      (with_reducible refine ((belowW (W0 := w4) hHeld.1 (ST.out _))).mono ?_)
      rintro e v2 ⟨rfl, m2⟩
      have M2 := Lib.hid m2
      clear m2
      go_wp2_with fail
      refine hK9.out _ _ (HS.out _ M2.out) (fun hHeld => ?_)
      clear hK9 K9
      try simp only [Act.put, List.setIfInBounds_toArray, List.set_cons_zero, List.set_cons_succ]
      refine wpAnyH_take (i := 14) (oi := ⟨_, _, _, _, _, _⟩) (v := ?_) rfl (by kernel_rfl) (by kernel_rfl) (by kernel_rfl) (fun _ _ _ h => h) (Or.inl ⟨by rfl, ?_⟩) (by assumption) ?_
      rotate_left
      · intro w' hSw; (try dsimp only at hSw); go_simp; (try with_reducible rfl)
      try simp only [Act.put, List.setIfInBounds_toArray, List.set_cons_zero, List.set_cons_succ]
      refine wpAnyH_take (i := 15) (oi := ⟨_, _, _, _, _, _⟩) (v := ?_) rfl (by kernel_rfl) (by kernel_rfl) (by kernel_rfl) (fun _ _ _ h => h) (Or.inl ⟨by rfl, ?_⟩) (by assumption) ?_
      rotate_left
      · intro w' hSw; (try dsimp only at hSw); go_simp; (try with_reducible rfl)
      try simp only [Act.put, List.setIfInBounds_toArray, List.set_cons_zero, List.set_cons_succ]
      refine wpAnyH_take (i := 16) (oi := ⟨_, _, _, _, _, _⟩) (v := ?_) rfl (by kernel_rfl) (by kernel_rfl) (by kernel_rfl) (fun _ _ _ h => h) (Or.inl ⟨by rfl, ?_⟩) (by assumption) ?_
      rotate_left
      · intro w' hSw; (try dsimp only at hSw); go_simp; (try with_reducible rfl)
      try simp only [Act.put, List.setIfInBounds_toArray, List.set_cons_zero, List.set_cons_succ]
      refine wpAnyH_take (i := 17) (oi := ⟨_, _, _, _, _, _⟩) (v := ?_) rfl (by kernel_rfl) (by kernel_rfl) (by kernel_rfl) (fun _ _ _ h => h) (Or.inl ⟨by rfl, ?_⟩) (by assumption) ?_
      rotate_left
      · intro w' hSw; (try dsimp only at hSw); go_simp; (try with_reducible rfl)
      try simp only [Act.put, List.setIfInBounds_toArray, List.set_cons_zero, List.set_cons_succ]
      refine wpAnyH_take (i := 18) (oi := ⟨_, _, _, _, _, _⟩) (v := ?_) rfl (by kernel_rfl) (by kernel_rfl) (by kernel_rfl) (fun _ _ _ h => h) (Or.inl ⟨by rfl, ?_⟩) (by assumption) ?_
      rotate_left
      · intro w' hSw; (try dsimp only at hSw); go_simp; (try with_reducible rfl)
      try simp only [Act.put, List.setIfInBounds_toArray, List.set_cons_zero, List.set_cons_succ]
      refine wpAnyH_take (i := 19) (oi := ⟨_, _, _, _, _, _⟩) (v := ?_) rfl (by kernel_rfl) (by kernel_rfl) (by kernel_rfl) (fun _ _ _ h => h) (Or.inl ⟨by rfl, ?_⟩) (by assumption) ?_
      rotate_left
      · intro w' hSw; (try dsimp only at hSw); go_simp; (try with_reducible rfl)
      try simp only [Act.put, List.setIfInBounds_toArray, List.set_cons_zero, List.set_cons_succ]
      refine wpAnyH_take (i := 20) (oi := ⟨_, _, _, _, _, _⟩) (v := ?_) rfl (by kernel_rfl) (by kernel_rfl) (by kernel_rfl) (fun _ _ _ h => h) (Or.inl ⟨by rfl, ?_⟩) (by assumption) ?_
      rotate_left
      · intro w' hSw; (try dsimp only at hSw); go_simp; (try with_reducible rfl)
      try simp only [Act.put, List.setIfInBounds_toArray, List.set_cons_zero, List.set_cons_succ]
      refine wpAnyH_take (i := 21) (oi := ⟨_, _, _, _, _, _⟩) (v := undef) rfl (by kernel_rfl) (by kernel_rfl) (by kernel_rfl) (fun _ _ _ h => h) (Or.inr ⟨by rfl, rfl⟩) (by assumption) ?_
      try simp only [Act.put, List.setIfInBounds_toArray, List.set_cons_zero, List.set_cons_succ]
      refine wpAnyH_take (i := 22) (oi := ⟨_, _, _, _, _, _⟩) (v := undef) rfl (by kernel_rfl) (by kernel_rfl) (by kernel_rfl) (fun _ _ _ h => h) (Or.inr ⟨by rfl, rfl⟩) (by assumption) ?_
      try simp only [Act.put, List.setIfInBounds_toArray, List.set_cons_zero, List.set_cons_succ]
      refine wpAnyH_take (i := 23) (oi := ⟨_, _, _, _, _, _⟩) (v := ?_) rfl (by kernel_rfl) (by kernel_rfl) (by kernel_rfl) (fun _ _ _ h => h) (Or.inl ⟨by rfl, ?_⟩) (by assumption) ?_
      rotate_left
      · intro w' hSw; (try dsimp only at hSw); go_simp; (try with_reducible rfl)
      try simp only [Act.put, List.setIfInBounds_toArray, List.set_cons_zero, List.set_cons_succ]
      refine wpAnyH_take (i := 24) (oi := ⟨_, _, _, _, _, _⟩) (v := ?_) rfl (by kernel_rfl) (by kernel_rfl) (by kernel_rfl) (fun _ _ _ h => h) (Or.inl ⟨by rfl, ?_⟩) (by assumption) ?_
      rotate_left
      · intro w' hSw; (try dsimp only at hSw); go_simp; (try with_reducible rfl)
      try simp only [Act.put, List.setIfInBounds_toArray, List.set_cons_zero, List.set_cons_succ]
      refine wpAnyH_done (by kernel_rfl) ?_ _
      have EM := Lib.hid (B4.out.trans (hHeld.1.mono B4.out.size))
      have HM := Lib.hid (fun W h => HS.out W (hHeld.1.trans h))
      have EMb := Lib.hid hHeld.1
      clear hHeld
      go_wp2_with fail
      refine (rSym_c S _).mono ?_
      rintro e w6 ⟨rfl, k6⟩
      have B6 := Lib.hid (EM.out.trans (k6.mono EM.out.size))
      have C6 := Lib.hid (EMb.out.trans (k6.mono EMb.out.size))
      clear k6
      go_wp2_with fail
      refine (RR.out _).mono ?_
      rintro e w7 ⟨rfl, k7⟩
      have B7 := Lib.hid (B6.out.trans (k7.mono B6.out.size))
      have C7 := Lib.hid (C6.out.trans (k7.mono C6.out.size))
      clear k7
      go_wp2_with fail
      go_ret
      exact ⟨rfl, B7.out⟩
set_option maxRecDepth 100000 in
set_option maxHeartbeats 4000000 in
theorem texts_D (A : Option Addr) (c : Nat) (l : List Vl) (w : World) (ht : Tab w) (hv : ValsAt w A l) (hx : ∀ x ∈ l, cameV x) (h1 : 1 ≤ l.length) (h20 : l.length ≤ 20) (hall : ∀ k (h : k < l.length), rightB l[k] = true) (hs : (cat l).size ≤ 40) (hr : rightB (vS (cat l)) = true) :
    Calls Tryd.prog 6 #[.slice A l.length c] w fun e w' => e = .returned (.bool true) ∧ Below w.heap.size w w' := by
  have KN := Lib.hid (known_any w ht)
  have V := Lib.hid (fun W (h : Below w.heap.size w W) => hv.below h)
  have HX := Lib.hid hx
  have AR := Lib.hid hall
  have hok : ∀ v ∈ l, okV v := by
    intro v hv2
    obtain ⟨k, hk, rfl⟩ := List.getElem_of_mem hv2
    exact right_okV (hall k hk) (hx _ hv2)
  have K1 : Hid (∀ W, Below w.heap.size w W → Calls Tryd.prog 14 #[.string ⟨#[115, 116, 114, 45, 99, 97, 116]⟩, .slice A l.length c] W fun e w' => e = .returned (.tuple #[.agg #[.int .i64 3, .int .i64 0, .string (cat l)], .int .i64 0]) ∧ Below W.heap.size W w') := Lib.hid (fun W h => by have := apply_c ⟨#[115, 116, 114, 45, 99, 97, 116]⟩ A c l W (ht.b h) (hv.below h) hok (by omega); rwa [str_val, str_1 (by omega)] at this)
  have K2 : Hid (∀ W, Below w.heap.size w W → Calls Tryd.prog 14 #[.string ⟨#[115, 121, 109, 45, 99, 97, 116]⟩, .slice A l.length c] W fun e w' => e = .returned (.tuple #[.agg #[.int .i64 2, .int .i64 0, .string (cat l)], .int .i64 0]) ∧ Below W.heap.size W w') := Lib.hid (fun W h => by have := apply_c ⟨#[115, 121, 109, 45, 99, 97, 116]⟩ A c l W (ht.b h) (hv.below h) hok (by omega); rwa [sym_val h1, sym_3 hs hr] at this)
  clear hok hall
  have hnI : (l.length : Int) ≤ 20 := by omega
  have hn1 : (1 : Int) ≤ (l.length : Int) := by omega
  have hn0 : ((l.length : Int) == 0) = false := beq_eq_false_iff_ne.2 (by omega)
  clear ht hv hx
  go_enter Tryd.func6, Tryd.ntmps6
  go_wp2_with fail
  refine KN.out.mono ?_
  rintro e w1 ⟨rfl, b1⟩
  have E1 := Lib.hid b1; clear b1
  go_wp2_with fail
  go_loopw [3, 4] (fun o i wr => ∃ k : Nat, k ≤ l.length ∧ i = .int .i64 k ∧ ∃ S : ByteArray, o = .string S ∧ S.size ≤ 1000 * k ∧ Hid (S = cat (l.take k)) ∧ Hid (Below w.heap.size w wr)) (fun _ i _ => l.length - (intOf i).toNat)
  case atStart => exact ⟨0, by omega, rfl, _, rfl, Nat.zero_le _, Lib.hid rfl, E1⟩
  case round =>
    obtain ⟨k, hk, rfl, S, rfl, hSs, hS, hB⟩ := hrel
    have hSI : (S.size : Int) ≤ 20000 := by omega
    by_cases hlt : k < l.length
    · have hltI : (k : Int) < (l.length : Int) := by omega
      obtain ⟨ad, rfl, c0, c1, c2⟩ := (V.out _ hB.out).at hlt
      have hN := Lib.hid (show cat (l.take (k + 1)) = cat (l.take k) ++ plainS l[k] by rw [List.take_succ_eq_append_getElem hlt, cat_snoc])
      have hc := Lib.hid (HX.out l[k] (List.getElem_mem hlt))
      have hr := AR.out k hlt
      generalize l[k] = v at *
      obtain ⟨a, b, s⟩ := v
      dsimp only at c0 c1 c2
      have RC := Lib.hid (rright_v (a, b, s) true hr hc.out)
      have PC := Lib.hid (plain_c (a, b, s) hc.out.n)
      have hps := right_size hr hc.out
      
      clear hr
      generalize plainS (a, b, s) = x at *
      have hxs : (x.size : Int) ≤ 1000 := by omega
      have hxq : Hid (S.size + x.size ≤ 1000 * (k + 1)) := Lib.hid (by omega)
      clear hps
      go_wp2_with fail
      refine (RC.out _).mono ?_
      rintro e w2 ⟨rfl, b2⟩
      have d0 := (b2.cell (p := ad.add (k * 3)) (World.block_lt_of_cell? _ _ c0)).trans c0
      have d1 := (b2.cell (p := ⟨(ad.add (k * 3)).block, (ad.add (k * 3)).off + 1, none⟩) (World.block_lt_of_cell? _ _ c1)).trans c1
      have d2 := (b2.cell (p := ⟨(ad.add (k * 3)).block, (ad.add (k * 3)).off + 2, none⟩) (World.block_lt_of_cell? _ _ c2)).trans c2
      have E2 := Lib.hid (hB.out.trans (b2.mono hB.out.size))
      clear b2 c0 c1 c2
      go_wp2_with fail
      refine (PC.out _).mono ?_
      rintro e w3 ⟨rfl, b3⟩
      have E3 := Lib.hid (E2.out.trans (b3.mono E2.out.size))
      clear b3 d0 d1 d2
      go_wp2_with fail
      exact ⟨⟨k + 1, by omega, by go_num, _, rfl, by rw [ByteArray.size_append]; exact hxq.out, Lib.hid (by rw [hN.out, hS.out]), E3⟩, by simp [intOf]; omega⟩
    · obtain rfl : k = l.length := by omega
      have hSc : S = cat l := by rw [List.take_length] at hS; exact hS.out
      subst hSc
      clear hS
      generalize cat l = S at *
      have hz1 : (S.size : Int) ≤ 1000 := by omega
      have hd : decide ((S.size : Int) ≤ 1000) = true := decide_eq_true (by omega)
      have hz2 : (S.size : Int) ≤ 40 := by omega
      have RR : Hid (∀ W, Calls Tryd.prog 17 #[.agg #[.int .i64 2, .int .i64 0, .string S]] W fun e w' => e = .returned (.bool true) ∧ Below W.heap.size W w') := Lib.hid (fun W => by rw [← hr]; exact rright_c (vS S) W (by show S.size ≤ _; omega))
      clear hr
      clear hs
      have ST : Hid (∀ W, Calls Tryd.prog 15 #[.agg #[.int .i64 3, .int .i64 0, .string S], .agg #[.int .i64 3, .int .i64 0, .string S]] W fun e w' => e = .returned (.bool true) ∧ Below W.heap.size W w') := Lib.hid (fun W => by have := rsame_c (3, 0, S) (3, 0, S) W; rwa [decide_eq_true rfl] at this)
      have SY : Hid (∀ W, Calls Tryd.prog 15 #[.agg #[.int .i64 2, .int .i64 0, .string S], .agg #[.int .i64 2, .int .i64 0, .string S]] W fun e w' => e = .returned (.bool true) ∧ Below W.heap.size W w') := Lib.hid (fun W => by have := rsame_c (2, 0, S) (2, 0, S) W; rwa [decide_eq_true rfl] at this)
      go_wp2_with fail
      refine (K1.out _ hB.out).mono ?_
      rintro e w2 ⟨rfl, k2⟩
      have B2 := Lib.hid (hB.out.trans (k2.mono hB.out.size))
      clear k2
      go_wp2_with fail
      refine (K2.out _ (B2.out.alloc B2.out.size _)).mono ?_
      rintro e w3 ⟨rfl, k3⟩
      have B3 := Lib.hid ((B2.out.alloc B2.out.size _).trans (k3.mono (B2.out.alloc B2.out.size _).size))
      have X3 := Lib.hid (keepB (heap_alloc_new w2 _) k3)
      have B4 := Lib.hid (B3.out.alloc B3.out.size (.cells #[.int .i64 2, .int .i64 0, .string S] 32))
      have X4 := Lib.hid ((Below.heap_alloc w3 (.cells #[.int .i64 2, .int .i64 0, .string S] 32) _ (Array.getElem?_eq_some_iff.1 X3.out).1).trans X3.out)
      have Y4 := Lib.hid (heap_alloc_new w3 (.cells #[.int .i64 2, .int .i64 0, .string S] 32))
      clear k3
      go_wp2_with fail
      generalize w3.alloc (.cells #[.int .i64 2, .int .i64 0, .string S] 32) = w4 at B4 X4 Y4 ⊢
      have HS : Hid (∀ W, Below w4.heap.size w4 W → (fun W => Below w4.heap.size w4 W ∧ W.cell? ⟨w2.heap.size, 0, none⟩ = some (.int .i64 3) ∧ W.cell? ⟨w2.heap.size, 1, none⟩ = some (.int .i64 0) ∧ W.cell? ⟨w2.heap.size, 2, none⟩ = some (.string S) ∧ W.cell? ⟨w3.heap.size, 0, none⟩ = some (.int .i64 2) ∧ W.cell? ⟨w3.heap.size, 1, none⟩ = some (.int .i64 0) ∧ W.cell? ⟨w3.heap.size, 2, none⟩ = some (.string S)) W) := Lib.hid (fun W h => by
        have x := keepB X4.out h
        have y := keepB Y4.out h
        exact ⟨h, block_cell x rfl, block_cell x rfl, block_cell x rfl, block_cell y rfl, block_cell y rfl, block_cell y rfl⟩)
      have D4 : Below w4.heap.size w4 w4.drew := ⟨rfl, rfl, rfl, Nat.le_refl _, fun _ _ => rfl⟩
      refine wp_region_held_drew (S := (fun W => Below w4.heap.size w4 W ∧ W.cell? ⟨w2.heap.size, 0, none⟩ = some (.int .i64 3) ∧ W.cell? ⟨w2.heap.size, 1, none⟩ = some (.int .i64 0) ∧ W.cell? ⟨w2.heap.size, 2, none⟩ = some (.string S) ∧ W.cell? ⟨w3.heap.size, 0, none⟩ = some (.int .i64 2) ∧ W.cell? ⟨w3.heap.size, 1, none⟩ = some (.int .i64 0) ∧ W.cell? ⟨w3.heap.size, 2, none⟩ = some (.string S))) (by kernel_rfl) (HS.out _ D4) (fun hHeld => ?_)
      refine wpAnyH_take (i := 0) (oi := ⟨_, _, _, _, _, _⟩) (v := ?_) rfl (by kernel_rfl) (by kernel_rfl) (by kernel_rfl) (fun _ _ _ h => h) (Or.inl ⟨by rfl, ?_⟩) (by assumption) ?_
      rotate_left
      · intro w' hSw; (try dsimp only at hSw); go_simp; (try with_reducible rfl)
      try simp only [Act.put, List.setIfInBounds_toArray, List.set_cons_zero, List.set_cons_succ]
      refine wpAnyH_take (i := 1) (oi := ⟨_, _, _, _, _, _⟩) (v := ?_) rfl (by kernel_rfl) (by kernel_rfl) (by kernel_rfl) (fun _ _ _ h => h) (Or.inl ⟨by rfl, ?_⟩) (by assumption) ?_
      rotate_left
      · intro w' hSw; (try dsimp only at hSw); go_simp; (try with_reducible rfl)
      try simp only [Act.put, List.setIfInBounds_toArray, List.set_cons_zero, List.set_cons_succ]
      refine wpAnyH_take (i := 2) (oi := ⟨_, _, _, _, _, _⟩) (v := ?_) rfl (by kernel_rfl) (by kernel_rfl) (by kernel_rfl) (fun _ _ _ h => h) (Or.inl ⟨by rfl, ?_⟩) (by assumption) ?_
      rotate_left
      · intro w' hSw; (try dsimp only at hSw); go_simp; (try with_reducible rfl)
      try simp only [Act.put, List.setIfInBounds_toArray, List.set_cons_zero, List.set_cons_succ]
      refine wpAnyH_take (i := 3) (oi := ⟨_, _, _, _, _, _⟩) (v := ?_) rfl (by kernel_rfl) (by kernel_rfl) (by kernel_rfl) (fun _ _ _ h => h) (Or.inl ⟨by rfl, ?_⟩) (by assumption) ?_
      rotate_left
      · intro w' hSw; (try dsimp only at hSw); go_simp; (try with_reducible rfl)
      try simp only [Act.put, List.setIfInBounds_toArray, List.set_cons_zero, List.set_cons_succ]
      refine wpAnyH_take (i := 4) (oi := ⟨_, _, _, _, _, _⟩) (v := ?_) rfl (by kernel_rfl) (by kernel_rfl) (by kernel_rfl) (fun _ _ _ h => h) (Or.inl ⟨by rfl, ?_⟩) (by assumption) ?_
      rotate_left
      · intro w' hSw; (try dsimp only at hSw); go_simp; (try with_reducible rfl)
      try simp only [Act.put, List.setIfInBounds_toArray, List.set_cons_zero, List.set_cons_succ]
      refine wpAnyH_take (i := 5) (oi := ⟨_, _, _, _, _, _⟩) (v := ?_) rfl (by kernel_rfl) (by kernel_rfl) (by kernel_rfl) (fun _ _ _ h => h) (Or.inl ⟨by rfl, ?_⟩) (by assumption) ?_
      rotate_left
      · intro w' hSw; (try dsimp only at hSw); go_simp; (try with_reducible rfl)
      try simp only [Act.put, List.setIfInBounds_toArray, List.set_cons_zero, List.set_cons_succ]
      refine wpAnyH_take (i := 6) (oi := ⟨_, _, _, _, _, _⟩) (v := ?_) rfl (by kernel_rfl) (by kernel_rfl) (by kernel_rfl) (fun _ _ _ h => h) (Or.inl ⟨by rfl, ?_⟩) (by assumption) ?_
      rotate_left
      · intro w' hSw; (try dsimp only at hSw); go_simp; (try with_reducible rfl)
      try simp only [Act.put, List.setIfInBounds_toArray, List.set_cons_zero, List.set_cons_succ]
      refine wpAnyH_take (i := 7) (oi := ⟨_, _, _, _, _, _⟩) (v := ?_) rfl (by kernel_rfl) (by kernel_rfl) (by kernel_rfl) (fun _ _ _ h => h) (Or.inl ⟨by rfl, ?_⟩) (by assumption) ?_
      rotate_left
      · intro w' hSw; (try dsimp only at hSw); go_simp; (try with_reducible rfl)
      try simp only [Act.put, List.setIfInBounds_toArray, List.set_cons_zero, List.set_cons_succ]
      refine wpAnyH_take (i := 8) (oi := ⟨_, _, _, _, _, _⟩) (v := ?_) rfl (by kernel_rfl) (by kernel_rfl) (by kernel_rfl) (fun _ _ _ h => h) (Or.inl ⟨by rfl, ?_⟩) (by assumption) ?_
      rotate_left
      · intro w' hSw; (try dsimp only at hSw); go_simp; (try with_reducible rfl)
      try simp only [Act.put, List.setIfInBounds_toArray, List.set_cons_zero, List.set_cons_succ]
      refine wpAnyH_take (i := 9) (oi := ⟨_, _, _, _, _, _⟩) (v := ?_) rfl (by kernel_rfl) (by kernel_rfl) (by kernel_rfl) (fun _ _ _ h => h) (Or.inl ⟨by rfl, ?_⟩) (by assumption) ?_
      rotate_left
      · intro w' hSw; (try dsimp only at hSw); go_simp; (try with_reducible rfl)
      try simp only [Act.put, List.setIfInBounds_toArray, List.set_cons_zero, List.set_cons_succ]
      refine wpAnyH_take (i := 10) (oi := ⟨_, _, _, _, _, _⟩) (v := ?_) rfl (by kernel_rfl) (by kernel_rfl) (by kernel_rfl) (fun _ _ _ h => h) (Or.inl ⟨by rfl, ?_⟩) (by assumption) ?_
      rotate_left
      · intro w' hSw; (try dsimp only at hSw); go_simp; (try with_reducible rfl)
      try simp only [Act.put, List.setIfInBounds_toArray, List.set_cons_zero, List.set_cons_succ]
      refine wpAnyH_take (i := 11) (oi := ⟨_, _, _, _, _, _⟩) (v := ?_) rfl (by kernel_rfl) (by kernel_rfl) (by kernel_rfl) (fun _ _ _ h => h) (Or.inl ⟨by rfl, ?_⟩) (by assumption) ?_
      rotate_left
      · intro w' hSw; (try dsimp only at hSw); go_simp; (try with_reducible rfl)
      try simp only [Act.put, List.setIfInBounds_toArray, List.set_cons_zero, List.set_cons_succ]
      refine wpAnyH_ready (rs := [12]) (by kernel_rfl) (by simp) ?_
      refine AllReadyH.cons (o := ⟨_, _, _, _, _, _⟩) rfl (fun K9 hK9 => ?_) AllReadyH.nil
      go_simp
      (with_reducible refine ((belowW (W0 := w4) hHeld.1 (rStr_c S _))).mono ?_)
      rintro e v1 ⟨rfl, m1⟩
      have M1 := Lib.hid m1
      clear m1
      go_wp2_with fail
      refine hK9.out _ _ (HS.out _ M1.out) (fun hHeld => ?_)
      clear hK9 K9
      try simp only [Act.put, List.setIfInBounds_toArray, List.set_cons_zero, List.set_cons_succ]
      refine wpAnyH_ready (rs := [13]) (by kernel_rfl) (by simp) ?_
      refine AllReadyH.cons (o := ⟨_, _, _, _, _, _⟩) rfl (fun K9 hK9 => ?_) AllReadyH.nil
      go_simp
      (with_reducible refine ((belowW (W0 := w4) hHeld.1 (ST.out _))).mono ?_)
      rintro e v2 ⟨rfl, m2⟩
      have M2 := Lib.hid m2
      clear m2
      go_wp2_with fail
      refine hK9.out _ _ (HS.out _ M2.out) (fun hHeld => ?_)
      clear hK9 K9
      try simp only [Act.put, List.setIfInBounds_toArray, List.set_cons_zero, List.set_cons_succ]
      refine wpAnyH_take (i := 14) (oi := ⟨_, _, _, _, _, _⟩) (v := ?_) rfl (by kernel_rfl) (by kernel_rfl) (by kernel_rfl) (fun _ _ _ h => h) (Or.inl ⟨by rfl, ?_⟩) (by assumption) ?_
      rotate_left
      · intro w' hSw; (try dsimp only at hSw); go_simp; (try with_reducible rfl)
      try simp only [Act.put, List.setIfInBounds_toArray, List.set_cons_zero, List.set_cons_succ]
      refine wpAnyH_take (i := 15) (oi := ⟨_, _, _, _, _, _⟩) (v := ?_) rfl (by kernel_rfl) (by kernel_rfl) (by kernel_rfl) (fun _ _ _ h => h) (Or.inl ⟨by rfl, ?_⟩) (by assumption) ?_
      rotate_left
      · intro w' hSw; (try dsimp only at hSw); go_simp; (try with_reducible rfl)
      try simp only [Act.put, List.setIfInBounds_toArray, List.set_cons_zero, List.set_cons_succ]
      refine wpAnyH_take (i := 16) (oi := ⟨_, _, _, _, _, _⟩) (v := ?_) rfl (by kernel_rfl) (by kernel_rfl) (by kernel_rfl) (fun _ _ _ h => h) (Or.inl ⟨by rfl, ?_⟩) (by assumption) ?_
      rotate_left
      · intro w' hSw; (try dsimp only at hSw); go_simp; (try with_reducible rfl)
      try simp only [Act.put, List.setIfInBounds_toArray, List.set_cons_zero, List.set_cons_succ]
      refine wpAnyH_take (i := 17) (oi := ⟨_, _, _, _, _, _⟩) (v := ?_) rfl (by kernel_rfl) (by kernel_rfl) (by kernel_rfl) (fun _ _ _ h => h) (Or.inl ⟨by rfl, ?_⟩) (by assumption) ?_
      rotate_left
      · intro w' hSw; (try dsimp only at hSw); go_simp; (try with_reducible rfl)
      try simp only [Act.put, List.setIfInBounds_toArray, List.set_cons_zero, List.set_cons_succ]
      refine wpAnyH_take (i := 18) (oi := ⟨_, _, _, _, _, _⟩) (v := ?_) rfl (by kernel_rfl) (by kernel_rfl) (by kernel_rfl) (fun _ _ _ h => h) (Or.inl ⟨by rfl, ?_⟩) (by assumption) ?_
      rotate_left
      · intro w' hSw; (try dsimp only at hSw); go_simp; (try with_reducible rfl)
      try simp only [Act.put, List.setIfInBounds_toArray, List.set_cons_zero, List.set_cons_succ]
      refine wpAnyH_take (i := 19) (oi := ⟨_, _, _, _, _, _⟩) (v := ?_) rfl (by kernel_rfl) (by kernel_rfl) (by kernel_rfl) (fun _ _ _ h => h) (Or.inl ⟨by rfl, ?_⟩) (by assumption) ?_
      rotate_left
      · intro w' hSw; (try dsimp only at hSw); go_simp; (try with_reducible rfl)
      try simp only [Act.put, List.setIfInBounds_toArray, List.set_cons_zero, List.set_cons_succ]
      refine wpAnyH_take (i := 20) (oi := ⟨_, _, _, _, _, _⟩) (v := ?_) rfl (by kernel_rfl) (by kernel_rfl) (by kernel_rfl) (fun _ _ _ h => h) (Or.inl ⟨by rfl, ?_⟩) (by assumption) ?_
      rotate_left
      · intro w' hSw; (try dsimp only at hSw); go_simp; (try with_reducible rfl)
      try simp only [Act.put, List.setIfInBounds_toArray, List.set_cons_zero, List.set_cons_succ]
      refine wpAnyH_take (i := 21) (oi := ⟨_, _, _, _, _, _⟩) (v := undef) rfl (by kernel_rfl) (by kernel_rfl) (by kernel_rfl) (fun _ _ _ h => h) (Or.inr ⟨by rfl, rfl⟩) (by assumption) ?_
      try simp only [Act.put, List.setIfInBounds_toArray, List.set_cons_zero, List.set_cons_succ]
      refine wpAnyH_take (i := 22) (oi := ⟨_, _, _, _, _, _⟩) (v := undef) rfl (by kernel_rfl) (by kernel_rfl) (by kernel_rfl) (fun _ _ _ h => h) (Or.inr ⟨by rfl, rfl⟩) (by assumption) ?_
      try simp only [Act.put, List.setIfInBounds_toArray, List.set_cons_zero, List.set_cons_succ]
      refine wpAnyH_take (i := 23) (oi := ⟨_, _, _, _, _, _⟩) (v := ?_) rfl (by kernel_rfl) (by kernel_rfl) (by kernel_rfl) (fun _ _ _ h => h) (Or.inl ⟨by rfl, ?_⟩) (by assumption) ?_
      rotate_left
      · intro w' hSw; (try dsimp only at hSw); go_simp; (try with_reducible rfl)
      try simp only [Act.put, List.setIfInBounds_toArray, List.set_cons_zero, List.set_cons_succ]
      refine wpAnyH_take (i := 24) (oi := ⟨_, _, _, _, _, _⟩) (v := ?_) rfl (by kernel_rfl) (by kernel_rfl) (by kernel_rfl) (fun _ _ _ h => h) (Or.inl ⟨by rfl, ?_⟩) (by assumption) ?_
      rotate_left
      · intro w' hSw; (try dsimp only at hSw); go_simp; (try with_reducible rfl)
      try simp only [Act.put, List.setIfInBounds_toArray, List.set_cons_zero, List.set_cons_succ]
      refine wpAnyH_done (by kernel_rfl) ?_ _
      have EM := Lib.hid (B4.out.trans (hHeld.1.mono B4.out.size))
      have HM := Lib.hid (fun W h => HS.out W (hHeld.1.trans h))
      have EMb := Lib.hid hHeld.1
      clear hHeld
      go_wp2_with fail
      refine (rSym_c S _).mono ?_
      rintro e w6 ⟨rfl, k6⟩
      have B6 := Lib.hid (EM.out.trans (k6.mono EM.out.size))
      have C6 := Lib.hid (EMb.out.trans (k6.mono EMb.out.size))
      clear k6
      go_wp2_with fail
      refine (RR.out _).mono ?_
      rintro e w7 ⟨rfl, k7⟩
      have B7 := Lib.hid (B6.out.trans (k7.mono B6.out.size))
      have C7 := Lib.hid (C6.out.trans (k7.mono C6.out.size))
      clear k7
      go_wp2_with fail
      have D7 := Lib.hid (belN C7.out 1)
      refine wp_region_held_drew (S := (fun W => Below w4.heap.size w4 W ∧ W.cell? ⟨w2.heap.size, 0, none⟩ = some (.int .i64 3) ∧ W.cell? ⟨w2.heap.size, 1, none⟩ = some (.int .i64 0) ∧ W.cell? ⟨w2.heap.size, 2, none⟩ = some (.string S) ∧ W.cell? ⟨w3.heap.size, 0, none⟩ = some (.int .i64 2) ∧ W.cell? ⟨w3.heap.size, 1, none⟩ = some (.int .i64 0) ∧ W.cell? ⟨w3.heap.size, 2, none⟩ = some (.string S))) (by kernel_rfl) (HS.out _ D7.out) (fun hHeld => ?_)
      refine wpAnyH_take (i := 0) (oi := ⟨_, _, _, _, _, _⟩) (v := ?_) rfl (by kernel_rfl) (by kernel_rfl) (by kernel_rfl) (fun _ _ _ h => h) (Or.inl ⟨by rfl, ?_⟩) (by assumption) ?_
      rotate_left
      · intro w' hSw; (try dsimp only at hSw); go_simp; (try with_reducible rfl)
      try simp only [Act.put, List.setIfInBounds_toArray, List.set_cons_zero, List.set_cons_succ]
      refine wpAnyH_take (i := 1) (oi := ⟨_, _, _, _, _, _⟩) (v := ?_) rfl (by kernel_rfl) (by kernel_rfl) (by kernel_rfl) (fun _ _ _ h => h) (Or.inl ⟨by rfl, ?_⟩) (by assumption) ?_
      rotate_left
      · intro w' hSw; (try dsimp only at hSw); go_simp; (try with_reducible rfl)
      try simp only [Act.put, List.setIfInBounds_toArray, List.set_cons_zero, List.set_cons_succ]
      refine wpAnyH_take (i := 2) (oi := ⟨_, _, _, _, _, _⟩) (v := ?_) rfl (by kernel_rfl) (by kernel_rfl) (by kernel_rfl) (fun _ _ _ h => h) (Or.inl ⟨by rfl, ?_⟩) (by assumption) ?_
      rotate_left
      · intro w' hSw; (try dsimp only at hSw); go_simp; (try with_reducible rfl)
      try simp only [Act.put, List.setIfInBounds_toArray, List.set_cons_zero, List.set_cons_succ]
      refine wpAnyH_take (i := 3) (oi := ⟨_, _, _, _, _, _⟩) (v := ?_) rfl (by kernel_rfl) (by kernel_rfl) (by kernel_rfl) (fun _ _ _ h => h) (Or.inl ⟨by rfl, ?_⟩) (by assumption) ?_
      rotate_left
      · intro w' hSw; (try dsimp only at hSw); go_simp; (try with_reducible rfl)
      try simp only [Act.put, List.setIfInBounds_toArray, List.set_cons_zero, List.set_cons_succ]
      refine wpAnyH_take (i := 4) (oi := ⟨_, _, _, _, _, _⟩) (v := ?_) rfl (by kernel_rfl) (by kernel_rfl) (by kernel_rfl) (fun _ _ _ h => h) (Or.inl ⟨by rfl, ?_⟩) (by assumption) ?_
      rotate_left
      · intro w' hSw; (try dsimp only at hSw); go_simp; (try with_reducible rfl)
      try simp only [Act.put, List.setIfInBounds_toArray, List.set_cons_zero, List.set_cons_succ]
      refine wpAnyH_ready (rs := [5]) (by kernel_rfl) (by simp) ?_
      refine AllReadyH.cons (o := ⟨_, _, _, _, _, _⟩) rfl (fun K9 hK9 => ?_) AllReadyH.nil
      go_simp
      (with_reducible refine ((belowW (W0 := w4) hHeld.1 (rSym_c S _))).mono ?_)
      rintro e v3 ⟨rfl, m3⟩
      have M3 := Lib.hid m3
      clear m3
      go_wp2_with fail
      refine hK9.out _ _ (HS.out _ M3.out) (fun hHeld => ?_)
      clear hK9 K9
      try simp only [Act.put, List.setIfInBounds_toArray, List.set_cons_zero, List.set_cons_succ]
      refine wpAnyH_ready (rs := [6]) (by kernel_rfl) (by simp) ?_
      refine AllReadyH.cons (o := ⟨_, _, _, _, _, _⟩) rfl (fun K9 hK9 => ?_) AllReadyH.nil
      go_simp
      (with_reducible refine ((belowW (W0 := w4) hHeld.1 (SY.out _))).mono ?_)
      rintro e v4 ⟨rfl, m4⟩
      have M4 := Lib.hid m4
      clear m4
      go_wp2_with fail
      refine hK9.out _ _ (HS.out _ M4.out) (fun hHeld => ?_)
      clear hK9 K9
      try simp only [Act.put, List.setIfInBounds_toArray, List.set_cons_zero, List.set_cons_succ]
      refine wpAnyH_take (i := 7) (oi := ⟨_, _, _, _, _, _⟩) (v := ?_) rfl (by kernel_rfl) (by kernel_rfl) (by kernel_rfl) (fun _ _ _ h => h) (Or.inl ⟨by rfl, ?_⟩) (by assumption) ?_
      rotate_left
      · intro w' hSw; (try dsimp only at hSw); go_simp; (try with_reducible rfl)
      try simp only [Act.put, List.setIfInBounds_toArray, List.set_cons_zero, List.set_cons_succ]
      refine wpAnyH_take (i := 8) (oi := ⟨_, _, _, _, _, _⟩) (v := ?_) rfl (by kernel_rfl) (by kernel_rfl) (by kernel_rfl) (fun _ _ _ h => h) (Or.inl ⟨by rfl, ?_⟩) (by assumption) ?_
      rotate_left
      · intro w' hSw; (try dsimp only at hSw); go_simp; (try with_reducible rfl)
      try simp only [Act.put, List.setIfInBounds_toArray, List.set_cons_zero, List.set_cons_succ]
      refine wpAnyH_done (by kernel_rfl) ?_ _
      have EN := Lib.hid (B4.out.trans (hHeld.1.mono B4.out.size))
      clear hHeld
      go_wp2
      go_ret
      exact ⟨rfl, EN.out⟩
theorem builtTexts_any (A : Option Addr) (c : Nat) (l : List Vl) (w : World) (ht : Tab w) (hv : ValsAt w A l) (hx : ∀ x ∈ l, cameV x) :
    Calls Tryd.prog 6 #[.slice A l.length c] w fun e w' => e = .returned (.bool true) ∧ Below w.heap.size w w' := by
  by_cases h0 : l.length = 0
  · exact texts_few A c l w ht (.inl h0)
  by_cases h20 : 20 < l.length
  · exact texts_few A c l w ht (.inr h20)
  by_cases hall : ∀ k (h : k < l.length), rightB l[k] = true
  · by_cases hs : (cat l).size ≤ 1000
    · by_cases hs2 : (cat l).size ≤ 40
      · cases hr : rightB (vS (cat l)) with
        | false => exact texts_C A c l w ht hv hx (by omega) (by omega) hall hs2 hr
        | true => exact texts_D A c l w ht hv hx (by omega) (by omega) hall hs2 hr
      · exact texts_B A c l w ht hv hx (by omega) (by omega) hall hs hs2
    · exact texts_A A c l w ht hv hx (by omega) (by omega) hall hs
  · exact texts_not A c l w ht hv hx (by omega) (by omega) hall
end Go.Proofs.YtmadnehipagakaaDoor
