/- eval's Eval; the laws' own beginning: known. -/
import Derived.Test.YtmadnehipagakaaGreatDoorGh
namespace Go.Proofs.YtmadnehipagakaaGreatDoor
open Go.RowKit Go.Lib Go.Sort Go.Shelf KP
set_option maxHeartbeats 2000000 in
theorem Eval_c {X : Cx} (hX : CxOk X) (e : Ex) (B : Option Addr) (c : Nat) (env : List Bd) (EA : Option Addr) (ec f : Nat) (r : Rs) (W : World) (hr : evG X.F X.G f env 0 e f = r) (hA : At X W f) (hE : BindsAt X.N W EA env) (hL : ExAt X.N W e B) (he : goodE e) (henv : goodB env) :
    Calls Tryz.prog 25 #[.pointer (some ⟨X.m, 0, none⟩), exV e B c, .slice EA env.length ec] W (Ends X W r) := by
  have hml := hA.mach.lt
  obtain ⟨wb, hwb, hB1, hA1, hK1, hx1, hr1⟩ := ebox hX e B c W f hA
  have EC := Lib.hid (ev_c hX f e B c env EA ec 0 f wb (Nat.le_refl _) hA1 (hE.below hB1) (hL.bel hB1) he henv (by omega))
  rw [hr] at EC
  obtain ⟨c0, c1, c2, c3, c4, c5⟩ := ecells hx1
  have K1 := Lib.hid hK1
  have HR1 := Lib.hid hr1
  have HRS := Lib.hid (fun (w' : World) rf => res3 (X := X) (W := W) (w' := w') (rf := rf) (W.heap.size + 1) 26 (by omega) hml)
  obtain ⟨⟨⟨s1, s2, s3⟩, sc⟩, sf⟩ := r
  clear hX hE hL he henv hA hB1 hA1 hK1 hx1 hr1 hr
  go_enter Tryz.func25, Tryz.ntmps25
  go_wp2_with fail
  refine EC.out.mono ?_
  rintro z w2 ⟨rfl, m2, k2⟩
  obtain ⟨⟨d0, d1, d2⟩, f0, h9⟩ := HRS.out w2 _ (KM.tr K1.out k2) m2 (keepNe HR1.out k2 (by omega)) (.int .i64 s1) (.int .i64 s2) (.string s3)
  have H9 := Lib.hid h9
  clear h9 m2 k2
  go_wp2_with fail
  generalize hw9 : ((w2.setCell ⟨W.heap.size + 1, 0, none⟩ (.int .i64 s1)).setCell ⟨W.heap.size + 1, 1, none⟩ (.int .i64 s2)).setCell ⟨W.heap.size + 1, 2, none⟩ (.string s3) = w9 at *
  obtain ⟨k9, m9, q0, q1, q2⟩ := H9.out w9 rfl
  exact bodyPost_ret (v := pairV ((s1, s2, s3), sc)) (by simp [results, Tryz.results25, go_sem, q0, q1, q2]) rfl ⟨rfl, m9, k9⟩
set_option maxHeartbeats 2000000 in
theorem Call_c {X : Cx} (hX : CxOk X) (s : ByteArray) (LA : Option Addr) (lc : Nat) (l : List Vl) (f : Nat) (r : Rs) (W : World) (hr : calO X.F (evG X.F X.G f) s l 0 f = r) (hA : At X W f) (hV : ValsAt W LA l) (hl : l.length ≤ 100000) (hg : ∀ v ∈ l, goodV v) :
    Calls Tryz.prog 36 #[.pointer (some ⟨X.m, 0, none⟩), .string s, .slice LA l.length lc] W (Ends X W r) := by
  have hml := hA.mach.lt
  have hb := (Below.refl W.heap.size W).alloc (Nat.le_refl _) (.cells #[.int .i64 0, .int .i64 0, .string ⟨#[]⟩] 26)
  have CC := Lib.hid (call_c hX (ev_c hX f) s LA lc l 0 f _ (Nat.le_refl _) (hA.bel hX hb) (hV.below hb) hl hg (by omega))
  rw [hr] at CC
  have K1 := Lib.hid (Keep.of_below hb (fun k => k = X.m))
  have HR1 := Lib.hid (heap_alloc_new W (.cells #[.int .i64 0, .int .i64 0, .string ⟨#[]⟩] 26))
  have HRS := Lib.hid (fun (w' : World) rf => res3 (X := X) (W := W) (w' := w') (rf := rf) W.heap.size 26 (Nat.le_refl _) hml)
  obtain ⟨⟨⟨s1, s2, s3⟩, sc⟩, sf⟩ := r
  clear hX hA hb hr hV hg
  go_enter Tryz.func36, Tryz.ntmps36
  go_wp2_with fail
  refine CC.out.mono ?_
  rintro z w2 ⟨rfl, m2, k2⟩
  obtain ⟨⟨d0, d1, d2⟩, f0, h9⟩ := HRS.out w2 _ (KM.tr K1.out k2) m2 (keepNe HR1.out k2 (by omega)) (.int .i64 s1) (.int .i64 s2) (.string s3)
  have H9 := Lib.hid h9
  clear h9 m2 k2
  go_wp2_with fail
  generalize hw9 : ((w2.setCell ⟨W.heap.size, 0, none⟩ (.int .i64 s1)).setCell ⟨W.heap.size, 1, none⟩ (.int .i64 s2)).setCell ⟨W.heap.size, 2, none⟩ (.string s3) = w9 at *
  obtain ⟨k9, m9, q0, q1, q2⟩ := H9.out w9 rfl
  exact bodyPost_ret (v := pairV ((s1, s2, s3), sc)) (by simp [results, Tryz.results36, go_sem, q0, q1, q2]) rfl ⟨rfl, m9, k9⟩
/-- A machine without functions, its globals in a block of their own. -/
abbrev Xm (m : Nat) (A : Option Addr) (gc : Nat) (G : List Bd) : Cx := ⟨m, none, 0, [], A, gc, G, fun k => k = m⟩
theorem Xm_ok (m : Nat) (A : Option Addr) (gc : Nat) (G : List Bd) (w : World) (ht : Tab w) (hm : w.heap.size ≤ m) (hG : goodB G) : CxOk (Xm m A gc G) :=
  ⟨rfl, fun g hg e => by have := ht.lt g hg; have e : g = m := e; omega, ⟨Nat.zero_le _, fun x h => by cases h⟩, hG⟩
def exKn : Ex := .mk 4 v0 ⟨#[43]⟩ [.mk 2 v0 ⟨#[120]⟩ [], .mk 3 v0 ⟨#[103]⟩ []]
theorem kn1 : evG [] [(⟨#[103]⟩, vI 7)] 10 [(⟨#[120]⟩, vI 2)] 0 exKn 10 = ((vI 9, 0), 7) := by decide +kernel
theorem kn2 : evG [] [(⟨#[103]⟩, vI 7)] 7 [] 0 exKn 7 = ((v0, 7), 5) := by decide +kernel
theorem kn3 : getO [(⟨#[103]⟩, vI 7)] ⟨#[103]⟩ = (vI 7, true) := by decide +kernel
theorem kn4 : putO [(⟨#[103]⟩, vI 7)] ⟨#[103]⟩ (vI 1) = [(⟨#[103]⟩, vI 1)] := by decide +kernel
theorem kn5 : putO [] ⟨#[97]⟩ (vI 7) = [(⟨#[97]⟩, vI 7)] := by decide +kernel
theorem kn6 : getO [(⟨#[97]⟩, vI 7)] ⟨#[97]⟩ = (vI 7, true) := by decide +kernel
theorem goodB_one (s : ByteArray) (n : Int) (h : okI n) : goodB [(s, vI n)] := ⟨by simp, fun b hb => by simp only [List.mem_singleton] at hb; subst hb; exact good_int h⟩
theorem goodE_leaf (k : Int) (s : ByteArray) (h : k ≠ 1) : goodE (.mk k v0 s []) := .mk (fun e => absurd e h) (by simp) (fun i h => by simp at h)
theorem goodKn : goodE exKn := .mk (fun e => by cases e) (by simp) (fun i h => by
  match i, h with
  | 0, _ => exact goodE_leaf 2 _ (by decide)
  | 1, _ => exact goodE_leaf 3 _ (by decide))
def kidsKn : Array Value := #[.int .i64 2, .int .i64 0, .int .i64 0, .string ⟨#[]⟩, .string ⟨#[120]⟩, .slice none 0 0, .int .i64 3, .int .i64 0, .int .i64 0, .string ⟨#[]⟩, .string ⟨#[103]⟩, .slice none 0 0]
theorem exAtKn {N : Nat → Prop} {W : World} {g : Nat} {T : TypeId} {fr : Nat × Nat} (h : W.heap[g]? = some (.cells kidsKn T fr)) (hN : ¬ N g) : ExAt N W exKn (some ⟨g, 0, none⟩) := by
  refine .mk (fun _ => none) (fun _ => 0) (fun i hi => ⟨_, rfl, hN, fun j u hu => ?_⟩) (fun i hi => ?_)
  · rw [addr_flat]
    refine block_cell h ?_
    have hj : j < 6 := by
      rcases Nat.lt_or_ge j 6 with h | h
      · exact h
      · rw [Array.getElem?_eq_none (by simpa using h)] at hu; cases hu
    match i, hi with
    | 0, _ => match j, hj with
      | 0, _ => exact hu
      | 1, _ => exact hu
      | 2, _ => exact hu
      | 3, _ => exact hu
      | 4, _ => exact hu
      | 5, _ => exact hu
    | 1, _ => match j, hj with
      | 0, _ => exact hu
      | 1, _ => exact hu
      | 2, _ => exact hu
      | 3, _ => exact hu
      | 4, _ => exact hu
      | 5, _ => exact hu
  · match i, hi with
    | 0, _ => exact ExAt.nil _ _ _ _ _ _
    | 1, _ => exact ExAt.nil _ _ _ _ _ _
set_option maxRecDepth 100000 in
set_option maxHeartbeats 8000000 in
theorem known8 (w : World) (ht : Tab w) : Calls Tryz.prog 20 #[] w fun e w' => e = .returned (.bool true) ∧ Below w.heap.size w w' := by
  have W0 : IntKind.i64.wrap 0 = 0 := by decide
  have HT := Lib.hid ht
  clear ht
  go_enter Tryz.func20, Tryz.ntmps20
  go_wp2_with fail
  refine (rInt_c 7 _).mono ?_
  rintro e w1 ⟨rfl, q1⟩
  have B1 := Lib.hid q1
  have hg1 := heap_alloc_new w1 (.cells #[.string ⟨#[103]⟩, .int .i64 1, .int .i64 7, .string ⟨#[]⟩] 73)
  have b1 := (Below.refl w1.heap.size w1).alloc (Nat.le_refl _) (.cells #[.string ⟨#[103]⟩, .int .i64 1, .int .i64 7, .string ⟨#[]⟩] 73)
  generalize hw2 : w1.alloc (.cells #[.string ⟨#[103]⟩, .int .i64 1, .int .i64 7, .string ⟨#[]⟩] 73) = w2 at hg1 b1
  have HW2 : Hid (w2.heap.size = w1.heap.size + 1) := Lib.hid (by rw [← hw2]; simp)
  have hm2 := heap_alloc_new w2 (.cells #[.slice none 0 0, .slice (some ⟨w1.heap.size, 0, none⟩) 1 1, .int .i64 10] 61)
  have b2 := (Below.refl w2.heap.size w2).alloc (Nat.le_refl _) (.cells #[.slice none 0 0, .slice (some ⟨w1.heap.size, 0, none⟩) 1 1, .int .i64 10] 61)
  have hg2 := keepB hg1 b2
  generalize hw4 : w2.alloc (.cells #[.slice none 0 0, .slice (some ⟨w1.heap.size, 0, none⟩) 1 1, .int .i64 10] 61) = w4 at hm2 b2 hg2
  have HW4 : Hid (w4.heap.size = w2.heap.size + 1) := Lib.hid (by rw [← hw4]; simp)
  have hk4 := heap_alloc_new w4 (.cells kidsKn 65)
  have b4' := (Below.refl w4.heap.size w4).alloc (Nat.le_refl _) (.cells kidsKn 65)
  have hk5 := (Below.heap_alloc (w4.alloc (.cells kidsKn 65)) (.cells #[.int .i64 4, .int .i64 0, .int .i64 0, .string ⟨#[]⟩, .string ⟨#[43]⟩, .slice (some ⟨w4.heap.size, 0, none⟩) 2 2] 65) w4.heap.size (by simp)).trans hk4
  have he5 := heap_alloc_new (w4.alloc (.cells kidsKn 65)) (.cells #[.int .i64 4, .int .i64 0, .int .i64 0, .string ⟨#[]⟩, .string ⟨#[43]⟩, .slice (some ⟨w4.heap.size, 0, none⟩) 2 2] 65)
  have b5 := b4'.alloc (by simp) (.cells #[.int .i64 4, .int .i64 0, .int .i64 0, .string ⟨#[]⟩, .string ⟨#[43]⟩, .slice (some ⟨w4.heap.size, 0, none⟩) 2 2] 65)
  rw [World.size_alloc] at he5
  unfold kidsKn at hk4 hk5 he5 b5 b4'
  go_wp2_with fail
  obtain ⟨w5, hw5⟩ : ∃ w5, (w4.alloc (.cells #[.int .i64 2, .int .i64 0, .int .i64 0, .string ⟨#[]⟩, .string ⟨#[120]⟩, .slice none 0 0, .int .i64 3, .int .i64 0, .int .i64 0, .string ⟨#[]⟩, .string ⟨#[103]⟩, .slice none 0 0] 65)).alloc (.cells #[.int .i64 4, .int .i64 0, .int .i64 0, .string ⟨#[]⟩, .string ⟨#[43]⟩, .slice (some ⟨w4.heap.size, 0, none⟩) 2 2] 65) = w5 := ⟨_, rfl⟩
  rw [hw5] at hk5 he5 b5
  rw [hw5]
  have hz2 := HW2.out
  have hz4 := HW4.out
  have b5w : Below w4.heap.size w4 w5 := b5
  have hm5 := keepB hm2 b5w
  have hg5 := keepB hg2 b5w
  have s15 := b5w.size
  have hs1 := B1.out.size
  have BW5 := Lib.hid (show Below w.heap.size w w5 from B1.out.trans ((b1.trans ((b2.mono b1.size))).mono hs1 |>.trans (b5w.mono (by omega))))
  have hz5 : w4.heap.size + 2 ≤ w5.heap.size := by rw [← hw5]; simp
  have A5 : Hid (At (Xm w2.heap.size (some ⟨w1.heap.size, 0, none⟩) 1 [(⟨#[103]⟩, vI 7)]) w5 10) := Lib.hid ⟨hm5, fun i hi => by simp at hi, binds_own (n := 1) hg5 rfl (by show ¬ w1.heap.size = w2.heap.size; omega), HT.out.b BW5.out, by omega, fun k e => by have e : k = w2.heap.size := e; omega⟩
  have XO : Hid (CxOk (Xm w2.heap.size (some ⟨w1.heap.size, 0, none⟩) 1 [(⟨#[103]⟩, vI 7)])) := Lib.hid (Xm_ok _ _ _ _ w HT.out (by omega) (goodB_one _ _ (by unfold okI; omega)))
  have EX5 : Hid (ExAt (fun k => k = w2.heap.size) w5 exKn (some ⟨w4.heap.size, 0, none⟩)) := Lib.hid (exAtKn hk5 (by omega))
  have HE5 := Lib.hid he5
  have HS : Hid (∀ W, Keep (fun k => k = w2.heap.size) w5 W → (fun W => Keep (fun k => k = w2.heap.size) w5 W ∧ W.cell? ⟨w4.heap.size + 1, 0, none⟩ = some (.int .i64 4) ∧ W.cell? ⟨w4.heap.size + 1, 1, none⟩ = some (.int .i64 0) ∧ W.cell? ⟨w4.heap.size + 1, 2, none⟩ = some (.int .i64 0) ∧ W.cell? ⟨w4.heap.size + 1, 3, none⟩ = some (.string ⟨#[]⟩) ∧ W.cell? ⟨w4.heap.size + 1, 4, none⟩ = some (.string ⟨#[43]⟩) ∧ W.cell? ⟨w4.heap.size + 1, 5, none⟩ = some (.slice (some ⟨w4.heap.size, 0, none⟩) 2 2)) W) := Lib.hid (fun W h => by
    have x := keepNe HE5.out h (by omega)
    exact ⟨h, block_cell x rfl, block_cell x rfl, block_cell x rfl, block_cell x rfl, block_cell x rfl, block_cell x rfl⟩)
  have EVL : Hid (∀ W EB, Below w5.heap.size w5 W → w2.heap.size < EB → W.heap[EB]? = some (.cells #[.string ⟨#[120]⟩, .int .i64 1, .int .i64 2, .string ⟨#[]⟩] 73 (0, 0)) → Calls Tryz.prog 25 #[.pointer (some ⟨w2.heap.size, 0, none⟩), .agg #[.int .i64 4, .int .i64 0, .int .i64 0, .string ⟨#[]⟩, .string ⟨#[43]⟩, .slice (some ⟨w4.heap.size, 0, none⟩) 2 2], .slice (some ⟨EB, 0, none⟩) 1 1] W (Ends (Xm w2.heap.size (some ⟨w1.heap.size, 0, none⟩) 1 [(⟨#[103]⟩, vI 7)]) W ((vI 9, 0), 7))) := Lib.hid (fun W EB hB hm he => Eval_c XO.out exKn (some ⟨w4.heap.size, 0, none⟩) 2 [(⟨#[120]⟩, vI 2)] (some ⟨EB, 0, none⟩) 1 10 ((vI 9, 0), 7) W kn1 (A5.out.bel XO.out hB) (binds_own (n := 1) he rfl (by show ¬ EB = w2.heap.size; omega)) (EX5.out.bel hB) goodKn (goodB_one _ _ (by unfold okI; omega)))
  have D5 : Hid (Below w5.heap.size w5 w5.drew) := Lib.hid ⟨rfl, rfl, rfl, Nat.le_refl _, fun _ _ => rfl⟩
  have HM := Lib.hid (show w2.heap.size < w5.heap.size by omega)
  have HE4 := Lib.hid (show w4.heap.size + 1 < w5.heap.size by omega)
  have Hne := Lib.hid (show w4.heap.size + 1 ≠ w2.heap.size by omega)
  clear hw2 hw4 hw5 hz2 hz4 hm2 b2 hg2 hk4 b4' hk5 he5 b5 b5w hm5 hg5 s15 hs1 hz5 q1 hg1 b1
  refine wp_region_held_drew (S := (fun W => Keep (fun k => k = w2.heap.size) w5 W ∧ W.cell? ⟨w4.heap.size + 1, 0, none⟩ = some (.int .i64 4) ∧ W.cell? ⟨w4.heap.size + 1, 1, none⟩ = some (.int .i64 0) ∧ W.cell? ⟨w4.heap.size + 1, 2, none⟩ = some (.int .i64 0) ∧ W.cell? ⟨w4.heap.size + 1, 3, none⟩ = some (.string ⟨#[]⟩) ∧ W.cell? ⟨w4.heap.size + 1, 4, none⟩ = some (.string ⟨#[43]⟩) ∧ W.cell? ⟨w4.heap.size + 1, 5, none⟩ = some (.slice (some ⟨w4.heap.size, 0, none⟩) 2 2))) (by kernel_rfl) (HS.out _ (Keep.of_below D5.out _)) (fun hHeld => ?_)
  generalize w5.drew = vv0 at D5 hHeld ⊢
  refine wpAnyH_take (i := 0) (oi := ⟨_, _, _, _, _, _⟩) (v := ?_) rfl (by kernel_rfl) (by kernel_rfl) (by kernel_rfl) (fun _ _ _ h => h) (Or.inl ⟨by rfl, ?_⟩) (by assumption) ?_
  rotate_left
  · intro w' hSw; (try dsimp only at hSw); go_simp; (try with_reducible rfl)
  try simp only [Act.put, List.setIfInBounds_toArray, List.set_cons_zero, List.set_cons_succ]
  refine wpAnyH_take (i := 1) (oi := ⟨_, _, _, _, _, _⟩) (v := ?_) rfl (by kernel_rfl) (by kernel_rfl) (by kernel_rfl) (fun _ _ _ h => h) (Or.inl ⟨by rfl, ?_⟩) (by assumption) ?_
  rotate_left
  · intro w' hSw; (try dsimp only at hSw); go_simp; (try with_reducible rfl)
  try simp only [Act.put, List.setIfInBounds_toArray, List.set_cons_zero, List.set_cons_succ]
  refine wpAnyH_ready (rs := [2, 9]) (by kernel_rfl) (by simp) ?_
  refine AllReadyH.cons (o := ⟨_, _, _, _, _, _⟩) rfl (fun K9 hK9 => ?_) (AllReadyH.cons (o := ⟨_, _, _, _, _, _⟩) rfl (fun K9 hK9 => ?_) (AllReadyH.nil))
  · go_simp
    (with_reducible refine (rInt_c 2 _).mono ?_)
    rintro e vv1 ⟨rfl, q⟩
    have B2 := Lib.hid (D5.out.trans (q.mono D5.out.size))
    clear q
    go_wp2_with fail
    refine hK9.out _ _ (HS.out _ (Keep.of_below B2.out _)) (fun hHeld => ?_)
    clear hK9 K9
    try simp only [Act.put, List.setIfInBounds_toArray, List.set_cons_zero, List.set_cons_succ]
    refine wpAnyH_take (i := 3) (oi := ⟨_, _, _, _, _, _⟩) (v := ?_) rfl (by kernel_rfl) (by kernel_rfl) (by kernel_rfl) (fun _ _ _ h => h) (Or.inl ⟨by rfl, ?_⟩) (by assumption) ?_
    rotate_left
    · intro w' hSw; (try dsimp only at hSw); go_simp; (try with_reducible rfl)
    try simp only [Act.put, List.setIfInBounds_toArray, List.set_cons_zero, List.set_cons_succ]
    refine wpAnyH_ready (rs := [4, 9]) (by kernel_rfl) (by simp) ?_
    refine AllReadyH.cons (o := ⟨_, _, _, _, _, _⟩) rfl (fun K9 hK9 => ?_) (AllReadyH.cons (o := ⟨_, _, _, _, _, _⟩) rfl (fun K9 hK9 => ?_) (AllReadyH.nil))
    · go_simp
      go_wp2_with fail
      have B4 := Lib.hid (B2.out.alloc B2.out.size (.cells #[.string ⟨#[120]⟩, .int .i64 1, .int .i64 2, .string ⟨#[]⟩] 73))
      have E5 := Lib.hid (heap_alloc_new vv1 (.cells #[.string ⟨#[120]⟩, .int .i64 1, .int .i64 2, .string ⟨#[]⟩] 73))
      have lvv3 := B2.out.size
      generalize (vv1).alloc (.cells #[.string ⟨#[120]⟩, .int .i64 1, .int .i64 2, .string ⟨#[]⟩] 73) = vv3 at B4 E5 ⊢
      refine hK9.out _ _ (HS.out _ (Keep.of_below B4.out _)) (fun hHeld => ?_)
      clear hK9 K9
      try simp only [Act.put, List.setIfInBounds_toArray, List.set_cons_zero, List.set_cons_succ]
      refine wpAnyH_ready (rs := [5, 9]) (by kernel_rfl) (by simp) ?_
      refine AllReadyH.cons (o := ⟨_, _, _, _, _, _⟩) rfl (fun K9 hK9 => ?_) (AllReadyH.cons (o := ⟨_, _, _, _, _, _⟩) rfl (fun K9 hK9 => ?_) (AllReadyH.nil))
      · go_simp
        (with_reducible refine (EVL.out _ ((vv1).heap.size) B4.out (by have := HM.out; omega) E5.out).mono ?_)
        rintro e vv6 ⟨rfl, m6, k6⟩
        have K6 := Lib.hid (KM.tr (Keep.of_below B4.out _) k6)
        have M6 := Lib.hid m6
        clear m6 k6
        go_wp2_with fail
        refine hK9.out _ _ (HS.out _ K6.out) (fun hHeld => ?_)
        clear hK9 K9
        try simp only [Act.put, List.setIfInBounds_toArray, List.set_cons_zero, List.set_cons_succ]
        refine wpAnyH_take (i := 6) (oi := ⟨_, _, _, _, _, _⟩) (v := ?_) rfl (by kernel_rfl) (by kernel_rfl) (by kernel_rfl) (fun _ _ _ h => h) (Or.inl ⟨by rfl, ?_⟩) (by assumption) ?_
        rotate_left
        · intro w' hSw; (try dsimp only at hSw); go_simp; (try with_reducible rfl)
        try simp only [Act.put, List.setIfInBounds_toArray, List.set_cons_zero, List.set_cons_succ]
        refine wpAnyH_take (i := 7) (oi := ⟨_, _, _, _, _, _⟩) (v := ?_) rfl (by kernel_rfl) (by kernel_rfl) (by kernel_rfl) (fun _ _ _ h => h) (Or.inl ⟨by rfl, ?_⟩) (by assumption) ?_
        rotate_left
        · intro w' hSw; (try dsimp only at hSw); go_simp; (try with_reducible rfl)
        try simp only [Act.put, List.setIfInBounds_toArray, List.set_cons_zero, List.set_cons_succ]
        refine wpAnyH_take (i := 8) (oi := ⟨_, _, _, _, _, _⟩) (v := ?_) rfl (by kernel_rfl) (by kernel_rfl) (by kernel_rfl) (fun _ _ _ h => h) (Or.inl ⟨by rfl, ?_⟩) (by assumption) ?_
        rotate_left
        · intro w' hSw; (try dsimp only at hSw); go_simp; (try with_reducible rfl)
        try simp only [Act.put, List.setIfInBounds_toArray, List.set_cons_zero, List.set_cons_succ]
        refine wpAnyH_ready (rs := [9]) (by kernel_rfl) (by simp) ?_
        refine AllReadyH.cons (o := ⟨_, _, _, _, _, _⟩) rfl (fun K9 hK9 => ?_) (AllReadyH.nil)
        · go_simp
          go_wp2_with fail
          have K7 := Lib.hid (K6.out.alloc (.cells #[.int .i64 0, .int .i64 0, .string ⟨#[]⟩] 26))
          have X6 := Lib.hid (heap_alloc_new vv6 (.cells #[.int .i64 0, .int .i64 0, .string ⟨#[]⟩] 26))
          have l6 := K6.out.size
          have M7 := Lib.hid (M6.out.below ((Below.refl _ vv6).alloc (Nat.le_refl _) (.cells #[.int .i64 0, .int .i64 0, .string ⟨#[]⟩] 26)))
          generalize (vv6).alloc (.cells #[.int .i64 0, .int .i64 0, .string ⟨#[]⟩] 26) = vv7 at K7 X6 M7 ⊢
          refine hK9.out _ _ (HS.out _ K7.out) (fun hHeld => ?_)
          clear hK9 K9
          try simp only [Act.put, List.setIfInBounds_toArray, List.set_cons_zero, List.set_cons_succ]
          refine wpAnyH_ready (rs := [10]) (by kernel_rfl) (by simp) ?_
          refine AllReadyH.cons (o := ⟨_, _, _, _, _, _⟩) rfl (fun K9 hK9 => ?_) (AllReadyH.nil)
          · have hRS := res3 (X := Xm w2.heap.size (some ⟨w1.heap.size, 0, none⟩) 1 [(⟨#[103]⟩, vI 7)]) (W := w5) (w' := vv7) (rf := 7) ((vv6).heap.size) 26 (by omega) HM.out K7.out M7.out X6.out (.int .i64 1) (.int .i64 9) (.string ⟨#[]⟩)
            obtain ⟨⟨d0, d1, d2⟩, f0, h9⟩ := hRS
            have HP := Lib.hid (show w5.heap.size ≤ (vv6).heap.size by omega)
            have HX9 := Lib.hid (block_set (block_set (block_set X6.out (j := 0) (.int .i64 1)) (j := 1) (.int .i64 9)) (j := 2) (.string ⟨#[]⟩))
            have HPL := Lib.hid (show (vv6).heap.size < (((vv7.setCell ⟨(vv6).heap.size, 0, none⟩ (.int .i64 1)).setCell ⟨(vv6).heap.size, 1, none⟩ (.int .i64 9)).setCell ⟨(vv6).heap.size, 2, none⟩ (.string ⟨#[]⟩)).heap.size by have := (Array.getElem?_eq_some_iff.1 X6.out).1; simpa [World.setCell] using this)
            have H9 := Lib.hid h9
            clear h9
            go_simp
            go_wp2_with fail
            generalize hw9 : (((vv7.setCell ⟨(vv6).heap.size, 0, none⟩ (.int .i64 1)).setCell ⟨(vv6).heap.size, 1, none⟩ (.int .i64 9)).setCell ⟨(vv6).heap.size, 2, none⟩ (.string ⟨#[]⟩)) = w9 at HX9 HPL H9 ⊢
            obtain ⟨k9, m9, q0, q1, q2⟩ := H9.out w9 rfl
            have K9' := Lib.hid k9
            have M9 := Lib.hid m9
            clear k9 m9 hw9 d0 d1 d2 f0
            refine hK9.out _ _ (HS.out _ K9'.out) (fun hHeld => ?_)
            clear hK9 K9
            try simp only [Act.put, List.setIfInBounds_toArray, List.set_cons_zero, List.set_cons_succ]
            refine wpAnyH_take (i := 11) (oi := ⟨_, _, _, _, _, _⟩) (v := ?_) rfl (by kernel_rfl) (by kernel_rfl) (by kernel_rfl) (fun _ _ _ h => h) (Or.inl ⟨by rfl, ?_⟩) (by assumption) ?_
            rotate_left
            · intro w' hSw; (try dsimp only at hSw); go_simp; (try with_reducible rfl)
            try simp only [Act.put, List.setIfInBounds_toArray, List.set_cons_zero, List.set_cons_succ]
            refine wpAnyH_done (by kernel_rfl) ?_ _
            generalize ((vv6).heap.size) = p3 at *
            have A9 := Lib.hid (A5.out.step XO.out K9'.out M9.out (by omega))
            have EV2 : Hid (Calls Tryz.prog 25 #[.pointer (some ⟨w2.heap.size, 0, none⟩), .agg #[.int .i64 4, .int .i64 0, .int .i64 0, .string ⟨#[]⟩, .string ⟨#[43]⟩, .slice (some ⟨w4.heap.size, 0, none⟩) 2 2], .slice none 0 0] w9 (Ends (Xm w2.heap.size (some ⟨w1.heap.size, 0, none⟩) 1 [(⟨#[103]⟩, vI 7)]) w9 ((v0, 7), 5))) := Lib.hid (Eval_c XO.out exKn (some ⟨w4.heap.size, 0, none⟩) 2 [] none 0 7 ((v0, 7), 5) w9 kn2 A9.out (BindsAt.nil _ _ _) (EX5.out.keep K9'.out (fun k e => e)) goodKn ⟨by simp, fun b hb => by cases hb⟩)
            obtain ⟨_, e0, e1, e2, e3, e4, e5⟩ := hHeld
            go_wp2_with fail
            refine EV2.out.mono ?_
            rintro z w10 ⟨rfl, m10, k10⟩
            have X10 := Lib.hid (keepNe HX9.out k10 (by have := HM.out; have := HP.out; show ¬ p3 = w2.heap.size; omega))
            have K10 := Lib.hid (KM.tr K9'.out k10)
            have M10 := Lib.hid m10
            have AL := Lib.hid ((Below.refl w10.heap.size w10).alloc (Nat.le_refl _) (.cells #[.int .i64 0, .int .i64 0, .string ⟨#[]⟩] 26))
            have X11 := Lib.hid (keepB X10.out AL.out)
            have K11 := Lib.hid (KM.bel K10.out AL.out)
            have M11 := Lib.hid (M10.out.below AL.out)
            have A11 := Lib.hid (A5.out.step XO.out K11.out M11.out (by omega))
            have GL := Lib.hid (glob_w w2.heap.size (.slice none 0 0) (some ⟨w1.heap.size, 0, none⟩) 1 5 [(⟨#[103]⟩, vI 7)] ⟨#[103]⟩ (vI 7, true) kn3 (by simp) (w10.alloc (.cells #[.int .i64 0, .int .i64 0, .string ⟨#[]⟩] 26)) M11.out (A11.out.globs.mono (fun _ h => h.elim)))
            clear m10 k10 e0 e1 e2 e3 e4 e5
            go_wp2_with fail
            refine GL.out.mono ?_
            rintro z w12 ⟨rfl, q12⟩
            have b12 := q12.alloc q12.size (.cells #[.int .i64 1, .int .i64 7, .string ⟨#[]⟩] 26)
            have Y13 := Lib.hid (heap_alloc_new w12 (.cells #[.int .i64 1, .int .i64 7, .string ⟨#[]⟩] 26))
            have X13 := Lib.hid (keepB X11.out b12)
            have K13 := Lib.hid (KM.bel K11.out b12)
            have M13 := Lib.hid (M11.out.below b12)
            have L13 := Lib.hid (show w5.heap.size ≤ w12.heap.size from Nat.le_trans K11.out.size q12.size)
            clear b12 q12
            go_wp2_with fail
            generalize w12.alloc (.cells #[.int .i64 1, .int .i64 7, .string ⟨#[]⟩] 26) = w13 at Y13 X13 K13 M13 ⊢
            refine (rInt_c 1 _).mono ?_
            rintro z w14 ⟨rfl, q14⟩
            have Y14 := Lib.hid (keepB Y13.out q14)
            have X14 := Lib.hid (keepB X13.out q14)
            have K14 := Lib.hid (KM.bel K13.out q14)
            have M14 := Lib.hid (M13.out.below q14)
            have A14 := Lib.hid (A5.out.step XO.out K14.out M14.out (by omega))
            clear q14
            have SG := Lib.hid (setGlob_yes w2.heap.size (.slice none 0 0) (some ⟨w1.heap.size, 0, none⟩) 1 5 [(⟨#[103]⟩, vI 7)] ⟨#[103]⟩ (vI 1) (fun h => by cases h) (by simp) w14 M14.out (A14.out.globs.mono (fun _ h => h.elim)) (by rw [kn3]))
            rw [kn4] at SG
            go_wp2_with fail
            refine SG.out.mono ?_
            rintro z w15 ⟨rfl, k15, A', m15, _, _⟩
            have Y15 := Lib.hid (keepNe Y14.out k15 (by have := HM.out; have := L13.out; omega))
            have X15 := Lib.hid (keepNe X14.out k15 (by have := HM.out; have := HP.out; omega))
            have K15 : Hid (Keep (fun k => k = w2.heap.size) w5 w15) := Lib.hid (K14.out.trans k15 (fun _ h => .inl h))
            have M15 := Lib.hid m15
            clear k15 m15
            have y0 := block_cell (j := 0) Y15.out rfl
            have y1 := block_cell (j := 1) Y15.out rfl
            have y2 := block_cell (j := 2) Y15.out rfl
            have PU := Lib.hid (put_c none 0 [] ⟨#[97]⟩ (vI 7) w15 (fun _ => rfl) (BindsAt.nil _ _ _) (by simp))
            rw [kn5] at PU
            go_wp2_with fail
            refine PU.out.mono ?_
            rintro z w16 ⟨A16, rfl, b16, _, q16⟩
            have GE := Lib.hid (get_w A16 1 [(⟨#[97]⟩, vI 7)] ⟨#[97]⟩ (vI 7, true) kn6 (by simp) w16 (b16.mono (fun _ h => h.elim)))
            have Y16 := Lib.hid (keepB Y15.out q16)
            have X16 := Lib.hid (keepB X15.out q16)
            have K16 : Hid (Keep (fun k => k = w2.heap.size) w5 w16) := Lib.hid (K15.out.trans (Keep.of_below q16 (fun _ => False)) (fun _ h => h.elim))
            have M16 := Lib.hid (M15.out.below q16)
            clear b16 q16 y0 y1 y2
            go_wp2_with fail
            refine GE.out.mono ?_
            rintro z w17 ⟨rfl, q17⟩
            have b18 := q17.alloc q17.size (.cells #[.int .i64 1, .int .i64 7, .string ⟨#[]⟩] 26)
            have Z18 := heap_alloc_new w17 (.cells #[.int .i64 1, .int .i64 7, .string ⟨#[]⟩] 26)
            have Y18 := keepB Y16.out b18
            have X18 := keepB X16.out b18
            have K18 : Hid (Keep (fun k => k = w2.heap.size) w5 (w17.alloc (.cells #[.int .i64 1, .int .i64 7, .string ⟨#[]⟩] 26))) := Lib.hid (K16.out.trans (Keep.of_below b18 (fun _ => False)) (fun _ h => h.elim))
            have M18 := M16.out.below b18
            have z1 := block_cell (j := 1) Z18 rfl
            have y1 := block_cell (j := 1) Y18 rfl
            have x1 := block_cell (j := 1) X18 rfl
            have u1 := M18.u
            clear b18 q17 Z18 Y18 X18 M18
            go_wp2_with fail
            go_ret
            exact ⟨rfl, BW5.out.trans (Keep.below K18.out BW5.out.size (fun k e => by have := HW2.out; have := B1.out.size; have e : k = w2.heap.size := e; omega))⟩
      · go_simp
        go_wp2_with fail
        have B9 := Lib.hid (B4.out.alloc B4.out.size (.cells #[.int .i64 0, .int .i64 0, .string ⟨#[]⟩] 26))
        have X10 := Lib.hid (heap_alloc_new vv3 (.cells #[.int .i64 0, .int .i64 0, .string ⟨#[]⟩] 26))
        have lvv8 := B4.out.size
        have E11 := Lib.hid ((Below.heap_alloc vv3 (.cells #[.int .i64 0, .int .i64 0, .string ⟨#[]⟩] 26) _ (Array.getElem?_eq_some_iff.1 E5.out).1).trans E5.out)
        generalize (vv3).alloc (.cells #[.int .i64 0, .int .i64 0, .string ⟨#[]⟩] 26) = vv8 at B9 X10 E11 ⊢
        refine hK9.out _ _ (HS.out _ (Keep.of_below B9.out _)) (fun hHeld => ?_)
        clear hK9 K9
        try simp only [Act.put, List.setIfInBounds_toArray, List.set_cons_zero, List.set_cons_succ]
        refine wpAnyH_ready (rs := [5]) (by kernel_rfl) (by simp) ?_
        refine AllReadyH.cons (o := ⟨_, _, _, _, _, _⟩) rfl (fun K9 hK9 => ?_) (AllReadyH.nil)
        · go_simp
          (with_reducible refine (EVL.out _ ((vv1).heap.size) B9.out (by have := HM.out; omega) E11.out).mono ?_)
          rintro e vv12 ⟨rfl, m6, k6⟩
          have K6 := Lib.hid (KM.tr (Keep.of_below B9.out _) k6)
          have M6 := Lib.hid m6
          have X6 := Lib.hid (keepNe X10.out k6 (by have := HM.out; show ¬ _ = w2.heap.size; omega))
          clear m6 k6
          go_wp2_with fail
          refine hK9.out _ _ (HS.out _ K6.out) (fun hHeld => ?_)
          clear hK9 K9
          try simp only [Act.put, List.setIfInBounds_toArray, List.set_cons_zero, List.set_cons_succ]
          refine wpAnyH_take (i := 6) (oi := ⟨_, _, _, _, _, _⟩) (v := ?_) rfl (by kernel_rfl) (by kernel_rfl) (by kernel_rfl) (fun _ _ _ h => h) (Or.inl ⟨by rfl, ?_⟩) (by assumption) ?_
          rotate_left
          · intro w' hSw; (try dsimp only at hSw); go_simp; (try with_reducible rfl)
          try simp only [Act.put, List.setIfInBounds_toArray, List.set_cons_zero, List.set_cons_succ]
          refine wpAnyH_take (i := 7) (oi := ⟨_, _, _, _, _, _⟩) (v := ?_) rfl (by kernel_rfl) (by kernel_rfl) (by kernel_rfl) (fun _ _ _ h => h) (Or.inl ⟨by rfl, ?_⟩) (by assumption) ?_
          rotate_left
          · intro w' hSw; (try dsimp only at hSw); go_simp; (try with_reducible rfl)
          try simp only [Act.put, List.setIfInBounds_toArray, List.set_cons_zero, List.set_cons_succ]
          refine wpAnyH_take (i := 8) (oi := ⟨_, _, _, _, _, _⟩) (v := ?_) rfl (by kernel_rfl) (by kernel_rfl) (by kernel_rfl) (fun _ _ _ h => h) (Or.inl ⟨by rfl, ?_⟩) (by assumption) ?_
          rotate_left
          · intro w' hSw; (try dsimp only at hSw); go_simp; (try with_reducible rfl)
          try simp only [Act.put, List.setIfInBounds_toArray, List.set_cons_zero, List.set_cons_succ]
          refine wpAnyH_ready (rs := [10]) (by kernel_rfl) (by simp) ?_
          refine AllReadyH.cons (o := ⟨_, _, _, _, _, _⟩) rfl (fun K9 hK9 => ?_) (AllReadyH.nil)
          · have hRS := res3 (X := Xm w2.heap.size (some ⟨w1.heap.size, 0, none⟩) 1 [(⟨#[103]⟩, vI 7)]) (W := w5) (w' := vv12) (rf := 7) ((vv3).heap.size) 26 (by omega) HM.out K6.out M6.out X6.out (.int .i64 1) (.int .i64 9) (.string ⟨#[]⟩)
            obtain ⟨⟨d0, d1, d2⟩, f0, h9⟩ := hRS
            have HP := Lib.hid (show w5.heap.size ≤ (vv3).heap.size by omega)
            have HX9 := Lib.hid (block_set (block_set (block_set X6.out (j := 0) (.int .i64 1)) (j := 1) (.int .i64 9)) (j := 2) (.string ⟨#[]⟩))
            have HPL := Lib.hid (show (vv3).heap.size < (((vv12.setCell ⟨(vv3).heap.size, 0, none⟩ (.int .i64 1)).setCell ⟨(vv3).heap.size, 1, none⟩ (.int .i64 9)).setCell ⟨(vv3).heap.size, 2, none⟩ (.string ⟨#[]⟩)).heap.size by have := (Array.getElem?_eq_some_iff.1 X6.out).1; simpa [World.setCell] using this)
            have H9 := Lib.hid h9
            clear h9
            go_simp
            go_wp2_with fail
            generalize hw9 : (((vv12.setCell ⟨(vv3).heap.size, 0, none⟩ (.int .i64 1)).setCell ⟨(vv3).heap.size, 1, none⟩ (.int .i64 9)).setCell ⟨(vv3).heap.size, 2, none⟩ (.string ⟨#[]⟩)) = w9 at HX9 HPL H9 ⊢
            obtain ⟨k9, m9, q0, q1, q2⟩ := H9.out w9 rfl
            have K9' := Lib.hid k9
            have M9 := Lib.hid m9
            clear k9 m9 hw9 d0 d1 d2 f0
            refine hK9.out _ _ (HS.out _ K9'.out) (fun hHeld => ?_)
            clear hK9 K9
            try simp only [Act.put, List.setIfInBounds_toArray, List.set_cons_zero, List.set_cons_succ]
            refine wpAnyH_take (i := 11) (oi := ⟨_, _, _, _, _, _⟩) (v := ?_) rfl (by kernel_rfl) (by kernel_rfl) (by kernel_rfl) (fun _ _ _ h => h) (Or.inl ⟨by rfl, ?_⟩) (by assumption) ?_
            rotate_left
            · intro w' hSw; (try dsimp only at hSw); go_simp; (try with_reducible rfl)
            try simp only [Act.put, List.setIfInBounds_toArray, List.set_cons_zero, List.set_cons_succ]
            refine wpAnyH_done (by kernel_rfl) ?_ _
            generalize ((vv3).heap.size) = p3 at *
            have A9 := Lib.hid (A5.out.step XO.out K9'.out M9.out (by omega))
            have EV2 : Hid (Calls Tryz.prog 25 #[.pointer (some ⟨w2.heap.size, 0, none⟩), .agg #[.int .i64 4, .int .i64 0, .int .i64 0, .string ⟨#[]⟩, .string ⟨#[43]⟩, .slice (some ⟨w4.heap.size, 0, none⟩) 2 2], .slice none 0 0] w9 (Ends (Xm w2.heap.size (some ⟨w1.heap.size, 0, none⟩) 1 [(⟨#[103]⟩, vI 7)]) w9 ((v0, 7), 5))) := Lib.hid (Eval_c XO.out exKn (some ⟨w4.heap.size, 0, none⟩) 2 [] none 0 7 ((v0, 7), 5) w9 kn2 A9.out (BindsAt.nil _ _ _) (EX5.out.keep K9'.out (fun k e => e)) goodKn ⟨by simp, fun b hb => by cases hb⟩)
            obtain ⟨_, e0, e1, e2, e3, e4, e5⟩ := hHeld
            go_wp2_with fail
            refine EV2.out.mono ?_
            rintro z w10 ⟨rfl, m10, k10⟩
            have X10 := Lib.hid (keepNe HX9.out k10 (by have := HM.out; have := HP.out; show ¬ p3 = w2.heap.size; omega))
            have K10 := Lib.hid (KM.tr K9'.out k10)
            have M10 := Lib.hid m10
            have AL := Lib.hid ((Below.refl w10.heap.size w10).alloc (Nat.le_refl _) (.cells #[.int .i64 0, .int .i64 0, .string ⟨#[]⟩] 26))
            have X11 := Lib.hid (keepB X10.out AL.out)
            have K11 := Lib.hid (KM.bel K10.out AL.out)
            have M11 := Lib.hid (M10.out.below AL.out)
            have A11 := Lib.hid (A5.out.step XO.out K11.out M11.out (by omega))
            have GL := Lib.hid (glob_w w2.heap.size (.slice none 0 0) (some ⟨w1.heap.size, 0, none⟩) 1 5 [(⟨#[103]⟩, vI 7)] ⟨#[103]⟩ (vI 7, true) kn3 (by simp) (w10.alloc (.cells #[.int .i64 0, .int .i64 0, .string ⟨#[]⟩] 26)) M11.out (A11.out.globs.mono (fun _ h => h.elim)))
            clear m10 k10 e0 e1 e2 e3 e4 e5
            go_wp2_with fail
            refine GL.out.mono ?_
            rintro z w12 ⟨rfl, q12⟩
            have b12 := q12.alloc q12.size (.cells #[.int .i64 1, .int .i64 7, .string ⟨#[]⟩] 26)
            have Y13 := Lib.hid (heap_alloc_new w12 (.cells #[.int .i64 1, .int .i64 7, .string ⟨#[]⟩] 26))
            have X13 := Lib.hid (keepB X11.out b12)
            have K13 := Lib.hid (KM.bel K11.out b12)
            have M13 := Lib.hid (M11.out.below b12)
            have L13 := Lib.hid (show w5.heap.size ≤ w12.heap.size from Nat.le_trans K11.out.size q12.size)
            clear b12 q12
            go_wp2_with fail
            generalize w12.alloc (.cells #[.int .i64 1, .int .i64 7, .string ⟨#[]⟩] 26) = w13 at Y13 X13 K13 M13 ⊢
            refine (rInt_c 1 _).mono ?_
            rintro z w14 ⟨rfl, q14⟩
            have Y14 := Lib.hid (keepB Y13.out q14)
            have X14 := Lib.hid (keepB X13.out q14)
            have K14 := Lib.hid (KM.bel K13.out q14)
            have M14 := Lib.hid (M13.out.below q14)
            have A14 := Lib.hid (A5.out.step XO.out K14.out M14.out (by omega))
            clear q14
            have SG := Lib.hid (setGlob_yes w2.heap.size (.slice none 0 0) (some ⟨w1.heap.size, 0, none⟩) 1 5 [(⟨#[103]⟩, vI 7)] ⟨#[103]⟩ (vI 1) (fun h => by cases h) (by simp) w14 M14.out (A14.out.globs.mono (fun _ h => h.elim)) (by rw [kn3]))
            rw [kn4] at SG
            go_wp2_with fail
            refine SG.out.mono ?_
            rintro z w15 ⟨rfl, k15, A', m15, _, _⟩
            have Y15 := Lib.hid (keepNe Y14.out k15 (by have := HM.out; have := L13.out; omega))
            have X15 := Lib.hid (keepNe X14.out k15 (by have := HM.out; have := HP.out; omega))
            have K15 : Hid (Keep (fun k => k = w2.heap.size) w5 w15) := Lib.hid (K14.out.trans k15 (fun _ h => .inl h))
            have M15 := Lib.hid m15
            clear k15 m15
            have y0 := block_cell (j := 0) Y15.out rfl
            have y1 := block_cell (j := 1) Y15.out rfl
            have y2 := block_cell (j := 2) Y15.out rfl
            have PU := Lib.hid (put_c none 0 [] ⟨#[97]⟩ (vI 7) w15 (fun _ => rfl) (BindsAt.nil _ _ _) (by simp))
            rw [kn5] at PU
            go_wp2_with fail
            refine PU.out.mono ?_
            rintro z w16 ⟨A16, rfl, b16, _, q16⟩
            have GE := Lib.hid (get_w A16 1 [(⟨#[97]⟩, vI 7)] ⟨#[97]⟩ (vI 7, true) kn6 (by simp) w16 (b16.mono (fun _ h => h.elim)))
            have Y16 := Lib.hid (keepB Y15.out q16)
            have X16 := Lib.hid (keepB X15.out q16)
            have K16 : Hid (Keep (fun k => k = w2.heap.size) w5 w16) := Lib.hid (K15.out.trans (Keep.of_below q16 (fun _ => False)) (fun _ h => h.elim))
            have M16 := Lib.hid (M15.out.below q16)
            clear b16 q16 y0 y1 y2
            go_wp2_with fail
            refine GE.out.mono ?_
            rintro z w17 ⟨rfl, q17⟩
            have b18 := q17.alloc q17.size (.cells #[.int .i64 1, .int .i64 7, .string ⟨#[]⟩] 26)
            have Z18 := heap_alloc_new w17 (.cells #[.int .i64 1, .int .i64 7, .string ⟨#[]⟩] 26)
            have Y18 := keepB Y16.out b18
            have X18 := keepB X16.out b18
            have K18 : Hid (Keep (fun k => k = w2.heap.size) w5 (w17.alloc (.cells #[.int .i64 1, .int .i64 7, .string ⟨#[]⟩] 26))) := Lib.hid (K16.out.trans (Keep.of_below b18 (fun _ => False)) (fun _ h => h.elim))
            have M18 := M16.out.below b18
            have z1 := block_cell (j := 1) Z18 rfl
            have y1 := block_cell (j := 1) Y18 rfl
            have x1 := block_cell (j := 1) X18 rfl
            have u1 := M18.u
            clear b18 q17 Z18 Y18 X18 M18
            go_wp2_with fail
            go_ret
            exact ⟨rfl, BW5.out.trans (Keep.below K18.out BW5.out.size (fun k e => by have := HW2.out; have := B1.out.size; have e : k = w2.heap.size := e; omega))⟩
    · go_simp
      go_wp2_with fail
      have B14 := Lib.hid (B2.out.alloc B2.out.size (.cells #[.int .i64 0, .int .i64 0, .string ⟨#[]⟩] 26))
      have X15 := Lib.hid (heap_alloc_new vv1 (.cells #[.int .i64 0, .int .i64 0, .string ⟨#[]⟩] 26))
      have lvv13 := B2.out.size
      generalize (vv1).alloc (.cells #[.int .i64 0, .int .i64 0, .string ⟨#[]⟩] 26) = vv13 at B14 X15 ⊢
      refine hK9.out _ _ (HS.out _ (Keep.of_below B14.out _)) (fun hHeld => ?_)
      clear hK9 K9
      try simp only [Act.put, List.setIfInBounds_toArray, List.set_cons_zero, List.set_cons_succ]
      refine wpAnyH_ready (rs := [4]) (by kernel_rfl) (by simp) ?_
      refine AllReadyH.cons (o := ⟨_, _, _, _, _, _⟩) rfl (fun K9 hK9 => ?_) (AllReadyH.nil)
      · go_simp
        go_wp2_with fail
        have B17 := Lib.hid (B14.out.alloc B14.out.size (.cells #[.string ⟨#[120]⟩, .int .i64 1, .int .i64 2, .string ⟨#[]⟩] 73))
        have E18 := Lib.hid (heap_alloc_new vv13 (.cells #[.string ⟨#[120]⟩, .int .i64 1, .int .i64 2, .string ⟨#[]⟩] 73))
        have X19 := Lib.hid ((Below.heap_alloc vv13 (.cells #[.string ⟨#[120]⟩, .int .i64 1, .int .i64 2, .string ⟨#[]⟩] 73) _ (Array.getElem?_eq_some_iff.1 X15.out).1).trans X15.out)
        have lvv16 := B14.out.size
        generalize (vv13).alloc (.cells #[.string ⟨#[120]⟩, .int .i64 1, .int .i64 2, .string ⟨#[]⟩] 73) = vv16 at B17 E18 X19 ⊢
        refine hK9.out _ _ (HS.out _ (Keep.of_below B17.out _)) (fun hHeld => ?_)
        clear hK9 K9
        try simp only [Act.put, List.setIfInBounds_toArray, List.set_cons_zero, List.set_cons_succ]
        refine wpAnyH_ready (rs := [5]) (by kernel_rfl) (by simp) ?_
        refine AllReadyH.cons (o := ⟨_, _, _, _, _, _⟩) rfl (fun K9 hK9 => ?_) (AllReadyH.nil)
        · go_simp
          (with_reducible refine (EVL.out _ ((vv13).heap.size) B17.out (by have := HM.out; omega) E18.out).mono ?_)
          rintro e vv20 ⟨rfl, m6, k6⟩
          have K6 := Lib.hid (KM.tr (Keep.of_below B17.out _) k6)
          have M6 := Lib.hid m6
          have X6 := Lib.hid (keepNe X19.out k6 (by have := HM.out; show ¬ _ = w2.heap.size; omega))
          clear m6 k6
          go_wp2_with fail
          refine hK9.out _ _ (HS.out _ K6.out) (fun hHeld => ?_)
          clear hK9 K9
          try simp only [Act.put, List.setIfInBounds_toArray, List.set_cons_zero, List.set_cons_succ]
          refine wpAnyH_take (i := 6) (oi := ⟨_, _, _, _, _, _⟩) (v := ?_) rfl (by kernel_rfl) (by kernel_rfl) (by kernel_rfl) (fun _ _ _ h => h) (Or.inl ⟨by rfl, ?_⟩) (by assumption) ?_
          rotate_left
          · intro w' hSw; (try dsimp only at hSw); go_simp; (try with_reducible rfl)
          try simp only [Act.put, List.setIfInBounds_toArray, List.set_cons_zero, List.set_cons_succ]
          refine wpAnyH_take (i := 7) (oi := ⟨_, _, _, _, _, _⟩) (v := ?_) rfl (by kernel_rfl) (by kernel_rfl) (by kernel_rfl) (fun _ _ _ h => h) (Or.inl ⟨by rfl, ?_⟩) (by assumption) ?_
          rotate_left
          · intro w' hSw; (try dsimp only at hSw); go_simp; (try with_reducible rfl)
          try simp only [Act.put, List.setIfInBounds_toArray, List.set_cons_zero, List.set_cons_succ]
          refine wpAnyH_take (i := 8) (oi := ⟨_, _, _, _, _, _⟩) (v := ?_) rfl (by kernel_rfl) (by kernel_rfl) (by kernel_rfl) (fun _ _ _ h => h) (Or.inl ⟨by rfl, ?_⟩) (by assumption) ?_
          rotate_left
          · intro w' hSw; (try dsimp only at hSw); go_simp; (try with_reducible rfl)
          try simp only [Act.put, List.setIfInBounds_toArray, List.set_cons_zero, List.set_cons_succ]
          refine wpAnyH_ready (rs := [10]) (by kernel_rfl) (by simp) ?_
          refine AllReadyH.cons (o := ⟨_, _, _, _, _, _⟩) rfl (fun K9 hK9 => ?_) (AllReadyH.nil)
          · have hRS := res3 (X := Xm w2.heap.size (some ⟨w1.heap.size, 0, none⟩) 1 [(⟨#[103]⟩, vI 7)]) (W := w5) (w' := vv20) (rf := 7) ((vv1).heap.size) 26 (by omega) HM.out K6.out M6.out X6.out (.int .i64 1) (.int .i64 9) (.string ⟨#[]⟩)
            obtain ⟨⟨d0, d1, d2⟩, f0, h9⟩ := hRS
            have HP := Lib.hid (show w5.heap.size ≤ (vv1).heap.size by omega)
            have HX9 := Lib.hid (block_set (block_set (block_set X6.out (j := 0) (.int .i64 1)) (j := 1) (.int .i64 9)) (j := 2) (.string ⟨#[]⟩))
            have HPL := Lib.hid (show (vv1).heap.size < (((vv20.setCell ⟨(vv1).heap.size, 0, none⟩ (.int .i64 1)).setCell ⟨(vv1).heap.size, 1, none⟩ (.int .i64 9)).setCell ⟨(vv1).heap.size, 2, none⟩ (.string ⟨#[]⟩)).heap.size by have := (Array.getElem?_eq_some_iff.1 X6.out).1; simpa [World.setCell] using this)
            have H9 := Lib.hid h9
            clear h9
            go_simp
            go_wp2_with fail
            generalize hw9 : (((vv20.setCell ⟨(vv1).heap.size, 0, none⟩ (.int .i64 1)).setCell ⟨(vv1).heap.size, 1, none⟩ (.int .i64 9)).setCell ⟨(vv1).heap.size, 2, none⟩ (.string ⟨#[]⟩)) = w9 at HX9 HPL H9 ⊢
            obtain ⟨k9, m9, q0, q1, q2⟩ := H9.out w9 rfl
            have K9' := Lib.hid k9
            have M9 := Lib.hid m9
            clear k9 m9 hw9 d0 d1 d2 f0
            refine hK9.out _ _ (HS.out _ K9'.out) (fun hHeld => ?_)
            clear hK9 K9
            try simp only [Act.put, List.setIfInBounds_toArray, List.set_cons_zero, List.set_cons_succ]
            refine wpAnyH_take (i := 11) (oi := ⟨_, _, _, _, _, _⟩) (v := ?_) rfl (by kernel_rfl) (by kernel_rfl) (by kernel_rfl) (fun _ _ _ h => h) (Or.inl ⟨by rfl, ?_⟩) (by assumption) ?_
            rotate_left
            · intro w' hSw; (try dsimp only at hSw); go_simp; (try with_reducible rfl)
            try simp only [Act.put, List.setIfInBounds_toArray, List.set_cons_zero, List.set_cons_succ]
            refine wpAnyH_done (by kernel_rfl) ?_ _
            generalize ((vv1).heap.size) = p3 at *
            have A9 := Lib.hid (A5.out.step XO.out K9'.out M9.out (by omega))
            have EV2 : Hid (Calls Tryz.prog 25 #[.pointer (some ⟨w2.heap.size, 0, none⟩), .agg #[.int .i64 4, .int .i64 0, .int .i64 0, .string ⟨#[]⟩, .string ⟨#[43]⟩, .slice (some ⟨w4.heap.size, 0, none⟩) 2 2], .slice none 0 0] w9 (Ends (Xm w2.heap.size (some ⟨w1.heap.size, 0, none⟩) 1 [(⟨#[103]⟩, vI 7)]) w9 ((v0, 7), 5))) := Lib.hid (Eval_c XO.out exKn (some ⟨w4.heap.size, 0, none⟩) 2 [] none 0 7 ((v0, 7), 5) w9 kn2 A9.out (BindsAt.nil _ _ _) (EX5.out.keep K9'.out (fun k e => e)) goodKn ⟨by simp, fun b hb => by cases hb⟩)
            obtain ⟨_, e0, e1, e2, e3, e4, e5⟩ := hHeld
            go_wp2_with fail
            refine EV2.out.mono ?_
            rintro z w10 ⟨rfl, m10, k10⟩
            have X10 := Lib.hid (keepNe HX9.out k10 (by have := HM.out; have := HP.out; show ¬ p3 = w2.heap.size; omega))
            have K10 := Lib.hid (KM.tr K9'.out k10)
            have M10 := Lib.hid m10
            have AL := Lib.hid ((Below.refl w10.heap.size w10).alloc (Nat.le_refl _) (.cells #[.int .i64 0, .int .i64 0, .string ⟨#[]⟩] 26))
            have X11 := Lib.hid (keepB X10.out AL.out)
            have K11 := Lib.hid (KM.bel K10.out AL.out)
            have M11 := Lib.hid (M10.out.below AL.out)
            have A11 := Lib.hid (A5.out.step XO.out K11.out M11.out (by omega))
            have GL := Lib.hid (glob_w w2.heap.size (.slice none 0 0) (some ⟨w1.heap.size, 0, none⟩) 1 5 [(⟨#[103]⟩, vI 7)] ⟨#[103]⟩ (vI 7, true) kn3 (by simp) (w10.alloc (.cells #[.int .i64 0, .int .i64 0, .string ⟨#[]⟩] 26)) M11.out (A11.out.globs.mono (fun _ h => h.elim)))
            clear m10 k10 e0 e1 e2 e3 e4 e5
            go_wp2_with fail
            refine GL.out.mono ?_
            rintro z w12 ⟨rfl, q12⟩
            have b12 := q12.alloc q12.size (.cells #[.int .i64 1, .int .i64 7, .string ⟨#[]⟩] 26)
            have Y13 := Lib.hid (heap_alloc_new w12 (.cells #[.int .i64 1, .int .i64 7, .string ⟨#[]⟩] 26))
            have X13 := Lib.hid (keepB X11.out b12)
            have K13 := Lib.hid (KM.bel K11.out b12)
            have M13 := Lib.hid (M11.out.below b12)
            have L13 := Lib.hid (show w5.heap.size ≤ w12.heap.size from Nat.le_trans K11.out.size q12.size)
            clear b12 q12
            go_wp2_with fail
            generalize w12.alloc (.cells #[.int .i64 1, .int .i64 7, .string ⟨#[]⟩] 26) = w13 at Y13 X13 K13 M13 ⊢
            refine (rInt_c 1 _).mono ?_
            rintro z w14 ⟨rfl, q14⟩
            have Y14 := Lib.hid (keepB Y13.out q14)
            have X14 := Lib.hid (keepB X13.out q14)
            have K14 := Lib.hid (KM.bel K13.out q14)
            have M14 := Lib.hid (M13.out.below q14)
            have A14 := Lib.hid (A5.out.step XO.out K14.out M14.out (by omega))
            clear q14
            have SG := Lib.hid (setGlob_yes w2.heap.size (.slice none 0 0) (some ⟨w1.heap.size, 0, none⟩) 1 5 [(⟨#[103]⟩, vI 7)] ⟨#[103]⟩ (vI 1) (fun h => by cases h) (by simp) w14 M14.out (A14.out.globs.mono (fun _ h => h.elim)) (by rw [kn3]))
            rw [kn4] at SG
            go_wp2_with fail
            refine SG.out.mono ?_
            rintro z w15 ⟨rfl, k15, A', m15, _, _⟩
            have Y15 := Lib.hid (keepNe Y14.out k15 (by have := HM.out; have := L13.out; omega))
            have X15 := Lib.hid (keepNe X14.out k15 (by have := HM.out; have := HP.out; omega))
            have K15 : Hid (Keep (fun k => k = w2.heap.size) w5 w15) := Lib.hid (K14.out.trans k15 (fun _ h => .inl h))
            have M15 := Lib.hid m15
            clear k15 m15
            have y0 := block_cell (j := 0) Y15.out rfl
            have y1 := block_cell (j := 1) Y15.out rfl
            have y2 := block_cell (j := 2) Y15.out rfl
            have PU := Lib.hid (put_c none 0 [] ⟨#[97]⟩ (vI 7) w15 (fun _ => rfl) (BindsAt.nil _ _ _) (by simp))
            rw [kn5] at PU
            go_wp2_with fail
            refine PU.out.mono ?_
            rintro z w16 ⟨A16, rfl, b16, _, q16⟩
            have GE := Lib.hid (get_w A16 1 [(⟨#[97]⟩, vI 7)] ⟨#[97]⟩ (vI 7, true) kn6 (by simp) w16 (b16.mono (fun _ h => h.elim)))
            have Y16 := Lib.hid (keepB Y15.out q16)
            have X16 := Lib.hid (keepB X15.out q16)
            have K16 : Hid (Keep (fun k => k = w2.heap.size) w5 w16) := Lib.hid (K15.out.trans (Keep.of_below q16 (fun _ => False)) (fun _ h => h.elim))
            have M16 := Lib.hid (M15.out.below q16)
            clear b16 q16 y0 y1 y2
            go_wp2_with fail
            refine GE.out.mono ?_
            rintro z w17 ⟨rfl, q17⟩
            have b18 := q17.alloc q17.size (.cells #[.int .i64 1, .int .i64 7, .string ⟨#[]⟩] 26)
            have Z18 := heap_alloc_new w17 (.cells #[.int .i64 1, .int .i64 7, .string ⟨#[]⟩] 26)
            have Y18 := keepB Y16.out b18
            have X18 := keepB X16.out b18
            have K18 : Hid (Keep (fun k => k = w2.heap.size) w5 (w17.alloc (.cells #[.int .i64 1, .int .i64 7, .string ⟨#[]⟩] 26))) := Lib.hid (K16.out.trans (Keep.of_below b18 (fun _ => False)) (fun _ h => h.elim))
            have M18 := M16.out.below b18
            have z1 := block_cell (j := 1) Z18 rfl
            have y1 := block_cell (j := 1) Y18 rfl
            have x1 := block_cell (j := 1) X18 rfl
            have u1 := M18.u
            clear b18 q17 Z18 Y18 X18 M18
            go_wp2_with fail
            go_ret
            exact ⟨rfl, BW5.out.trans (Keep.below K18.out BW5.out.size (fun k e => by have := HW2.out; have := B1.out.size; have e : k = w2.heap.size := e; omega))⟩
  · go_simp
    go_wp2_with fail
    have B22 := Lib.hid (D5.out.alloc D5.out.size (.cells #[.int .i64 0, .int .i64 0, .string ⟨#[]⟩] 26))
    have X23 := Lib.hid (heap_alloc_new vv0 (.cells #[.int .i64 0, .int .i64 0, .string ⟨#[]⟩] 26))
    have lvv21 := D5.out.size
    generalize (vv0).alloc (.cells #[.int .i64 0, .int .i64 0, .string ⟨#[]⟩] 26) = vv21 at B22 X23 ⊢
    refine hK9.out _ _ (HS.out _ (Keep.of_below B22.out _)) (fun hHeld => ?_)
    clear hK9 K9
    try simp only [Act.put, List.setIfInBounds_toArray, List.set_cons_zero, List.set_cons_succ]
    refine wpAnyH_ready (rs := [2]) (by kernel_rfl) (by simp) ?_
    refine AllReadyH.cons (o := ⟨_, _, _, _, _, _⟩) rfl (fun K9 hK9 => ?_) (AllReadyH.nil)
    · go_simp
      (with_reducible refine (rInt_c 2 _).mono ?_)
      rintro e vv24 ⟨rfl, q⟩
      have B25 := Lib.hid (B22.out.trans (q.mono B22.out.size))
      have X26 := Lib.hid (keepB X23.out q)
      clear q
      go_wp2_with fail
      refine hK9.out _ _ (HS.out _ (Keep.of_below B25.out _)) (fun hHeld => ?_)
      clear hK9 K9
      try simp only [Act.put, List.setIfInBounds_toArray, List.set_cons_zero, List.set_cons_succ]
      refine wpAnyH_take (i := 3) (oi := ⟨_, _, _, _, _, _⟩) (v := ?_) rfl (by kernel_rfl) (by kernel_rfl) (by kernel_rfl) (fun _ _ _ h => h) (Or.inl ⟨by rfl, ?_⟩) (by assumption) ?_
      rotate_left
      · intro w' hSw; (try dsimp only at hSw); go_simp; (try with_reducible rfl)
      try simp only [Act.put, List.setIfInBounds_toArray, List.set_cons_zero, List.set_cons_succ]
      refine wpAnyH_ready (rs := [4]) (by kernel_rfl) (by simp) ?_
      refine AllReadyH.cons (o := ⟨_, _, _, _, _, _⟩) rfl (fun K9 hK9 => ?_) (AllReadyH.nil)
      · go_simp
        go_wp2_with fail
        have B28 := Lib.hid (B25.out.alloc B25.out.size (.cells #[.string ⟨#[120]⟩, .int .i64 1, .int .i64 2, .string ⟨#[]⟩] 73))
        have E29 := Lib.hid (heap_alloc_new vv24 (.cells #[.string ⟨#[120]⟩, .int .i64 1, .int .i64 2, .string ⟨#[]⟩] 73))
        have X30 := Lib.hid ((Below.heap_alloc vv24 (.cells #[.string ⟨#[120]⟩, .int .i64 1, .int .i64 2, .string ⟨#[]⟩] 73) _ (Array.getElem?_eq_some_iff.1 X26.out).1).trans X26.out)
        have lvv27 := B25.out.size
        generalize (vv24).alloc (.cells #[.string ⟨#[120]⟩, .int .i64 1, .int .i64 2, .string ⟨#[]⟩] 73) = vv27 at B28 E29 X30 ⊢
        refine hK9.out _ _ (HS.out _ (Keep.of_below B28.out _)) (fun hHeld => ?_)
        clear hK9 K9
        try simp only [Act.put, List.setIfInBounds_toArray, List.set_cons_zero, List.set_cons_succ]
        refine wpAnyH_ready (rs := [5]) (by kernel_rfl) (by simp) ?_
        refine AllReadyH.cons (o := ⟨_, _, _, _, _, _⟩) rfl (fun K9 hK9 => ?_) (AllReadyH.nil)
        · go_simp
          (with_reducible refine (EVL.out _ ((vv24).heap.size) B28.out (by have := HM.out; omega) E29.out).mono ?_)
          rintro e vv31 ⟨rfl, m6, k6⟩
          have K6 := Lib.hid (KM.tr (Keep.of_below B28.out _) k6)
          have M6 := Lib.hid m6
          have X6 := Lib.hid (keepNe X30.out k6 (by have := HM.out; show ¬ _ = w2.heap.size; omega))
          clear m6 k6
          go_wp2_with fail
          refine hK9.out _ _ (HS.out _ K6.out) (fun hHeld => ?_)
          clear hK9 K9
          try simp only [Act.put, List.setIfInBounds_toArray, List.set_cons_zero, List.set_cons_succ]
          refine wpAnyH_take (i := 6) (oi := ⟨_, _, _, _, _, _⟩) (v := ?_) rfl (by kernel_rfl) (by kernel_rfl) (by kernel_rfl) (fun _ _ _ h => h) (Or.inl ⟨by rfl, ?_⟩) (by assumption) ?_
          rotate_left
          · intro w' hSw; (try dsimp only at hSw); go_simp; (try with_reducible rfl)
          try simp only [Act.put, List.setIfInBounds_toArray, List.set_cons_zero, List.set_cons_succ]
          refine wpAnyH_take (i := 7) (oi := ⟨_, _, _, _, _, _⟩) (v := ?_) rfl (by kernel_rfl) (by kernel_rfl) (by kernel_rfl) (fun _ _ _ h => h) (Or.inl ⟨by rfl, ?_⟩) (by assumption) ?_
          rotate_left
          · intro w' hSw; (try dsimp only at hSw); go_simp; (try with_reducible rfl)
          try simp only [Act.put, List.setIfInBounds_toArray, List.set_cons_zero, List.set_cons_succ]
          refine wpAnyH_take (i := 8) (oi := ⟨_, _, _, _, _, _⟩) (v := ?_) rfl (by kernel_rfl) (by kernel_rfl) (by kernel_rfl) (fun _ _ _ h => h) (Or.inl ⟨by rfl, ?_⟩) (by assumption) ?_
          rotate_left
          · intro w' hSw; (try dsimp only at hSw); go_simp; (try with_reducible rfl)
          try simp only [Act.put, List.setIfInBounds_toArray, List.set_cons_zero, List.set_cons_succ]
          refine wpAnyH_ready (rs := [10]) (by kernel_rfl) (by simp) ?_
          refine AllReadyH.cons (o := ⟨_, _, _, _, _, _⟩) rfl (fun K9 hK9 => ?_) (AllReadyH.nil)
          · have hRS := res3 (X := Xm w2.heap.size (some ⟨w1.heap.size, 0, none⟩) 1 [(⟨#[103]⟩, vI 7)]) (W := w5) (w' := vv31) (rf := 7) ((vv0).heap.size) 26 (by omega) HM.out K6.out M6.out X6.out (.int .i64 1) (.int .i64 9) (.string ⟨#[]⟩)
            obtain ⟨⟨d0, d1, d2⟩, f0, h9⟩ := hRS
            have HP := Lib.hid (show w5.heap.size ≤ (vv0).heap.size by omega)
            have HX9 := Lib.hid (block_set (block_set (block_set X6.out (j := 0) (.int .i64 1)) (j := 1) (.int .i64 9)) (j := 2) (.string ⟨#[]⟩))
            have HPL := Lib.hid (show (vv0).heap.size < (((vv31.setCell ⟨(vv0).heap.size, 0, none⟩ (.int .i64 1)).setCell ⟨(vv0).heap.size, 1, none⟩ (.int .i64 9)).setCell ⟨(vv0).heap.size, 2, none⟩ (.string ⟨#[]⟩)).heap.size by have := (Array.getElem?_eq_some_iff.1 X6.out).1; simpa [World.setCell] using this)
            have H9 := Lib.hid h9
            clear h9
            go_simp
            go_wp2_with fail
            generalize hw9 : (((vv31.setCell ⟨(vv0).heap.size, 0, none⟩ (.int .i64 1)).setCell ⟨(vv0).heap.size, 1, none⟩ (.int .i64 9)).setCell ⟨(vv0).heap.size, 2, none⟩ (.string ⟨#[]⟩)) = w9 at HX9 HPL H9 ⊢
            obtain ⟨k9, m9, q0, q1, q2⟩ := H9.out w9 rfl
            have K9' := Lib.hid k9
            have M9 := Lib.hid m9
            clear k9 m9 hw9 d0 d1 d2 f0
            refine hK9.out _ _ (HS.out _ K9'.out) (fun hHeld => ?_)
            clear hK9 K9
            try simp only [Act.put, List.setIfInBounds_toArray, List.set_cons_zero, List.set_cons_succ]
            refine wpAnyH_take (i := 11) (oi := ⟨_, _, _, _, _, _⟩) (v := ?_) rfl (by kernel_rfl) (by kernel_rfl) (by kernel_rfl) (fun _ _ _ h => h) (Or.inl ⟨by rfl, ?_⟩) (by assumption) ?_
            rotate_left
            · intro w' hSw; (try dsimp only at hSw); go_simp; (try with_reducible rfl)
            try simp only [Act.put, List.setIfInBounds_toArray, List.set_cons_zero, List.set_cons_succ]
            refine wpAnyH_done (by kernel_rfl) ?_ _
            generalize ((vv0).heap.size) = p3 at *
            have A9 := Lib.hid (A5.out.step XO.out K9'.out M9.out (by omega))
            have EV2 : Hid (Calls Tryz.prog 25 #[.pointer (some ⟨w2.heap.size, 0, none⟩), .agg #[.int .i64 4, .int .i64 0, .int .i64 0, .string ⟨#[]⟩, .string ⟨#[43]⟩, .slice (some ⟨w4.heap.size, 0, none⟩) 2 2], .slice none 0 0] w9 (Ends (Xm w2.heap.size (some ⟨w1.heap.size, 0, none⟩) 1 [(⟨#[103]⟩, vI 7)]) w9 ((v0, 7), 5))) := Lib.hid (Eval_c XO.out exKn (some ⟨w4.heap.size, 0, none⟩) 2 [] none 0 7 ((v0, 7), 5) w9 kn2 A9.out (BindsAt.nil _ _ _) (EX5.out.keep K9'.out (fun k e => e)) goodKn ⟨by simp, fun b hb => by cases hb⟩)
            obtain ⟨_, e0, e1, e2, e3, e4, e5⟩ := hHeld
            go_wp2_with fail
            refine EV2.out.mono ?_
            rintro z w10 ⟨rfl, m10, k10⟩
            have X10 := Lib.hid (keepNe HX9.out k10 (by have := HM.out; have := HP.out; show ¬ p3 = w2.heap.size; omega))
            have K10 := Lib.hid (KM.tr K9'.out k10)
            have M10 := Lib.hid m10
            have AL := Lib.hid ((Below.refl w10.heap.size w10).alloc (Nat.le_refl _) (.cells #[.int .i64 0, .int .i64 0, .string ⟨#[]⟩] 26))
            have X11 := Lib.hid (keepB X10.out AL.out)
            have K11 := Lib.hid (KM.bel K10.out AL.out)
            have M11 := Lib.hid (M10.out.below AL.out)
            have A11 := Lib.hid (A5.out.step XO.out K11.out M11.out (by omega))
            have GL := Lib.hid (glob_w w2.heap.size (.slice none 0 0) (some ⟨w1.heap.size, 0, none⟩) 1 5 [(⟨#[103]⟩, vI 7)] ⟨#[103]⟩ (vI 7, true) kn3 (by simp) (w10.alloc (.cells #[.int .i64 0, .int .i64 0, .string ⟨#[]⟩] 26)) M11.out (A11.out.globs.mono (fun _ h => h.elim)))
            clear m10 k10 e0 e1 e2 e3 e4 e5
            go_wp2_with fail
            refine GL.out.mono ?_
            rintro z w12 ⟨rfl, q12⟩
            have b12 := q12.alloc q12.size (.cells #[.int .i64 1, .int .i64 7, .string ⟨#[]⟩] 26)
            have Y13 := Lib.hid (heap_alloc_new w12 (.cells #[.int .i64 1, .int .i64 7, .string ⟨#[]⟩] 26))
            have X13 := Lib.hid (keepB X11.out b12)
            have K13 := Lib.hid (KM.bel K11.out b12)
            have M13 := Lib.hid (M11.out.below b12)
            have L13 := Lib.hid (show w5.heap.size ≤ w12.heap.size from Nat.le_trans K11.out.size q12.size)
            clear b12 q12
            go_wp2_with fail
            generalize w12.alloc (.cells #[.int .i64 1, .int .i64 7, .string ⟨#[]⟩] 26) = w13 at Y13 X13 K13 M13 ⊢
            refine (rInt_c 1 _).mono ?_
            rintro z w14 ⟨rfl, q14⟩
            have Y14 := Lib.hid (keepB Y13.out q14)
            have X14 := Lib.hid (keepB X13.out q14)
            have K14 := Lib.hid (KM.bel K13.out q14)
            have M14 := Lib.hid (M13.out.below q14)
            have A14 := Lib.hid (A5.out.step XO.out K14.out M14.out (by omega))
            clear q14
            have SG := Lib.hid (setGlob_yes w2.heap.size (.slice none 0 0) (some ⟨w1.heap.size, 0, none⟩) 1 5 [(⟨#[103]⟩, vI 7)] ⟨#[103]⟩ (vI 1) (fun h => by cases h) (by simp) w14 M14.out (A14.out.globs.mono (fun _ h => h.elim)) (by rw [kn3]))
            rw [kn4] at SG
            go_wp2_with fail
            refine SG.out.mono ?_
            rintro z w15 ⟨rfl, k15, A', m15, _, _⟩
            have Y15 := Lib.hid (keepNe Y14.out k15 (by have := HM.out; have := L13.out; omega))
            have X15 := Lib.hid (keepNe X14.out k15 (by have := HM.out; have := HP.out; omega))
            have K15 : Hid (Keep (fun k => k = w2.heap.size) w5 w15) := Lib.hid (K14.out.trans k15 (fun _ h => .inl h))
            have M15 := Lib.hid m15
            clear k15 m15
            have y0 := block_cell (j := 0) Y15.out rfl
            have y1 := block_cell (j := 1) Y15.out rfl
            have y2 := block_cell (j := 2) Y15.out rfl
            have PU := Lib.hid (put_c none 0 [] ⟨#[97]⟩ (vI 7) w15 (fun _ => rfl) (BindsAt.nil _ _ _) (by simp))
            rw [kn5] at PU
            go_wp2_with fail
            refine PU.out.mono ?_
            rintro z w16 ⟨A16, rfl, b16, _, q16⟩
            have GE := Lib.hid (get_w A16 1 [(⟨#[97]⟩, vI 7)] ⟨#[97]⟩ (vI 7, true) kn6 (by simp) w16 (b16.mono (fun _ h => h.elim)))
            have Y16 := Lib.hid (keepB Y15.out q16)
            have X16 := Lib.hid (keepB X15.out q16)
            have K16 : Hid (Keep (fun k => k = w2.heap.size) w5 w16) := Lib.hid (K15.out.trans (Keep.of_below q16 (fun _ => False)) (fun _ h => h.elim))
            have M16 := Lib.hid (M15.out.below q16)
            clear b16 q16 y0 y1 y2
            go_wp2_with fail
            refine GE.out.mono ?_
            rintro z w17 ⟨rfl, q17⟩
            have b18 := q17.alloc q17.size (.cells #[.int .i64 1, .int .i64 7, .string ⟨#[]⟩] 26)
            have Z18 := heap_alloc_new w17 (.cells #[.int .i64 1, .int .i64 7, .string ⟨#[]⟩] 26)
            have Y18 := keepB Y16.out b18
            have X18 := keepB X16.out b18
            have K18 : Hid (Keep (fun k => k = w2.heap.size) w5 (w17.alloc (.cells #[.int .i64 1, .int .i64 7, .string ⟨#[]⟩] 26))) := Lib.hid (K16.out.trans (Keep.of_below b18 (fun _ => False)) (fun _ h => h.elim))
            have M18 := M16.out.below b18
            have z1 := block_cell (j := 1) Z18 rfl
            have y1 := block_cell (j := 1) Y18 rfl
            have x1 := block_cell (j := 1) X18 rfl
            have u1 := M18.u
            clear b18 q17 Z18 Y18 X18 M18
            go_wp2_with fail
            go_ret
            exact ⟨rfl, BW5.out.trans (Keep.below K18.out BW5.out.size (fun k e => by have := HW2.out; have := B1.out.size; have e : k = w2.heap.size := e; omega))⟩
end Go.Proofs.YtmadnehipagakaaGreatDoor
