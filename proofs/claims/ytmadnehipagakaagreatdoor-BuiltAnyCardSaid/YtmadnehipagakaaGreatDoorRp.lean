/- The reference's Apply: numbers. -/
import Derived.Test.YtmadnehipagakaaGreatDoorRg
import Derived.Test.YtmadnehipagakaaGreatDoorRh
namespace Go.Proofs.YtmadnehipagakaaGreatDoor
open Go.RowKit Go.Lib Go.Sort KP
set_option maxHeartbeats 2000000 in
theorem rapply_mul (A : Option Addr) (c : Nat) (l : List Vl) (w : World) (hA : A = none → c = 0) (hv : ValsAt w A l) (hok : ∀ v ∈ l, okV v) (hl : l.length ≤ 1000000) (hf : fits (arity ⟨#[42]⟩) l.length = true) :
    Calls Tryz.prog 14 #[.string ⟨#[42]⟩, .slice A l.length c] w fun e w' => e = .returned (pairV (applyO ⟨#[42]⟩ l)) ∧ Below w.heap.size w w' := by
  have h0 : Hid (Below w.heap.size w (w.alloc (.cells #[.int .i64 0, .int .i64 0, .string ⟨#[]⟩] 26))) := Lib.hid ((Below.refl _ _).alloc (Nat.le_refl _) _)
  have KN := Lib.hid (fun W => (show knownB ⟨#[42]⟩ = true by decide +kernel) ▸ rknown_c ⟨#[42]⟩ W)
  have FT := Lib.hid (fun W => hf ▸ rfits_c ⟨#[42]⟩ l.length W)
  have CO := Lib.hid (fun W (h : Below w.heap.size w W) => rnum_mul A c l W hA (hv.below h) hok hl hf)
  have hlI : (l.length : Int) ≤ 1000000 := by omega
  clear hA hv hok hf
  generalize applyO ⟨#[42]⟩ l = p at *
  obtain ⟨⟨p1, p2, p3⟩, pe⟩ := p
  unfold pairV at CO ⊢
  dsimp only at CO ⊢
  go_enter Tryz.func14, Tryz.ntmps14
  go_wp2_with fail
  refine (KN.out _).mono ?_
  rintro e w1 ⟨rfl, b1⟩
  have E1 := Lib.hid b1; clear b1
  go_wp2_with fail
  refine (FT.out _).mono ?_
  rintro e w' ⟨rfl, rfl⟩
  go_wp2_with fail
  refine (CO.out _ (h0.out.trans (E1.out.mono h0.out.size))).mono ?_
  rintro e w3 ⟨rfl, b3⟩
  have E3 := Lib.hid (E1.out.trans (b3.mono E1.out.size)); clear b3
  obtain ⟨⟨_, _, _⟩, ⟨_, _, _⟩⟩ := new3g (heap_alloc_new w _) E3.out
  have E4 := Lib.hid (bel_new E3.out)
  go_wp2_with fail
  exact bodyPost_ret (v := .tuple #[Vl.val (p1, p2, p3), .int .i64 pe]) (by simp [results, Tryz.results14, go_sem, *]) rfl ⟨rfl, put3 E4.out⟩
set_option maxHeartbeats 2000000 in
theorem rapply_add (A : Option Addr) (c : Nat) (l : List Vl) (w : World) (hA : A = none → c = 0) (hv : ValsAt w A l) (hok : ∀ v ∈ l, okV v) (hl : l.length ≤ 1000000) (hf : fits (arity ⟨#[43]⟩) l.length = true) :
    Calls Tryz.prog 14 #[.string ⟨#[43]⟩, .slice A l.length c] w fun e w' => e = .returned (pairV (applyO ⟨#[43]⟩ l)) ∧ Below w.heap.size w w' := by
  have h0 : Hid (Below w.heap.size w (w.alloc (.cells #[.int .i64 0, .int .i64 0, .string ⟨#[]⟩] 26))) := Lib.hid ((Below.refl _ _).alloc (Nat.le_refl _) _)
  have KN := Lib.hid (fun W => (show knownB ⟨#[43]⟩ = true by decide +kernel) ▸ rknown_c ⟨#[43]⟩ W)
  have FT := Lib.hid (fun W => hf ▸ rfits_c ⟨#[43]⟩ l.length W)
  have CO := Lib.hid (fun W (h : Below w.heap.size w W) => rnum_add A c l W hA (hv.below h) hok hl hf)
  have hlI : (l.length : Int) ≤ 1000000 := by omega
  clear hA hv hok hf
  generalize applyO ⟨#[43]⟩ l = p at *
  obtain ⟨⟨p1, p2, p3⟩, pe⟩ := p
  unfold pairV at CO ⊢
  dsimp only at CO ⊢
  go_enter Tryz.func14, Tryz.ntmps14
  go_wp2_with fail
  refine (KN.out _).mono ?_
  rintro e w1 ⟨rfl, b1⟩
  have E1 := Lib.hid b1; clear b1
  go_wp2_with fail
  refine (FT.out _).mono ?_
  rintro e w' ⟨rfl, rfl⟩
  go_wp2_with fail
  refine (CO.out _ (h0.out.trans (E1.out.mono h0.out.size))).mono ?_
  rintro e w3 ⟨rfl, b3⟩
  have E3 := Lib.hid (E1.out.trans (b3.mono E1.out.size)); clear b3
  obtain ⟨⟨_, _, _⟩, ⟨_, _, _⟩⟩ := new3g (heap_alloc_new w _) E3.out
  have E4 := Lib.hid (bel_new E3.out)
  go_wp2_with fail
  exact bodyPost_ret (v := .tuple #[Vl.val (p1, p2, p3), .int .i64 pe]) (by simp [results, Tryz.results14, go_sem, *]) rfl ⟨rfl, put3 E4.out⟩
set_option maxHeartbeats 2000000 in
theorem rapply_sub (A : Option Addr) (c : Nat) (l : List Vl) (w : World) (hA : A = none → c = 0) (hv : ValsAt w A l) (hok : ∀ v ∈ l, okV v) (hl : l.length ≤ 1000000) (hf : fits (arity ⟨#[45]⟩) l.length = true) :
    Calls Tryz.prog 14 #[.string ⟨#[45]⟩, .slice A l.length c] w fun e w' => e = .returned (pairV (applyO ⟨#[45]⟩ l)) ∧ Below w.heap.size w w' := by
  have h0 : Hid (Below w.heap.size w (w.alloc (.cells #[.int .i64 0, .int .i64 0, .string ⟨#[]⟩] 26))) := Lib.hid ((Below.refl _ _).alloc (Nat.le_refl _) _)
  have KN := Lib.hid (fun W => (show knownB ⟨#[45]⟩ = true by decide +kernel) ▸ rknown_c ⟨#[45]⟩ W)
  have FT := Lib.hid (fun W => hf ▸ rfits_c ⟨#[45]⟩ l.length W)
  have CO := Lib.hid (fun W (h : Below w.heap.size w W) => rnum_sub A c l W hA (hv.below h) hok hl hf)
  have hlI : (l.length : Int) ≤ 1000000 := by omega
  clear hA hv hok hf
  generalize applyO ⟨#[45]⟩ l = p at *
  obtain ⟨⟨p1, p2, p3⟩, pe⟩ := p
  unfold pairV at CO ⊢
  dsimp only at CO ⊢
  go_enter Tryz.func14, Tryz.ntmps14
  go_wp2_with fail
  refine (KN.out _).mono ?_
  rintro e w1 ⟨rfl, b1⟩
  have E1 := Lib.hid b1; clear b1
  go_wp2_with fail
  refine (FT.out _).mono ?_
  rintro e w' ⟨rfl, rfl⟩
  go_wp2_with fail
  refine (CO.out _ (h0.out.trans (E1.out.mono h0.out.size))).mono ?_
  rintro e w3 ⟨rfl, b3⟩
  have E3 := Lib.hid (E1.out.trans (b3.mono E1.out.size)); clear b3
  obtain ⟨⟨_, _, _⟩, ⟨_, _, _⟩⟩ := new3g (heap_alloc_new w _) E3.out
  have E4 := Lib.hid (bel_new E3.out)
  go_wp2_with fail
  exact bodyPost_ret (v := .tuple #[Vl.val (p1, p2, p3), .int .i64 pe]) (by simp [results, Tryz.results14, go_sem, *]) rfl ⟨rfl, put3 E4.out⟩
set_option maxHeartbeats 2000000 in
theorem rapply_lt (A : Option Addr) (c : Nat) (l : List Vl) (w : World) (hA : A = none → c = 0) (hv : ValsAt w A l) (hok : ∀ v ∈ l, okV v) (hl : l.length ≤ 1000000) (hf : fits (arity ⟨#[60]⟩) l.length = true) :
    Calls Tryz.prog 14 #[.string ⟨#[60]⟩, .slice A l.length c] w fun e w' => e = .returned (pairV (applyO ⟨#[60]⟩ l)) ∧ Below w.heap.size w w' := by
  have h0 : Hid (Below w.heap.size w (w.alloc (.cells #[.int .i64 0, .int .i64 0, .string ⟨#[]⟩] 26))) := Lib.hid ((Below.refl _ _).alloc (Nat.le_refl _) _)
  have KN := Lib.hid (fun W => (show knownB ⟨#[60]⟩ = true by decide +kernel) ▸ rknown_c ⟨#[60]⟩ W)
  have FT := Lib.hid (fun W => hf ▸ rfits_c ⟨#[60]⟩ l.length W)
  have CO := Lib.hid (fun W (h : Below w.heap.size w W) => rnum_lt A c l W hA (hv.below h) hok hl hf)
  have hlI : (l.length : Int) ≤ 1000000 := by omega
  clear hA hv hok hf
  generalize applyO ⟨#[60]⟩ l = p at *
  obtain ⟨⟨p1, p2, p3⟩, pe⟩ := p
  unfold pairV at CO ⊢
  dsimp only at CO ⊢
  go_enter Tryz.func14, Tryz.ntmps14
  go_wp2_with fail
  refine (KN.out _).mono ?_
  rintro e w1 ⟨rfl, b1⟩
  have E1 := Lib.hid b1; clear b1
  go_wp2_with fail
  refine (FT.out _).mono ?_
  rintro e w' ⟨rfl, rfl⟩
  go_wp2_with fail
  refine (CO.out _ (h0.out.trans (E1.out.mono h0.out.size))).mono ?_
  rintro e w3 ⟨rfl, b3⟩
  have E3 := Lib.hid (E1.out.trans (b3.mono E1.out.size)); clear b3
  obtain ⟨⟨_, _, _⟩, ⟨_, _, _⟩⟩ := new3g (heap_alloc_new w _) E3.out
  have E4 := Lib.hid (bel_new E3.out)
  go_wp2_with fail
  exact bodyPost_ret (v := .tuple #[Vl.val (p1, p2, p3), .int .i64 pe]) (by simp [results, Tryz.results14, go_sem, *]) rfl ⟨rfl, put3 E4.out⟩
set_option maxHeartbeats 2000000 in
theorem rapply_le (A : Option Addr) (c : Nat) (l : List Vl) (w : World) (hA : A = none → c = 0) (hv : ValsAt w A l) (hok : ∀ v ∈ l, okV v) (hl : l.length ≤ 1000000) (hf : fits (arity ⟨#[60, 61]⟩) l.length = true) :
    Calls Tryz.prog 14 #[.string ⟨#[60, 61]⟩, .slice A l.length c] w fun e w' => e = .returned (pairV (applyO ⟨#[60, 61]⟩ l)) ∧ Below w.heap.size w w' := by
  have h0 : Hid (Below w.heap.size w (w.alloc (.cells #[.int .i64 0, .int .i64 0, .string ⟨#[]⟩] 26))) := Lib.hid ((Below.refl _ _).alloc (Nat.le_refl _) _)
  have KN := Lib.hid (fun W => (show knownB ⟨#[60, 61]⟩ = true by decide +kernel) ▸ rknown_c ⟨#[60, 61]⟩ W)
  have FT := Lib.hid (fun W => hf ▸ rfits_c ⟨#[60, 61]⟩ l.length W)
  have CO := Lib.hid (fun W (h : Below w.heap.size w W) => rnum_le A c l W hA (hv.below h) hok hl hf)
  have hlI : (l.length : Int) ≤ 1000000 := by omega
  clear hA hv hok hf
  generalize applyO ⟨#[60, 61]⟩ l = p at *
  obtain ⟨⟨p1, p2, p3⟩, pe⟩ := p
  unfold pairV at CO ⊢
  dsimp only at CO ⊢
  go_enter Tryz.func14, Tryz.ntmps14
  go_wp2_with fail
  refine (KN.out _).mono ?_
  rintro e w1 ⟨rfl, b1⟩
  have E1 := Lib.hid b1; clear b1
  go_wp2_with fail
  refine (FT.out _).mono ?_
  rintro e w' ⟨rfl, rfl⟩
  go_wp2_with fail
  refine (CO.out _ (h0.out.trans (E1.out.mono h0.out.size))).mono ?_
  rintro e w3 ⟨rfl, b3⟩
  have E3 := Lib.hid (E1.out.trans (b3.mono E1.out.size)); clear b3
  obtain ⟨⟨_, _, _⟩, ⟨_, _, _⟩⟩ := new3g (heap_alloc_new w _) E3.out
  have E4 := Lib.hid (bel_new E3.out)
  go_wp2_with fail
  exact bodyPost_ret (v := .tuple #[Vl.val (p1, p2, p3), .int .i64 pe]) (by simp [results, Tryz.results14, go_sem, *]) rfl ⟨rfl, put3 E4.out⟩
set_option maxHeartbeats 2000000 in
theorem rapply_ne (A : Option Addr) (c : Nat) (l : List Vl) (w : World) (hA : A = none → c = 0) (hv : ValsAt w A l) (hok : ∀ v ∈ l, okV v) (hl : l.length ≤ 1000000) (hf : fits (arity ⟨#[60, 62]⟩) l.length = true) :
    Calls Tryz.prog 14 #[.string ⟨#[60, 62]⟩, .slice A l.length c] w fun e w' => e = .returned (pairV (applyO ⟨#[60, 62]⟩ l)) ∧ Below w.heap.size w w' := by
  have h0 : Hid (Below w.heap.size w (w.alloc (.cells #[.int .i64 0, .int .i64 0, .string ⟨#[]⟩] 26))) := Lib.hid ((Below.refl _ _).alloc (Nat.le_refl _) _)
  have KN := Lib.hid (fun W => (show knownB ⟨#[60, 62]⟩ = true by decide +kernel) ▸ rknown_c ⟨#[60, 62]⟩ W)
  have FT := Lib.hid (fun W => hf ▸ rfits_c ⟨#[60, 62]⟩ l.length W)
  have CO := Lib.hid (fun W (h : Below w.heap.size w W) => rnum_ne A c l W hA (hv.below h) hok hl hf)
  have hlI : (l.length : Int) ≤ 1000000 := by omega
  clear hA hv hok hf
  generalize applyO ⟨#[60, 62]⟩ l = p at *
  obtain ⟨⟨p1, p2, p3⟩, pe⟩ := p
  unfold pairV at CO ⊢
  dsimp only at CO ⊢
  go_enter Tryz.func14, Tryz.ntmps14
  go_wp2_with fail
  refine (KN.out _).mono ?_
  rintro e w1 ⟨rfl, b1⟩
  have E1 := Lib.hid b1; clear b1
  go_wp2_with fail
  refine (FT.out _).mono ?_
  rintro e w' ⟨rfl, rfl⟩
  go_wp2_with fail
  refine (CO.out _ (h0.out.trans (E1.out.mono h0.out.size))).mono ?_
  rintro e w3 ⟨rfl, b3⟩
  have E3 := Lib.hid (E1.out.trans (b3.mono E1.out.size)); clear b3
  obtain ⟨⟨_, _, _⟩, ⟨_, _, _⟩⟩ := new3g (heap_alloc_new w _) E3.out
  have E4 := Lib.hid (bel_new E3.out)
  go_wp2_with fail
  exact bodyPost_ret (v := .tuple #[Vl.val (p1, p2, p3), .int .i64 pe]) (by simp [results, Tryz.results14, go_sem, *]) rfl ⟨rfl, put3 E4.out⟩
set_option maxHeartbeats 2000000 in
theorem rapply_eq (A : Option Addr) (c : Nat) (l : List Vl) (w : World) (hA : A = none → c = 0) (hv : ValsAt w A l) (hok : ∀ v ∈ l, okV v) (hl : l.length ≤ 1000000) (hf : fits (arity ⟨#[61]⟩) l.length = true) :
    Calls Tryz.prog 14 #[.string ⟨#[61]⟩, .slice A l.length c] w fun e w' => e = .returned (pairV (applyO ⟨#[61]⟩ l)) ∧ Below w.heap.size w w' := by
  have h0 : Hid (Below w.heap.size w (w.alloc (.cells #[.int .i64 0, .int .i64 0, .string ⟨#[]⟩] 26))) := Lib.hid ((Below.refl _ _).alloc (Nat.le_refl _) _)
  have KN := Lib.hid (fun W => (show knownB ⟨#[61]⟩ = true by decide +kernel) ▸ rknown_c ⟨#[61]⟩ W)
  have FT := Lib.hid (fun W => hf ▸ rfits_c ⟨#[61]⟩ l.length W)
  have CO := Lib.hid (fun W (h : Below w.heap.size w W) => rnum_eq A c l W hA (hv.below h) hok hl hf)
  have hlI : (l.length : Int) ≤ 1000000 := by omega
  clear hA hv hok hf
  generalize applyO ⟨#[61]⟩ l = p at *
  obtain ⟨⟨p1, p2, p3⟩, pe⟩ := p
  unfold pairV at CO ⊢
  dsimp only at CO ⊢
  go_enter Tryz.func14, Tryz.ntmps14
  go_wp2_with fail
  refine (KN.out _).mono ?_
  rintro e w1 ⟨rfl, b1⟩
  have E1 := Lib.hid b1; clear b1
  go_wp2_with fail
  refine (FT.out _).mono ?_
  rintro e w' ⟨rfl, rfl⟩
  go_wp2_with fail
  refine (CO.out _ (h0.out.trans (E1.out.mono h0.out.size))).mono ?_
  rintro e w3 ⟨rfl, b3⟩
  have E3 := Lib.hid (E1.out.trans (b3.mono E1.out.size)); clear b3
  obtain ⟨⟨_, _, _⟩, ⟨_, _, _⟩⟩ := new3g (heap_alloc_new w _) E3.out
  have E4 := Lib.hid (bel_new E3.out)
  go_wp2_with fail
  exact bodyPost_ret (v := .tuple #[Vl.val (p1, p2, p3), .int .i64 pe]) (by simp [results, Tryz.results14, go_sem, *]) rfl ⟨rfl, put3 E4.out⟩
set_option maxHeartbeats 2000000 in
theorem rapply_gt (A : Option Addr) (c : Nat) (l : List Vl) (w : World) (hA : A = none → c = 0) (hv : ValsAt w A l) (hok : ∀ v ∈ l, okV v) (hl : l.length ≤ 1000000) (hf : fits (arity ⟨#[62]⟩) l.length = true) :
    Calls Tryz.prog 14 #[.string ⟨#[62]⟩, .slice A l.length c] w fun e w' => e = .returned (pairV (applyO ⟨#[62]⟩ l)) ∧ Below w.heap.size w w' := by
  have h0 : Hid (Below w.heap.size w (w.alloc (.cells #[.int .i64 0, .int .i64 0, .string ⟨#[]⟩] 26))) := Lib.hid ((Below.refl _ _).alloc (Nat.le_refl _) _)
  have KN := Lib.hid (fun W => (show knownB ⟨#[62]⟩ = true by decide +kernel) ▸ rknown_c ⟨#[62]⟩ W)
  have FT := Lib.hid (fun W => hf ▸ rfits_c ⟨#[62]⟩ l.length W)
  have CO := Lib.hid (fun W (h : Below w.heap.size w W) => rnum_gt A c l W hA (hv.below h) hok hl hf)
  have hlI : (l.length : Int) ≤ 1000000 := by omega
  clear hA hv hok hf
  generalize applyO ⟨#[62]⟩ l = p at *
  obtain ⟨⟨p1, p2, p3⟩, pe⟩ := p
  unfold pairV at CO ⊢
  dsimp only at CO ⊢
  go_enter Tryz.func14, Tryz.ntmps14
  go_wp2_with fail
  refine (KN.out _).mono ?_
  rintro e w1 ⟨rfl, b1⟩
  have E1 := Lib.hid b1; clear b1
  go_wp2_with fail
  refine (FT.out _).mono ?_
  rintro e w' ⟨rfl, rfl⟩
  go_wp2_with fail
  refine (CO.out _ (h0.out.trans (E1.out.mono h0.out.size))).mono ?_
  rintro e w3 ⟨rfl, b3⟩
  have E3 := Lib.hid (E1.out.trans (b3.mono E1.out.size)); clear b3
  obtain ⟨⟨_, _, _⟩, ⟨_, _, _⟩⟩ := new3g (heap_alloc_new w _) E3.out
  have E4 := Lib.hid (bel_new E3.out)
  go_wp2_with fail
  exact bodyPost_ret (v := .tuple #[Vl.val (p1, p2, p3), .int .i64 pe]) (by simp [results, Tryz.results14, go_sem, *]) rfl ⟨rfl, put3 E4.out⟩
set_option maxHeartbeats 2000000 in
theorem rapply_ge (A : Option Addr) (c : Nat) (l : List Vl) (w : World) (hA : A = none → c = 0) (hv : ValsAt w A l) (hok : ∀ v ∈ l, okV v) (hl : l.length ≤ 1000000) (hf : fits (arity ⟨#[62, 61]⟩) l.length = true) :
    Calls Tryz.prog 14 #[.string ⟨#[62, 61]⟩, .slice A l.length c] w fun e w' => e = .returned (pairV (applyO ⟨#[62, 61]⟩ l)) ∧ Below w.heap.size w w' := by
  have h0 : Hid (Below w.heap.size w (w.alloc (.cells #[.int .i64 0, .int .i64 0, .string ⟨#[]⟩] 26))) := Lib.hid ((Below.refl _ _).alloc (Nat.le_refl _) _)
  have KN := Lib.hid (fun W => (show knownB ⟨#[62, 61]⟩ = true by decide +kernel) ▸ rknown_c ⟨#[62, 61]⟩ W)
  have FT := Lib.hid (fun W => hf ▸ rfits_c ⟨#[62, 61]⟩ l.length W)
  have CO := Lib.hid (fun W (h : Below w.heap.size w W) => rnum_ge A c l W hA (hv.below h) hok hl hf)
  have hlI : (l.length : Int) ≤ 1000000 := by omega
  clear hA hv hok hf
  generalize applyO ⟨#[62, 61]⟩ l = p at *
  obtain ⟨⟨p1, p2, p3⟩, pe⟩ := p
  unfold pairV at CO ⊢
  dsimp only at CO ⊢
  go_enter Tryz.func14, Tryz.ntmps14
  go_wp2_with fail
  refine (KN.out _).mono ?_
  rintro e w1 ⟨rfl, b1⟩
  have E1 := Lib.hid b1; clear b1
  go_wp2_with fail
  refine (FT.out _).mono ?_
  rintro e w' ⟨rfl, rfl⟩
  go_wp2_with fail
  refine (CO.out _ (h0.out.trans (E1.out.mono h0.out.size))).mono ?_
  rintro e w3 ⟨rfl, b3⟩
  have E3 := Lib.hid (E1.out.trans (b3.mono E1.out.size)); clear b3
  obtain ⟨⟨_, _, _⟩, ⟨_, _, _⟩⟩ := new3g (heap_alloc_new w _) E3.out
  have E4 := Lib.hid (bel_new E3.out)
  go_wp2_with fail
  exact bodyPost_ret (v := .tuple #[Vl.val (p1, p2, p3), .int .i64 pe]) (by simp [results, Tryz.results14, go_sem, *]) rfl ⟨rfl, put3 E4.out⟩
set_option maxHeartbeats 2000000 in
theorem rapply_abs (A : Option Addr) (c : Nat) (l : List Vl) (w : World) (hA : A = none → c = 0) (hv : ValsAt w A l) (hok : ∀ v ∈ l, okV v) (hl : l.length ≤ 1000000) (hf : fits (arity ⟨#[97, 98, 115]⟩) l.length = true) :
    Calls Tryz.prog 14 #[.string ⟨#[97, 98, 115]⟩, .slice A l.length c] w fun e w' => e = .returned (pairV (applyO ⟨#[97, 98, 115]⟩ l)) ∧ Below w.heap.size w w' := by
  have h0 : Hid (Below w.heap.size w (w.alloc (.cells #[.int .i64 0, .int .i64 0, .string ⟨#[]⟩] 26))) := Lib.hid ((Below.refl _ _).alloc (Nat.le_refl _) _)
  have KN := Lib.hid (fun W => (show knownB ⟨#[97, 98, 115]⟩ = true by decide +kernel) ▸ rknown_c ⟨#[97, 98, 115]⟩ W)
  have FT := Lib.hid (fun W => hf ▸ rfits_c ⟨#[97, 98, 115]⟩ l.length W)
  have CO := Lib.hid (fun W (h : Below w.heap.size w W) => rnum_abs A c l W hA (hv.below h) hok hl hf)
  have hlI : (l.length : Int) ≤ 1000000 := by omega
  clear hA hv hok hf
  generalize applyO ⟨#[97, 98, 115]⟩ l = p at *
  obtain ⟨⟨p1, p2, p3⟩, pe⟩ := p
  unfold pairV at CO ⊢
  dsimp only at CO ⊢
  go_enter Tryz.func14, Tryz.ntmps14
  go_wp2_with fail
  refine (KN.out _).mono ?_
  rintro e w1 ⟨rfl, b1⟩
  have E1 := Lib.hid b1; clear b1
  go_wp2_with fail
  refine (FT.out _).mono ?_
  rintro e w' ⟨rfl, rfl⟩
  go_wp2_with fail
  refine (CO.out _ (h0.out.trans (E1.out.mono h0.out.size))).mono ?_
  rintro e w3 ⟨rfl, b3⟩
  have E3 := Lib.hid (E1.out.trans (b3.mono E1.out.size)); clear b3
  obtain ⟨⟨_, _, _⟩, ⟨_, _, _⟩⟩ := new3g (heap_alloc_new w _) E3.out
  have E4 := Lib.hid (bel_new E3.out)
  go_wp2_with fail
  exact bodyPost_ret (v := .tuple #[Vl.val (p1, p2, p3), .int .i64 pe]) (by simp [results, Tryz.results14, go_sem, *]) rfl ⟨rfl, put3 E4.out⟩
set_option maxHeartbeats 2000000 in
theorem rapply_div (A : Option Addr) (c : Nat) (l : List Vl) (w : World) (hA : A = none → c = 0) (hv : ValsAt w A l) (hok : ∀ v ∈ l, okV v) (hl : l.length ≤ 1000000) (hf : fits (arity ⟨#[100, 105, 118]⟩) l.length = true) :
    Calls Tryz.prog 14 #[.string ⟨#[100, 105, 118]⟩, .slice A l.length c] w fun e w' => e = .returned (pairV (applyO ⟨#[100, 105, 118]⟩ l)) ∧ Below w.heap.size w w' := by
  have h0 : Hid (Below w.heap.size w (w.alloc (.cells #[.int .i64 0, .int .i64 0, .string ⟨#[]⟩] 26))) := Lib.hid ((Below.refl _ _).alloc (Nat.le_refl _) _)
  have KN := Lib.hid (fun W => (show knownB ⟨#[100, 105, 118]⟩ = true by decide +kernel) ▸ rknown_c ⟨#[100, 105, 118]⟩ W)
  have FT := Lib.hid (fun W => hf ▸ rfits_c ⟨#[100, 105, 118]⟩ l.length W)
  have CO := Lib.hid (fun W (h : Below w.heap.size w W) => rnum_div A c l W hA (hv.below h) hok hl hf)
  have hlI : (l.length : Int) ≤ 1000000 := by omega
  clear hA hv hok hf
  generalize applyO ⟨#[100, 105, 118]⟩ l = p at *
  obtain ⟨⟨p1, p2, p3⟩, pe⟩ := p
  unfold pairV at CO ⊢
  dsimp only at CO ⊢
  go_enter Tryz.func14, Tryz.ntmps14
  go_wp2_with fail
  refine (KN.out _).mono ?_
  rintro e w1 ⟨rfl, b1⟩
  have E1 := Lib.hid b1; clear b1
  go_wp2_with fail
  refine (FT.out _).mono ?_
  rintro e w' ⟨rfl, rfl⟩
  go_wp2_with fail
  refine (CO.out _ (h0.out.trans (E1.out.mono h0.out.size))).mono ?_
  rintro e w3 ⟨rfl, b3⟩
  have E3 := Lib.hid (E1.out.trans (b3.mono E1.out.size)); clear b3
  obtain ⟨⟨_, _, _⟩, ⟨_, _, _⟩⟩ := new3g (heap_alloc_new w _) E3.out
  have E4 := Lib.hid (bel_new E3.out)
  go_wp2_with fail
  exact bodyPost_ret (v := .tuple #[Vl.val (p1, p2, p3), .int .i64 pe]) (by simp [results, Tryz.results14, go_sem, *]) rfl ⟨rfl, put3 E4.out⟩
set_option maxHeartbeats 2000000 in
theorem rapply_max (A : Option Addr) (c : Nat) (l : List Vl) (w : World) (hA : A = none → c = 0) (hv : ValsAt w A l) (hok : ∀ v ∈ l, okV v) (hl : l.length ≤ 1000000) (hf : fits (arity ⟨#[109, 97, 120]⟩) l.length = true) :
    Calls Tryz.prog 14 #[.string ⟨#[109, 97, 120]⟩, .slice A l.length c] w fun e w' => e = .returned (pairV (applyO ⟨#[109, 97, 120]⟩ l)) ∧ Below w.heap.size w w' := by
  have h0 : Hid (Below w.heap.size w (w.alloc (.cells #[.int .i64 0, .int .i64 0, .string ⟨#[]⟩] 26))) := Lib.hid ((Below.refl _ _).alloc (Nat.le_refl _) _)
  have KN := Lib.hid (fun W => (show knownB ⟨#[109, 97, 120]⟩ = true by decide +kernel) ▸ rknown_c ⟨#[109, 97, 120]⟩ W)
  have FT := Lib.hid (fun W => hf ▸ rfits_c ⟨#[109, 97, 120]⟩ l.length W)
  have CO := Lib.hid (fun W (h : Below w.heap.size w W) => rnum_max A c l W hA (hv.below h) hok hl hf)
  have hlI : (l.length : Int) ≤ 1000000 := by omega
  clear hA hv hok hf
  generalize applyO ⟨#[109, 97, 120]⟩ l = p at *
  obtain ⟨⟨p1, p2, p3⟩, pe⟩ := p
  unfold pairV at CO ⊢
  dsimp only at CO ⊢
  go_enter Tryz.func14, Tryz.ntmps14
  go_wp2_with fail
  refine (KN.out _).mono ?_
  rintro e w1 ⟨rfl, b1⟩
  have E1 := Lib.hid b1; clear b1
  go_wp2_with fail
  refine (FT.out _).mono ?_
  rintro e w' ⟨rfl, rfl⟩
  go_wp2_with fail
  refine (CO.out _ (h0.out.trans (E1.out.mono h0.out.size))).mono ?_
  rintro e w3 ⟨rfl, b3⟩
  have E3 := Lib.hid (E1.out.trans (b3.mono E1.out.size)); clear b3
  obtain ⟨⟨_, _, _⟩, ⟨_, _, _⟩⟩ := new3g (heap_alloc_new w _) E3.out
  have E4 := Lib.hid (bel_new E3.out)
  go_wp2_with fail
  exact bodyPost_ret (v := .tuple #[Vl.val (p1, p2, p3), .int .i64 pe]) (by simp [results, Tryz.results14, go_sem, *]) rfl ⟨rfl, put3 E4.out⟩
set_option maxHeartbeats 2000000 in
theorem rapply_min (A : Option Addr) (c : Nat) (l : List Vl) (w : World) (hA : A = none → c = 0) (hv : ValsAt w A l) (hok : ∀ v ∈ l, okV v) (hl : l.length ≤ 1000000) (hf : fits (arity ⟨#[109, 105, 110]⟩) l.length = true) :
    Calls Tryz.prog 14 #[.string ⟨#[109, 105, 110]⟩, .slice A l.length c] w fun e w' => e = .returned (pairV (applyO ⟨#[109, 105, 110]⟩ l)) ∧ Below w.heap.size w w' := by
  have h0 : Hid (Below w.heap.size w (w.alloc (.cells #[.int .i64 0, .int .i64 0, .string ⟨#[]⟩] 26))) := Lib.hid ((Below.refl _ _).alloc (Nat.le_refl _) _)
  have KN := Lib.hid (fun W => (show knownB ⟨#[109, 105, 110]⟩ = true by decide +kernel) ▸ rknown_c ⟨#[109, 105, 110]⟩ W)
  have FT := Lib.hid (fun W => hf ▸ rfits_c ⟨#[109, 105, 110]⟩ l.length W)
  have CO := Lib.hid (fun W (h : Below w.heap.size w W) => rnum_min A c l W hA (hv.below h) hok hl hf)
  have hlI : (l.length : Int) ≤ 1000000 := by omega
  clear hA hv hok hf
  generalize applyO ⟨#[109, 105, 110]⟩ l = p at *
  obtain ⟨⟨p1, p2, p3⟩, pe⟩ := p
  unfold pairV at CO ⊢
  dsimp only at CO ⊢
  go_enter Tryz.func14, Tryz.ntmps14
  go_wp2_with fail
  refine (KN.out _).mono ?_
  rintro e w1 ⟨rfl, b1⟩
  have E1 := Lib.hid b1; clear b1
  go_wp2_with fail
  refine (FT.out _).mono ?_
  rintro e w' ⟨rfl, rfl⟩
  go_wp2_with fail
  refine (CO.out _ (h0.out.trans (E1.out.mono h0.out.size))).mono ?_
  rintro e w3 ⟨rfl, b3⟩
  have E3 := Lib.hid (E1.out.trans (b3.mono E1.out.size)); clear b3
  obtain ⟨⟨_, _, _⟩, ⟨_, _, _⟩⟩ := new3g (heap_alloc_new w _) E3.out
  have E4 := Lib.hid (bel_new E3.out)
  go_wp2_with fail
  exact bodyPost_ret (v := .tuple #[Vl.val (p1, p2, p3), .int .i64 pe]) (by simp [results, Tryz.results14, go_sem, *]) rfl ⟨rfl, put3 E4.out⟩
set_option maxHeartbeats 2000000 in
theorem rapply_mod (A : Option Addr) (c : Nat) (l : List Vl) (w : World) (hA : A = none → c = 0) (hv : ValsAt w A l) (hok : ∀ v ∈ l, okV v) (hl : l.length ≤ 1000000) (hf : fits (arity ⟨#[109, 111, 100]⟩) l.length = true) :
    Calls Tryz.prog 14 #[.string ⟨#[109, 111, 100]⟩, .slice A l.length c] w fun e w' => e = .returned (pairV (applyO ⟨#[109, 111, 100]⟩ l)) ∧ Below w.heap.size w w' := by
  have h0 : Hid (Below w.heap.size w (w.alloc (.cells #[.int .i64 0, .int .i64 0, .string ⟨#[]⟩] 26))) := Lib.hid ((Below.refl _ _).alloc (Nat.le_refl _) _)
  have KN := Lib.hid (fun W => (show knownB ⟨#[109, 111, 100]⟩ = true by decide +kernel) ▸ rknown_c ⟨#[109, 111, 100]⟩ W)
  have FT := Lib.hid (fun W => hf ▸ rfits_c ⟨#[109, 111, 100]⟩ l.length W)
  have CO := Lib.hid (fun W (h : Below w.heap.size w W) => rnum_mod A c l W hA (hv.below h) hok hl hf)
  have hlI : (l.length : Int) ≤ 1000000 := by omega
  clear hA hv hok hf
  generalize applyO ⟨#[109, 111, 100]⟩ l = p at *
  obtain ⟨⟨p1, p2, p3⟩, pe⟩ := p
  unfold pairV at CO ⊢
  dsimp only at CO ⊢
  go_enter Tryz.func14, Tryz.ntmps14
  go_wp2_with fail
  refine (KN.out _).mono ?_
  rintro e w1 ⟨rfl, b1⟩
  have E1 := Lib.hid b1; clear b1
  go_wp2_with fail
  refine (FT.out _).mono ?_
  rintro e w' ⟨rfl, rfl⟩
  go_wp2_with fail
  refine (CO.out _ (h0.out.trans (E1.out.mono h0.out.size))).mono ?_
  rintro e w3 ⟨rfl, b3⟩
  have E3 := Lib.hid (E1.out.trans (b3.mono E1.out.size)); clear b3
  obtain ⟨⟨_, _, _⟩, ⟨_, _, _⟩⟩ := new3g (heap_alloc_new w _) E3.out
  have E4 := Lib.hid (bel_new E3.out)
  go_wp2_with fail
  exact bodyPost_ret (v := .tuple #[Vl.val (p1, p2, p3), .int .i64 pe]) (by simp [results, Tryz.results14, go_sem, *]) rfl ⟨rfl, put3 E4.out⟩
end Go.Proofs.YtmadnehipagakaaGreatDoor
