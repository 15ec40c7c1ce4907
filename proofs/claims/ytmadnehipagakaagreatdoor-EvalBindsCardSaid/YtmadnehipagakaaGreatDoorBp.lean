/- built.Apply, plainly; its errors and the names of values. -/
import Derived.Test.YtmadnehipagakaaGreatDoorBo
namespace Go.Proofs.YtmadnehipagakaaGreatDoor
open Go.RowKit Go.Lib Go.Sort KP
def code (s : ByteArray) : Nat := namB.idxOf s
def allInt (l : List Vl) : Bool := l.all fun v => decide (v.1 = 1)
def outP (o : Option Int) : Vl × Int := (outV o, rE o)
/-- Do all neighbours hold? -/
def chainB (p : Int → Int → Bool) : List Int → Bool
  | a :: b :: l => p a b && chainB p (b :: l)
  | _ => true
def numN : Nat → List Int → Vl × Int
  | 0, l => outP (foldO mulO 1 l)
  | 1, l => outP (foldO addO 0 l)
  | 2, l => if l.length ≤ 1 then outP (foldO subO 0 l) else outP (foldO subO (l.headD 0) l.tail)
  | 3, l => (vB (chainB (fun a b => decide (a < b)) l), 0)
  | 4, l => (vB (chainB (fun a b => decide (a ≤ b)) l), 0)
  | 5, l => (vB (chainB (fun a b => decide (a ≠ b)) l), 0)
  | 6, l => (vB (chainB (fun a b => decide (a = b)) l), 0)
  | 7, l => (vB (chainB (fun a b => decide (b < a)) l), 0)
  | 8, l => (vB (chainB (fun a b => decide (b ≤ a)) l), 0)
  | 9, l => if 0 ≤ l.headD 0 then (vI (l.headD 0), 0) else outP (foldO subO 0 l)
  | 10, l => outP (foldO divO (l.headD 0) l.tail)
  | 13, l => (vI (maxL (l.headD 0) l.tail), 0)
  | 14, l => (vI (minL (l.headD 0) l.tail), 0)
  | 15, l => outP (foldO modO (l.headD 0) l.tail)
  | _, _ => (v0, 0)
def symCat (l : List Vl) : Vl × Int := if (joinO l 40).2 ≠ 0 then (v0, (joinO l 40).2) else if rightB (vS (joinO l 40).1) then (vS (joinO l 40).1, 0) else (v0, 2)
def strCat (l : List Vl) : Vl × Int := if (joinO l 1000).2 ≠ 0 then (v0, (joinO l 1000).2) else (vT (joinO l 1000).1, 0)
def applyN : Nat → List Vl → Vl × Int
  | 11, l => (vB (decide (l.headD v0 = l.tail.headD v0)), 0)
  | 16, l => (vB (!decide (l.headD v0 = l.tail.headD v0)), 0)
  | 17, l => (vB (!trueB (l.headD v0)), 0)
  | 12, l => if (l.headD v0).1 ≠ 3 then (v0, 8) else (vI (l.headD v0).2.2.size, 0)
  | 20, l => (vS (typeS (l.headD v0).1), 0)
  | 19, l => symCat l
  | 18, l => strCat l
  | k, l => if allInt l then numN k (nums l) else (v0, 8)
def fits (p : Int × Int) (n : Nat) : Bool := !(decide ((n : Int) < p.1) || (!decide (p.2 = -1) && decide (p.2 < (n : Int))))
/-- What is answered. -/
def applyO (s : ByteArray) (l : List Vl) : Vl × Int := if knownB s = false then (v0, 5) else if fits (arity s) l.length = false then (v0, 1) else applyN (code s) l
abbrev pairV (p : Vl × Int) : Value := .tuple #[Vl.val p.1, .int .i64 p.2]
theorem known_no {s : ByteArray} (h : s ∉ namB) : knownB s = false := by
  unfold knownB
  cases e : Lib.containsS namB s with
  | false => rfl
  | true => exact absurd ((Lib.containsS_iff _ _).1 e) h
theorem known_yes {s : ByteArray} (h : s ∈ namB) : knownB s = true := (Lib.containsS_iff _ _).2 h
theorem known_w (s : ByteArray) (b : Bool) (h : knownB s = b) (W : World) : Calls Tryz.prog 18 #[.string s] W fun e w' => e = .returned (.bool b) ∧ Below W.heap.size W w' := by
  rw [← h]; exact known_c s W
set_option maxHeartbeats 1000000 in
theorem apply_unknown (s : ByteArray) (h : s ∉ namB) (A : Option Addr) (n c : Nat) (w : World) :
    Calls Tryz.prog 13 #[.string s, .slice A n c] w fun e w' => e = .returned (pairV (v0, 5)) ∧ Below w.heap.size w w' := by
  have h0 : Hid (Below w.heap.size w (w.alloc (.cells #[.int .i64 0, .int .i64 0, .string ⟨#[]⟩] 26))) := Lib.hid ((Below.refl _ _).alloc (Nat.le_refl _) _)
  have KN := Lib.hid (known_w s false (known_no h))
  clear h
  go_enter Tryz.func13, Tryz.ntmps13
  go_wp2_with fail
  refine (arity_c s _).mono ?_
  rintro e w' ⟨rfl, rfl⟩
  go_wp2_with fail
  refine (KN.out _).mono ?_
  rintro e w1 ⟨rfl, b1⟩
  have E1 := Lib.hid (h0.out.trans (b1.mono h0.out.size))
  obtain ⟨⟨_, _, _⟩, ⟨_, _, _⟩⟩ := new3g (heap_alloc_new w _) b1
  clear b1
  go_wp2_with fail
  exact bodyPost_ret (v := pairV (v0, 5)) (by simp [results, Tryz.results13, go_sem, *]) rfl ⟨rfl, put3 E1.out⟩
theorem fits_no {p : Int × Int} {n : Nat} (h : fits p n = false) : (n : Int) < p.1 ∨ (p.1 ≤ n ∧ (p.2 != -1) = true ∧ p.2 < n) := by
  unfold fits at h
  simp at h
  by_cases h2 : (n : Int) < p.1
  · exact .inl h2
  · have h3 := h (by omega)
    exact .inr ⟨by omega, by simpa using h3.1, h3.2⟩
set_option maxHeartbeats 1000000 in
theorem apply_args (s : ByteArray) (h : s ∈ namB) (A : Option Addr) (n c : Nat) (hf : fits (arity s) n = false) (w : World) :
    Calls Tryz.prog 13 #[.string s, .slice A n c] w fun e w' => e = .returned (pairV (v0, 1)) ∧ Below w.heap.size w w' := by
  have h0 : Hid (Below w.heap.size w (w.alloc (.cells #[.int .i64 0, .int .i64 0, .string ⟨#[]⟩] 26))) := Lib.hid ((Below.refl _ _).alloc (Nat.le_refl _) _)
  have KN := Lib.hid (known_w s true (known_yes h))
  have AC := Lib.hid (arity_c s)
  have hf' := fits_no hf
  clear h hf
  generalize arity s = p at *
  obtain ⟨lo, hi⟩ := p
  dsimp only at hf' AC
  rcases hf' with h1 | ⟨h1, h2, h3⟩
  all_goals
    go_enter Tryz.func13, Tryz.ntmps13
    go_wp2_with fail
    refine (AC.out _).mono ?_
    rintro e w' ⟨rfl, rfl⟩
    go_wp2_with fail
    refine (KN.out _).mono ?_
    rintro e w1 ⟨rfl, b1⟩
    have E1 := Lib.hid (h0.out.trans (b1.mono h0.out.size))
    obtain ⟨⟨_, _, _⟩, ⟨_, _, _⟩⟩ := new3g (heap_alloc_new w _) b1
    clear b1
    go_wp2_with fail
    exact bodyPost_ret (v := pairV (v0, 1)) (by simp [results, Tryz.results13, go_sem, *]) rfl ⟨rfl, put3 E1.out⟩
set_option maxHeartbeats 1000000 in
theorem apply_eq (A : Option Addr) (c : Nat) (a b : Vl) (w : World) (hv : ValsAt w A [a, b]) :
    Calls Tryz.prog 13 #[.string ⟨#[101, 113]⟩, .slice A 2 c] w fun e w' => e = .returned (pairV (vB (decide (a = b)), 0)) ∧ Below w.heap.size w w' := by
  have C := Lib.hid (fun W (h : Below w.heap.size w W) => one_eq A c a b W (hv.below h))
  clear hv
  have h0 : Hid (Below w.heap.size w (w.alloc (.cells #[.int .i64 0, .int .i64 0, .string ⟨#[]⟩] 26))) := Lib.hid ((Below.refl _ _).alloc (Nat.le_refl _) _)
  have KN := Lib.hid (known_w ⟨#[101, 113]⟩ true (by decide +kernel))
  go_enter Tryz.func13, Tryz.ntmps13
  go_wp2_with fail
  refine (arity_11 _).mono ?_
  rintro e w' ⟨rfl, rfl⟩
  go_wp2_with fail
  refine (KN.out _).mono ?_
  rintro e w1 ⟨rfl, b1⟩
  have E1 := Lib.hid (h0.out.trans (b1.mono h0.out.size))
  have BLK := Lib.hid ((b1.block w.heap.size (by simp)).trans (heap_alloc_new w (.cells #[.int .i64 0, .int .i64 0, .string ⟨#[]⟩] 26)))
  clear b1
  go_wp2_with fail
  refine (C.out _ E1.out).mono ?_
  rintro e w2 ⟨rfl, b2⟩
  have E2 := Lib.hid (E1.out.trans (b2.mono E1.out.size))
  obtain ⟨⟨_, _, _⟩, ⟨_, _, _⟩⟩ := new3g BLK.out b2
  clear b2
  go_wp2_with fail
  exact bodyPost_ret (v := pairV (vB (decide (a = b)), 0)) (by simp [results, Tryz.results13, go_sem, *]) rfl ⟨rfl, put3 E2.out⟩
set_option maxHeartbeats 1000000 in
theorem apply_neq (A : Option Addr) (c : Nat) (a b : Vl) (w : World) (hv : ValsAt w A [a, b]) :
    Calls Tryz.prog 13 #[.string ⟨#[110, 101, 113]⟩, .slice A 2 c] w fun e w' => e = .returned (pairV (vB (!decide (a = b)), 0)) ∧ Below w.heap.size w w' := by
  have C := Lib.hid (fun W (h : Below w.heap.size w W) => one_neq A c a b W (hv.below h))
  clear hv
  have h0 : Hid (Below w.heap.size w (w.alloc (.cells #[.int .i64 0, .int .i64 0, .string ⟨#[]⟩] 26))) := Lib.hid ((Below.refl _ _).alloc (Nat.le_refl _) _)
  have KN := Lib.hid (known_w ⟨#[110, 101, 113]⟩ true (by decide +kernel))
  go_enter Tryz.func13, Tryz.ntmps13
  go_wp2_with fail
  refine (arity_16 _).mono ?_
  rintro e w' ⟨rfl, rfl⟩
  go_wp2_with fail
  refine (KN.out _).mono ?_
  rintro e w1 ⟨rfl, b1⟩
  have E1 := Lib.hid (h0.out.trans (b1.mono h0.out.size))
  have BLK := Lib.hid ((b1.block w.heap.size (by simp)).trans (heap_alloc_new w (.cells #[.int .i64 0, .int .i64 0, .string ⟨#[]⟩] 26)))
  clear b1
  go_wp2_with fail
  refine (C.out _ E1.out).mono ?_
  rintro e w2 ⟨rfl, b2⟩
  have E2 := Lib.hid (E1.out.trans (b2.mono E1.out.size))
  obtain ⟨⟨_, _, _⟩, ⟨_, _, _⟩⟩ := new3g BLK.out b2
  clear b2
  go_wp2_with fail
  exact bodyPost_ret (v := pairV (vB (!decide (a = b)), 0)) (by simp [results, Tryz.results13, go_sem, *]) rfl ⟨rfl, put3 E2.out⟩
set_option maxHeartbeats 1000000 in
theorem apply_not (A : Option Addr) (c : Nat) (a : Vl) (w : World) (hv : ValsAt w A [a]) :
    Calls Tryz.prog 13 #[.string ⟨#[110, 111, 116]⟩, .slice A 1 c] w fun e w' => e = .returned (pairV (vB (!trueB a), 0)) ∧ Below w.heap.size w w' := by
  have C := Lib.hid (fun W (h : Below w.heap.size w W) => one_not A c a W (hv.below h))
  clear hv
  have h0 : Hid (Below w.heap.size w (w.alloc (.cells #[.int .i64 0, .int .i64 0, .string ⟨#[]⟩] 26))) := Lib.hid ((Below.refl _ _).alloc (Nat.le_refl _) _)
  have KN := Lib.hid (known_w ⟨#[110, 111, 116]⟩ true (by decide +kernel))
  go_enter Tryz.func13, Tryz.ntmps13
  go_wp2_with fail
  refine (arity_17 _).mono ?_
  rintro e w' ⟨rfl, rfl⟩
  go_wp2_with fail
  refine (KN.out _).mono ?_
  rintro e w1 ⟨rfl, b1⟩
  have E1 := Lib.hid (h0.out.trans (b1.mono h0.out.size))
  have BLK := Lib.hid ((b1.block w.heap.size (by simp)).trans (heap_alloc_new w (.cells #[.int .i64 0, .int .i64 0, .string ⟨#[]⟩] 26)))
  clear b1
  go_wp2_with fail
  refine (C.out _ E1.out).mono ?_
  rintro e w2 ⟨rfl, b2⟩
  have E2 := Lib.hid (E1.out.trans (b2.mono E1.out.size))
  obtain ⟨⟨_, _, _⟩, ⟨_, _, _⟩⟩ := new3g BLK.out b2
  clear b2
  go_wp2_with fail
  exact bodyPost_ret (v := pairV (vB (!trueB a), 0)) (by simp [results, Tryz.results13, go_sem, *]) rfl ⟨rfl, put3 E2.out⟩
set_option maxHeartbeats 1000000 in
theorem apply_len1 (A : Option Addr) (c : Nat) (a : Vl) (w : World) (hv : ValsAt w A [a]) (h3 : a.1 ≠ 3) :
    Calls Tryz.prog 13 #[.string ⟨#[108, 101, 110, 103, 116, 104]⟩, .slice A 1 c] w fun e w' => e = .returned (pairV (v0, 8)) ∧ Below w.heap.size w w' := by
  have C := Lib.hid (fun W (h : Below w.heap.size w W) => one_len1 A c a W (hv.below h) h3)
  clear hv h3
  have h0 : Hid (Below w.heap.size w (w.alloc (.cells #[.int .i64 0, .int .i64 0, .string ⟨#[]⟩] 26))) := Lib.hid ((Below.refl _ _).alloc (Nat.le_refl _) _)
  have KN := Lib.hid (known_w ⟨#[108, 101, 110, 103, 116, 104]⟩ true (by decide +kernel))
  go_enter Tryz.func13, Tryz.ntmps13
  go_wp2_with fail
  refine (arity_12 _).mono ?_
  rintro e w' ⟨rfl, rfl⟩
  go_wp2_with fail
  refine (KN.out _).mono ?_
  rintro e w1 ⟨rfl, b1⟩
  have E1 := Lib.hid (h0.out.trans (b1.mono h0.out.size))
  have BLK := Lib.hid ((b1.block w.heap.size (by simp)).trans (heap_alloc_new w (.cells #[.int .i64 0, .int .i64 0, .string ⟨#[]⟩] 26)))
  clear b1
  go_wp2_with fail
  refine (C.out _ E1.out).mono ?_
  rintro e w2 ⟨rfl, b2⟩
  have E2 := Lib.hid (E1.out.trans (b2.mono E1.out.size))
  obtain ⟨⟨_, _, _⟩, ⟨_, _, _⟩⟩ := new3g BLK.out b2
  clear b2
  go_wp2_with fail
  exact bodyPost_ret (v := pairV (v0, 8)) (by simp [results, Tryz.results13, go_sem, *]) rfl ⟨rfl, put3 E2.out⟩
set_option maxHeartbeats 1000000 in
theorem apply_len2 (A : Option Addr) (c : Nat) (a : Vl) (w : World) (hv : ValsAt w A [a]) (h3 : a.1 = 3) :
    Calls Tryz.prog 13 #[.string ⟨#[108, 101, 110, 103, 116, 104]⟩, .slice A 1 c] w fun e w' => e = .returned (pairV (vI a.2.2.size, 0)) ∧ Below w.heap.size w w' := by
  have C := Lib.hid (fun W (h : Below w.heap.size w W) => one_len2 A c a W (hv.below h) h3)
  clear hv h3
  have h0 : Hid (Below w.heap.size w (w.alloc (.cells #[.int .i64 0, .int .i64 0, .string ⟨#[]⟩] 26))) := Lib.hid ((Below.refl _ _).alloc (Nat.le_refl _) _)
  have KN := Lib.hid (known_w ⟨#[108, 101, 110, 103, 116, 104]⟩ true (by decide +kernel))
  go_enter Tryz.func13, Tryz.ntmps13
  go_wp2_with fail
  refine (arity_12 _).mono ?_
  rintro e w' ⟨rfl, rfl⟩
  go_wp2_with fail
  refine (KN.out _).mono ?_
  rintro e w1 ⟨rfl, b1⟩
  have E1 := Lib.hid (h0.out.trans (b1.mono h0.out.size))
  have BLK := Lib.hid ((b1.block w.heap.size (by simp)).trans (heap_alloc_new w (.cells #[.int .i64 0, .int .i64 0, .string ⟨#[]⟩] 26)))
  clear b1
  go_wp2_with fail
  refine (C.out _ E1.out).mono ?_
  rintro e w2 ⟨rfl, b2⟩
  have E2 := Lib.hid (E1.out.trans (b2.mono E1.out.size))
  obtain ⟨⟨_, _, _⟩, ⟨_, _, _⟩⟩ := new3g BLK.out b2
  clear b2
  go_wp2_with fail
  exact bodyPost_ret (v := pairV (vI a.2.2.size, 0)) (by simp [results, Tryz.results13, go_sem, *]) rfl ⟨rfl, put3 E2.out⟩
set_option maxHeartbeats 1000000 in
theorem apply_type (A : Option Addr) (c : Nat) (a : Vl) (w : World) (hv : ValsAt w A [a]) :
    Calls Tryz.prog 13 #[.string ⟨#[116, 121, 112, 101]⟩, .slice A 1 c] w fun e w' => e = .returned (pairV (vS (typeS a.1), 0)) ∧ Below w.heap.size w w' := by
  have C := Lib.hid (fun W (h : Below w.heap.size w W) => one_type A c a W (hv.below h))
  clear hv
  have h0 : Hid (Below w.heap.size w (w.alloc (.cells #[.int .i64 0, .int .i64 0, .string ⟨#[]⟩] 26))) := Lib.hid ((Below.refl _ _).alloc (Nat.le_refl _) _)
  have KN := Lib.hid (known_w ⟨#[116, 121, 112, 101]⟩ true (by decide +kernel))
  go_enter Tryz.func13, Tryz.ntmps13
  go_wp2_with fail
  refine (arity_20 _).mono ?_
  rintro e w' ⟨rfl, rfl⟩
  go_wp2_with fail
  refine (KN.out _).mono ?_
  rintro e w1 ⟨rfl, b1⟩
  have E1 := Lib.hid (h0.out.trans (b1.mono h0.out.size))
  have BLK := Lib.hid ((b1.block w.heap.size (by simp)).trans (heap_alloc_new w (.cells #[.int .i64 0, .int .i64 0, .string ⟨#[]⟩] 26)))
  clear b1
  go_wp2_with fail
  refine (C.out _ E1.out).mono ?_
  rintro e w2 ⟨rfl, b2⟩
  have E2 := Lib.hid (E1.out.trans (b2.mono E1.out.size))
  obtain ⟨⟨_, _, _⟩, ⟨_, _, _⟩⟩ := new3g BLK.out b2
  clear b2
  go_wp2_with fail
  exact bodyPost_ret (v := pairV (vS (typeS a.1), 0)) (by simp [results, Tryz.results13, go_sem, *]) rfl ⟨rfl, put3 E2.out⟩
end Go.Proofs.YtmadnehipagakaaGreatDoor
