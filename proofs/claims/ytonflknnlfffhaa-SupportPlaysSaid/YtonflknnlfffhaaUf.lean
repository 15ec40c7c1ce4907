/- Clone, Clip, apart: a support told apart. -/
import Derived.Test.YtonflknnlfffhaaUe
namespace Go.Proofs.Ytonflknnlfffhaa
open Go.RowKit Go.Lib KP MR RW
set_option maxRecDepth 100000 in
set_option maxHeartbeats 1000000 in
theorem cloneG_c (A : Option Addr) (c : Nat) (l : List Int) (w : World) (hA : A = none → c = 0) (hI : IntsAt (fun _ => False) w A l) (hl : l.length ≤ 1000000) :
    Calls Try.prog 42 #[.slice A l.length c] w fun e w' => ∃ v, e = .returned v ∧ OwnI w' w.heap.size v l ∧ Below w.heap.size w w' := by
  obtain ⟨i0, hi, hz0, hz1, hz2⟩ := info_parts infoI
  cases A with
  | none =>
    obtain rfl := hI.isNil
    obtain rfl := hA rfl
    have heq := fun w => Lib.run_eql_slice_nil (P := Try.prog) w 35 3 none 0 0 0 0 Try.underlying35
    clear hI hA hl
    go_enter Try.func42, Try.ntmps42
    go_wp2
    go_ret
    exact ⟨_, rfl, OwnW.nil _ _ _ _, Below.refl _ _⟩
  | some ad =>
    have heq := fun w => Lib.run_eql_slice_nil (P := Try.prog) w 35 3 (some ad) l.length c 0 0 Try.underlying35
    have H0 := Lib.hid (OwnW.of (World.ownsRow_made w #[] (e := 3) (size := 1) (base := w.heap.size) 0 (Nat.le_refl _) (by unfold maxLen; omega) rfl))
    have HN := Lib.hid (RowsAt.below hI ((Below.refl _ w).alloc (Nat.le_refl _) (.cells #[] 3)))
    clear hI
    go_enter Try.func42, Try.ntmps42
    go_wp2_with (at_builtin; refine wpList_append_ownW (f := intc) intc_len intc_flat (by decide) rfl (.tmp 5) (.tmp 6) 35 rfl w.heap.size 3 i0 zI 8 Try.underlying35 hi hz0 hz1 hz2 rfl _ 0 [] rfl H0.out (some ad) c l (fun h => by cases h) HN.out rfl (by unfold maxLen; omega) (by omega) (by simp) ?_)
    intro v' w1 hown hg _
    have hbel : Below w.heap.size w w1 := ((Below.refl _ _).alloc (Nat.le_refl _) _).grown hg (by simp) (fun k h => by simp [Value.ownBlock] at h; omega)
    have HO := Lib.hid hown
    have HB := Lib.hid hbel
    clear hown hbel hg
    go_wp2
    go_ret
    exact ⟨_, rfl, by simpa [OwnI] using HO.out, HB.out⟩
set_option maxHeartbeats 400000 in
theorem clipW_c (A : Option Addr) (n c : Nat) (w : World) (hn : n ≤ c) :
    Calls Try.prog 49 #[.slice A n c] w fun e w' => e = .returned (.slice A n n) ∧ w = w' := by
  go_enter Try.func49, Try.ntmps49
  go_wp2
  go_ret
  exact ⟨rfl, rfl⟩
theorem ArgY.at {w : World} {id t : Int} {l : List Int} {A : Option Addr} {c : Nat} (h : ArgY w ((id, t, l), A, c)) : IntsAt (fun _ => False) w A l ∧ (A = none → c = 0) ∧ l.length ≤ 1000 := ⟨h.row, h.nil, h.few⟩
set_option maxRecDepth 100000 in
set_option maxHeartbeats 2000000 in
theorem apart0_c (id t : Int) (A : Option Addr) (c : Nat) (l : List Int) (w : World) (hI : ArgY w ((id, t, l), A, c)) :
    Calls Try.prog 47 #[.agg #[.int .i64 id, .int .i64 t, .slice A l.length c]] w fun e w' => ∃ v, e = .returned (.agg #[.int .i64 id, .int .i64 t, v]) ∧ OwnI w' w.heap.size v l ∧ Below w.heap.size w w' := by
  have hfew := hI.at.2.2
  have HI := Lib.hid (fun W (h : Below w.heap.size w W) => hI.below h)
  clear hI
  go_enter Try.func47, Try.ntmps47
  go_wp2_with fail
  have E0 := Lib.hid ((((Below.refl _ w).alloc (Nat.le_refl _) (.cells #[.int .i64 id, .int .i64 t, .slice A l.length c] 50))).alloc (by simp) (.cells #[.int .i64 0, .int .i64 0, .slice none 0 0] 50))
  refine (cloneG_c A c l _ (HI.out _ E0.out).nil (HI.out _ E0.out).row (by omega)).mono ?_
  rintro e w1 ⟨v, rfl, ho, b1⟩
  have g0 := (b1.block w.heap.size (by simp; omega)).trans ((Below.heap_alloc (w.alloc (.cells #[.int .i64 id, .int .i64 t, .slice A l.length c] 50)) (.cells #[.int .i64 0, .int .i64 0, .slice none 0 0] 50) w.heap.size (by simp)).trans (heap_alloc_new w _))
  have g1 : w1.heap[w.heap.size + 1]? = some (.cells #[.int .i64 0, .int .i64 0, .slice none 0 0] 50 (0, 0)) := (b1.block (w.heap.size + 1) (by simp)).trans (by have := heap_alloc_new (w.alloc (.cells #[.int .i64 id, .int .i64 t, .slice A l.length c] 50)) (.cells #[.int .i64 0, .int .i64 0, .slice none 0 0] 50); simpa using this)
  have E1 := Lib.hid (E0.out.trans (b1.mono E0.out.size))
  have HO := Lib.hid (ho.mono E0.out.size)
  obtain ⟨A1, c1, hv1, _, _, hle, _⟩ := OwnW.rows (N := fun _ => False) intc_len (by decide) ho (fun _ _ h => h)
  subst hv1
  have HC := Lib.hid (OwnW.clip HO.out)
  clear ho b1
  have c00 := block_cell (j := 0) g0 rfl
  have c01 := block_cell (j := 1) g0 rfl
  have c02 := block_cell (j := 2) g0 rfl
  have c10 := block_cell (j := 0) g1 rfl
  have c11 := block_cell (j := 1) g1 rfl
  have c12 := block_cell (j := 2) g1 rfl
  have f02 := block_free (j := 2) g0
  have f10 := block_free (j := 0) g1
  have f11 := block_free (j := 1) g1
  have f12 := block_free (j := 2) g1
  have hz : w.heap.size + 1 < w1.heap.size := (Array.getElem?_eq_some_iff.1 g1).1
  have FO := Lib.hid (show ∀ q, (some q) = (Value.slice A1 l.length l.length).ownBlock → q ≠ w.heap.size ∧ q ≠ w.heap.size + 1 from fun q hq => ⟨fun e => OwnW.ne HC.out g0 (by decide) (by rw [← hq, e]), fun e => OwnW.ne HC.out g1 (by decide) (by rw [← hq, e])⟩)
  clear g0 g1
  go_wp2_with fail
  refine (clip0_c _ _ _ _ hle).mono ?_
  rintro e w2 ⟨rfl, rfl⟩
  go_wp2_with fail
  refine bodyPost_ret (v := .agg #[.int .i64 id, .int .i64 t, .slice A1 l.length l.length]) (by simp [results, Try.results47, go_sem, *]; done) rfl ⟨_, rfl, ?_, ?_⟩
  · exact HC.out.keep (F := fun k => k = w.heap.size ∨ k = w.heap.size + 1) (((((Keep.refl _ _).setCell (.inl (.inl rfl)) _).setCell (.inl (.inr rfl)) _).setCell (.inl (.inr rfl)) _).setCell (.inl (.inr rfl)) _) (fun k hk h => h.elim (FO.out k hk.symm).1 (FO.out k hk.symm).2)
  · exact (((E1.out.setCell (Nat.le_refl _) _).setCell (Nat.le_succ _) _).setCell (Nat.le_succ _) _).setCell (Nat.le_succ _) _
def cmpI (x y : Int) : Int := if x < y then -1 else if y < x then 1 else 0

theorem apart_c (x : Wf) (w : World) (hI : ArgY w x) : Calls Try.prog 47 #[x.val] w fun e w' => ∃ y : Wf, e = .returned y.val ∧ y.1 = x.1 ∧ OwnI w' w.heap.size y.sl y.1.2.2 ∧ Below w.heap.size w w' := by
  obtain ⟨⟨id, t, l⟩, A, c⟩ := x
  refine (apart0_c id t A c l w hI).mono ?_
  rintro e w' ⟨v, rfl, ho, hb⟩
  obtain ⟨A', c', rfl, _, _, _⟩ := OwnI.row ho
  exact ⟨((id, t, l), A', c'), rfl, rfl, ho, hb⟩
end Go.Proofs.Ytonflknnlfffhaa
