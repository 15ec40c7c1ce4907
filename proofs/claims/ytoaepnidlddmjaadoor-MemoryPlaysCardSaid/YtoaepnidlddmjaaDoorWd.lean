/- Facts: wm.key, slices.Clone and Clip, apart; the search. -/
import Derived.Test.YtoaepnidlddmjaaDoorWc
import Derived.Test.YtoaepnidlddmjaaDoorOw
import Derived.WalkLawsBesides
namespace Go.Proofs.YtoaepnidlddmjaaDoor
open Go.RowKit Go.Lib Go.Sort KP RW
set_option maxHeartbeats 1000000 in
theorem cloneV_c (A : Option Addr) (c : Nat) (l : List Vl) (w : World) (hA : A = none → c = 0) (hI : ValsAt (fun _ => False) w A l) (hl : l.length ≤ 1000000) :
    Calls Tryd.prog 34 #[.slice A l.length c] w fun e w' => ∃ v, e = .returned v ∧ OwnW w' w.heap.size 29 3 v l.length (l.flatMap v3) ∧ Below w.heap.size w w' := by
  obtain ⟨i0, hi, hz0, hz1, hz2⟩ := info_parts infoV
  cases A with
  | none =>
    obtain rfl := hI.isNil
    obtain rfl := hA rfl
    have heq := fun w => Lib.run_eql_slice_nil (P := Tryd.prog) w 31 29 none 0 0 0 0 Tryd.underlying31
    clear hI hA hl
    go_enter Tryd.func34, Tryd.ntmps34
    go_wp2
    go_ret
    exact ⟨_, rfl, OwnW.nil _ _ _ _, Below.refl _ _⟩
  | some ad =>
    have heq := fun w => Lib.run_eql_slice_nil (P := Tryd.prog) w 31 29 (some ad) l.length c 0 0 Tryd.underlying31
    have H0 := Lib.hid (OwnW.of (World.ownsRow_made w #[] (e := 29) (size := 3) (base := w.heap.size) 0 (Nat.le_refl _) (by unfold maxLen; omega) rfl))
    have HN := Lib.hid (RowsAt.below hI ((Below.refl _ w).alloc (Nat.le_refl _) (.cells #[] 29)))
    clear hI
    go_enter Tryd.func34, Tryd.ntmps34
    go_wp2_with (at_builtin; refine wpList_append_ownW (f := v3) v3_len v3_flat (by decide) rfl (.tmp 5) (.tmp 6) 31 rfl w.heap.size 29 i0 zV 32 Tryd.underlying31 hi hz0 hz1 hz2 rfl _ 0 [] rfl H0.out (some ad) c l (fun h => by cases h) HN.out rfl (by unfold maxLen; omega) (by omega) (by simp) ?_)
    intro v' w1 hown hg _
    have hbel : Below w.heap.size w w1 := ((Below.refl _ _).alloc (Nat.le_refl _) _).grown hg (by simp) (fun k h => by simp [Value.ownBlock] at h; omega)
    have HO := Lib.hid hown
    have HB := Lib.hid hbel
    clear hown hbel hg
    go_wp2
    go_ret
    exact ⟨_, rfl, by simpa using HO.out, HB.out⟩
set_option maxHeartbeats 400000 in
theorem clipV_c (A : Option Addr) (n c : Nat) (w : World) (hn : n ≤ c) :
    Calls Tryd.prog 33 #[.slice A n c] w fun e w' => e = .returned (.slice A n n) ∧ w = w' := by
  go_enter Tryd.func33, Tryd.ntmps33
  go_wp2
  go_ret
  exact ⟨rfl, rfl⟩
set_option maxHeartbeats 400000 in
theorem clipF_c (A : Option Addr) (n c : Nat) (w : World) (hn : n ≤ c) :
    Calls Tryd.prog 27 #[.slice A n c] w fun e w' => e = .returned (.slice A n n) ∧ w = w' := by
  go_enter Tryd.func27, Tryd.ntmps27
  go_wp2
  go_ret
  exact ⟨rfl, rfl⟩
/-- Values as they may be told. -/
structure ArgV (N : Nat → Prop) (W : World) (A : Option Addr) (c : Nat) (l : List Vl) : Prop where
  row : ValsAt N W A l
  nil : A = none → c = 0
  few : l.length ≤ 1000
  ok : ∀ v ∈ l, okV v
theorem ArgV.below {N : Nat → Prop} {W W' : World} {A : Option Addr} {c : Nat} {l : List Vl} (h : ArgV N W A c l) (hb : Below W.heap.size W W') : ArgV N W' A c l := ⟨h.row.below hb, h.nil, h.few, h.ok⟩
theorem ArgV.mono {N M : Nat → Prop} {W : World} {A : Option Addr} {c : Nat} {l : List Vl} (h : ArgV N W A c l) (hM : ∀ k, M k → N k) : ArgV M W A c l := ⟨h.row.mono hM, h.nil, h.few, h.ok⟩
set_option maxHeartbeats 1000000 in
theorem key_c (t : ByteArray) (ht : t.size ≤ 100000) (A : Option Addr) (c : Nat) (l : List Vl) (w : World) (hI : ArgV (fun _ => False) w A c l) (htab : Tab w) :
    Calls Tryd.prog 23 #[.string t, .slice A l.length c] w fun e w' => e = .returned (.string (keyB t l)) ∧ Below w.heap.size w w' := by
  obtain ⟨i0, hi, hz0, hz1, hz2⟩ := info_parts infoV
  have HI := Lib.hid hI
  have HT := Lib.hid (fun W (h : Below w.heap.size w W) => htab.b h)
  have hl := hI.few
  have hlI : (l.length : Int) ≤ 1000 := by omega
  clear hI htab
  go_enter Tryd.func23, Tryd.ntmps23
  go_wp2_with fail
  refine (ofStr_c t w).mono ?_
  rintro e w1 ⟨rfl, b1⟩
  have E1 := Lib.hid b1
  clear b1
  have H1 := Lib.hid (OwnW.made (f := v3) v3_len w1 (3, 0, t) 29 (B := w.heap.size) E1.out.size)
  have E2 := Lib.hid (E1.out.alloc E1.out.size (.cells (v3 (3, 0, t)).toArray 29))
  have R2 := Lib.hid (HI.out.row.below E2.out)
  go_wp2_with (at_builtin; refine wpList_append_ownW (f := v3) v3_len v3_flat (by decide) rfl (.tmp 7) (.tmp 8) 31 rfl w.heap.size 29 i0 zV 32 Tryd.underlying31 hi hz0 hz1 hz2 rfl _ 1 [(3, 0, t)] rfl H1.out A c l HI.out.nil R2.out rfl (by unfold maxLen; omega) (by omega) E2.out.size ?_)
  intro v' w2 hown hg _
  have hB3 := Lib.hid (E2.out.grown hg E2.out.size (fun k h => by injection h with h; subst h; exact E1.out.size))
  have hown2 : OwnW w2 w.heap.size 29 3 v' (1 + l.length) (([(3, 0, t)] ++ l).flatMap v3) := hown
  obtain ⟨A3, c3, hv3, hr3, hn3, _, _⟩ := hown2.rows (N := fun _ => False) v3_len (by decide) (fun _ _ h => h)
  subst hv3
  have R3 := Lib.hid hr3
  clear hown hown2 hg hr3
  go_wp2_with fail
  refine (hash_c A3 c3 ([(3, 0, t)] ++ l) w2 R3.out (fun v hv => by
    rcases List.mem_append.1 hv with h | h
    · rw [List.mem_singleton.1 h]; exact ⟨by unfold okI; simp, by unfold okI; simp, ht⟩
    · exact HI.out.ok v h) (by simp; omega) (HT.out _ hB3.out)).mono ?_
  rintro e w3 ⟨rfl, b3⟩
  have E3 := Lib.hid (hB3.out.trans (b3.mono hB3.out.size))
  clear b3
  go_wp2_with fail
  go_ret
  exact ⟨rfl, E3.out⟩
/-- A fact in memory: with the value that holds its values. -/
structure Fx where
  f : Ft
  v : Value
abbrev fxc (x : Fx) : List Value := [.int .i64 x.f.1, .string x.f.2.1, x.v]
theorem fxc_len (x : Fx) : (fxc x).length = 3 := rfl
def zF : Value := .agg #[.int .i64 0, .string ⟨#[]⟩, .slice none 0 0]
theorem infoF : (Tryd.prog.info? 55).map (fun i => (i.zero, i.size, i.bytes)) = some (some zF, 3, 48) := by kernel_rfl
theorem pkB {W w1 : World} {a b c : Value} {T : TypeId} (h : Below (W.alloc (.cells #[a, b, c] T)).heap.size (W.alloc (.cells #[a, b, c] T)) w1) : w1.heap[W.heap.size]? = some (.cells #[a, b, c] T (0, 0)) ∧ W.heap.size < w1.heap.size ∧ Below W.heap.size W w1 :=
  ⟨(h.block W.heap.size (by simp)).trans (heap_alloc_new W _), by have := h.size; simp at this; omega, ((Below.refl _ _).alloc (Nat.le_refl _) _).trans (h.mono (by simp))⟩
set_option maxHeartbeats 1000000 in
theorem apart_c (id : Int) (t : ByteArray) (A : Option Addr) (c : Nat) (l : List Vl) (w : World) (hI : ArgV (fun _ => False) w A c l) :
    Calls Tryd.prog 24 #[.agg #[.int .i64 id, .string t, .slice A l.length c]] w fun e w' => ∃ v, e = .returned (.agg #[.int .i64 id, .string t, v]) ∧ OwnW w' w.heap.size 29 3 v l.length (l.flatMap v3) ∧ Below w.heap.size w w' := by
  have hl := hI.few
  have HI := Lib.hid (fun W (h : Below w.heap.size w W) => hI.below h)
  clear hI
  go_enter Tryd.func24, Tryd.ntmps24
  go_wp2_with fail
  have E0 := Lib.hid ((((Below.refl _ w).alloc (Nat.le_refl _) (.cells #[.int .i64 id, .string t, .slice A l.length c] 55))).alloc (by simp) (.cells #[.int .i64 0, .string ⟨#[]⟩, .slice none 0 0] 55))
  refine (cloneV_c A c l _ (HI.out _ E0.out).nil (HI.out _ E0.out).row (by omega)).mono ?_
  rintro e w1 ⟨v, rfl, ho, b1⟩
  have g0 := (b1.block w.heap.size (by simp; omega)).trans ((Below.heap_alloc (w.alloc (.cells #[.int .i64 id, .string t, .slice A l.length c] 55)) (.cells #[.int .i64 0, .string ⟨#[]⟩, .slice none 0 0] 55) w.heap.size (by simp)).trans (heap_alloc_new w _))
  have g1 : w1.heap[w.heap.size + 1]? = some (.cells #[.int .i64 0, .string ⟨#[]⟩, .slice none 0 0] 55 (0, 0)) := (b1.block (w.heap.size + 1) (by simp)).trans (by have := heap_alloc_new (w.alloc (.cells #[.int .i64 id, .string t, .slice A l.length c] 55)) (.cells #[.int .i64 0, .string ⟨#[]⟩, .slice none 0 0] 55); simpa using this)
  have E1 := Lib.hid (E0.out.trans (b1.mono E0.out.size))
  have HO := Lib.hid (ho.mono E0.out.size)
  obtain ⟨A1, c1, hv1, _, _, hle, _⟩ := ho.rows (N := fun _ => False) v3_len (by decide) (fun _ _ h => h)
  subst hv1
  have HC := Lib.hid (HO.out.clip)
  clear ho b1
  have c00 := block_cell (j := 0) g0 rfl
  have c01 := block_cell (j := 1) g0 rfl
  have c02 := block_cell (j := 2) g0 rfl
  have c10 := block_cell (j := 0) g1 rfl
  have c11 := block_cell (j := 1) g1 rfl
  have c12 := block_cell (j := 2) g1 rfl
  have f02 := block_free (j := 2) g0
  have f10 := block_free (j := 0) g1
  have f11 := block_free (j := 1) g1
  have f12 := block_free (j := 2) g1
  have hz : w.heap.size + 1 < w1.heap.size := (Array.getElem?_eq_some_iff.1 g1).1
  have FO := Lib.hid (show ∀ q, (some q) = (Value.slice A1 l.length l.length).ownBlock → q ≠ w.heap.size ∧ q ≠ w.heap.size + 1 from fun q hq => ⟨fun e => HC.out.ne g0 (by decide) (by rw [← hq, e]), fun e => HC.out.ne g1 (by decide) (by rw [← hq, e])⟩)
  clear g0 g1
  go_wp2_with fail
  refine (clipV_c _ _ _ _ hle).mono ?_
  rintro e w2 ⟨rfl, rfl⟩
  go_wp2_with fail
  refine bodyPost_ret (v := .agg #[.int .i64 id, .string t, .slice A1 l.length l.length]) (by simp [results, Tryd.results24, go_sem, *]; done) rfl ⟨_, rfl, ?_, ?_⟩
  · exact HC.out.keep (F := fun k => k = w.heap.size ∨ k = w.heap.size + 1) (((((Keep.refl _ _).setCell (.inl (.inl rfl)) _).setCell (.inl (.inr rfl)) _).setCell (.inl (.inr rfl)) _).setCell (.inl (.inr rfl)) _) (fun k hk h => h.elim (FO.out k hk.symm).1 (FO.out k hk.symm).2)
  · exact (((E1.out.setCell (Nat.le_refl _) _).setCell (Nat.le_succ _) _).setCell (Nat.le_succ _) _).setCell (Nat.le_succ _) _
def cmpI (x y : Int) : Int := if x < y then -1 else if y < x then 1 else 0
theorem nan3 (x : Int) (w : World) : Calls Tryd.prog 42 #[.int .i64 x] w fun e w' => e = .returned (.bool false) ∧ w = w' := by
  go_enter Tryd.func42, Tryd.ntmps42
  go_wp2
  go_ret
  exact ⟨rfl, rfl⟩
theorem cmpI_c (x y : Int) (w : World) : Calls Tryd.prog 37 #[.int .i64 x, .int .i64 y] w fun e w' => e = .returned (.int .i64 (cmpI x y)) ∧ w = w' := by
  unfold cmpI
  go_enter Tryd.func37, Tryd.ntmps37
  go_wp2_with (go_at_call 42; refine (nan3 _ _).mono ?_; rintro e w' ⟨rfl, rfl⟩)
  all_goals
    go_ret
    exact ⟨by simp [*], rfl⟩
theorem at1_c (id y : Int) (t : ByteArray) (v : Value) (w : World) : Calls Tryd.prog 36 #[.agg #[.int .i64 id, .string t, v], .int .i64 y] w fun e w' => e = .returned (.int .i64 (cmpI id y)) ∧ Below w.heap.size w w' := by
  have E0 := Lib.hid ((Below.refl _ w).alloc (Nat.le_refl _) (.cells #[.int .i64 id, .string t, v] 55))
  go_enter Tryd.func36, Tryd.ntmps36
  go_wp2_with fail
  refine (cmpI_c id y _).mono ?_
  rintro e w1 ⟨rfl, rfl⟩
  go_wp2_with fail
  go_ret
  exact ⟨rfl, E0.out⟩
end Go.Proofs.YtoaepnidlddmjaaDoor
