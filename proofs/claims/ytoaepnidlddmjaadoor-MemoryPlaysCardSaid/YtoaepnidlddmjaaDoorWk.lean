/- wm.Memory: Get. -/
import Derived.Test.YtoaepnidlddmjaaDoorWj
namespace Go.Proofs.YtoaepnidlddmjaaDoor
open Go.RowKit Go.Lib KP MR RW
/-- A fact told, its values the call's own. -/
structure FreshV (B : Nat) (W : World) (y : Fs) : Prop where
  own : OwnW W B 29 3 (.slice y.2.1 y.1.2.2.length y.2.2) y.1.2.2.length (y.1.2.2.flatMap v3)
  few : y.1.2.2.length ≤ 1000
  ok : ∀ v ∈ y.1.2.2, okV v
  ts : y.1.2.1.size ≤ 100000
theorem FreshV.arg {B : Nat} {W : World} {y : Fs} (h : FreshV B W y) : ArgV (fun k => k < B ∨ W.heap.size ≤ k) W y.2.1 y.2.2 y.1.2.2 := by
  obtain ⟨A, c, e, hr, _, _, hA⟩ := h.own.rows (N := fun k => k < B ∨ W.heap.size ≤ k) v3_len (by decide) (fun k hk hN => by have := h.own.lt hk; omega)
  injection e with e1 e2 e3
  subst e1 e3
  exact ⟨hr, hA, h.few, h.ok⟩
theorem FreshV.keep {B : Nat} {W W' : World} {y : Fs} (h : FreshV B W y) {F : Nat → Prop} (hk : Keep F W W') (hd : ∀ k, (Value.slice y.2.1 y.1.2.2.length y.2.2).ownBlock = some k → ¬ F k) : FreshV B W' y := ⟨h.own.keep hk hd, h.few, h.ok, h.ts⟩
theorem FreshV.below {B : Nat} {W W' : World} {y : Fs} (h : FreshV B W y) (hb : Below W.heap.size W W') : FreshV B W' y := ⟨h.own.below hb, h.few, h.ok, h.ts⟩
theorem own_apart {w : World} {B B' e e' m m' n n' : Nat} {v v' : Value} {xs xs' : List Value} (h1 : OwnW w B e m v n xs) (h2 : OwnW w B' e' m' v' n' xs') (he : e ≠ e') : ∀ k, v.ownBlock = some k → v'.ownBlock ≠ some k := by
  intro k hk
  rcases h1.2 with ⟨rfl, _⟩ | ⟨g, cap, cur, rfl, _, hg, _⟩
  · cases hk
  · injection hk with hk
    subst hk
    exact h2.ne hg he
theorem apart_f (x : Fs) (w : World) (hI : ArgV (fun _ => False) w x.2.1 x.2.2 x.1.2.2) (ht : x.1.2.1.size ≤ 100000) :
    Calls Tryd.prog 24 #[.agg #[.int .i64 x.1.1, .string x.1.2.1, .slice x.2.1 x.1.2.2.length x.2.2]] w fun e w' => ∃ A c, e = .returned (.agg #[.int .i64 x.1.1, .string x.1.2.1, .slice A x.1.2.2.length c]) ∧ FreshV w.heap.size w' (x.1, A, c) ∧ Below w.heap.size w w' := by
  refine (apart_c x.1.1 x.1.2.1 x.2.1 x.2.2 x.1.2.2 w hI).mono ?_
  rintro e w' ⟨v, rfl, ho, hb⟩
  obtain ⟨A, c, rfl, _, _, _, _⟩ := ho.rows (N := fun _ => False) v3_len (by decide) (fun _ _ h => h)
  exact ⟨A, c, rfl, ⟨ho, hI.few, hI.ok, ht⟩, hb⟩
section
variable {B : Nat} {F : Nat → Prop} {g m : Nat} {v : Value} {xs : List Fs} {nx : Int} {W W' : World}
/-- The i-th fact's cells. -/
theorem Mem.row_at (h : Mem B F g m v xs nx W) {i : Nat} (hi : i < xs.length) : ∃ gl n, v = .slice (some ⟨gl, 0, none⟩) xs.length n ∧ W.cell? ⟨gl, i * 3, none⟩ = some (.int .i64 xs[i].1.1) ∧ W.cell? ⟨gl, i * 3 + 1, none⟩ = some (.string xs[i].1.2.1) ∧ W.cell? ⟨gl, i * 3 + 2, none⟩ = some (.slice xs[i].2.1 xs[i].1.2.2.length xs[i].2.2) := by
  rcases h.own.2 with ⟨_, h2⟩ | ⟨gl, cap, cur, rfl, hBl, hgl, hnc, hcm, _, htk⟩
  · omega
  have hrow := rows_own (N := fun _ => False) fsc_len hgl htk (fun h => h)
  obtain ⟨ad, ead, _, hcx⟩ := hrow i hi
  obtain rfl := Option.some.inj ead
  have hc0 := hcx 0 _ rfl
  have hc1 := hcx 1 _ rfl
  have hc2 := hcx 2 _ rfl
  rw [addr_flat] at hc0 hc1 hc2
  exact ⟨gl, cap, rfl, hc0, hc1, hc2⟩
end
set_option maxHeartbeats 1000000 in
theorem get_no (id : Int) {B : Nat} {F : Nat → Prop} {g : Nat} {T : List Ft} {nx : Int} {w0 W : World} (h : Inv B w0 F g T nx W) (hno : ∀ t ∈ T, t.1 ≠ id) : Calls Tryd.prog 22 #[.pointer (some ⟨g, 0, none⟩), .int .i64 id] W fun e w' => e = .returned (.tuple #[.agg #[.int .i64 0, .string ⟨#[]⟩, .slice none 0 0], .bool false]) ∧ Below W.heap.size W w' := by
  have E0 := Lib.hid ((Below.refl _ W).alloc (Nat.le_refl _) (.cells #[.int .i64 0, .string ⟨#[]⟩, .slice none 0 0] 55))
  have HA := Lib.hid (at_c id (h.grow E0.out h.size))
  have HN := Lib.hid hno
  clear h hno
  go_enter Tryd.func22, Tryd.ntmps22
  go_wp2_with fail
  refine HA.out.mono ?_
  rintro e w1 ⟨i, b, rfl, hb, b1⟩
  cases b with
  | true =>
    obtain ⟨hi, hy⟩ := hb.1 rfl
    exact absurd hy (HN.out _ (List.getElem_mem hi))
  | false =>
    have E1 := Lib.hid (E0.out.trans (b1.mono E0.out.size))
    have g1 := keepB (heap_alloc_new W (.cells #[.int .i64 0, .string ⟨#[]⟩, .slice none 0 0] 55)) b1
    have c10 := block_cell (j := 0) g1 rfl
    have c11 := block_cell (j := 1) g1 rfl
    have c12 := block_cell (j := 2) g1 rfl
    have f10 := block_free (j := 0) g1
    have f11 := block_free (j := 1) g1
    have f12 := block_free (j := 2) g1
    clear hb b1 g1
    go_wp2_with fail
    refine bodyPost_ret (v := .tuple #[.agg #[.int .i64 0, .string ⟨#[]⟩, .slice none 0 0], .bool false]) (by simp [results, Tryd.results22, go_sem, *]; done) rfl ⟨rfl, ?_⟩
    exact ((E1.out.setCell (Nat.le_refl _) _).setCell (Nat.le_refl _) _).setCell (Nat.le_refl _) _
set_option maxHeartbeats 1000000 in
theorem get_yes (id : Int) {B : Nat} {F : Nat → Prop} {g : Nat} {T : List Ft} {nx : Int} {w0 W : World} (h : Inv B w0 F g T nx W) (hyes : ∃ t ∈ T, t.1 = id) : Calls Tryd.prog 22 #[.pointer (some ⟨g, 0, none⟩), .int .i64 id] W fun e w' => ∃ y : Fs, e = .returned (.tuple #[.agg #[.int .i64 id, .string y.1.2.1, .slice y.2.1 y.1.2.2.length y.2.2], .bool true]) ∧ y.1 ∈ T ∧ y.1.1 = id ∧ FreshV W.heap.size w' y ∧ Below W.heap.size W w' := by
  have E0 := Lib.hid ((Below.refl _ W).alloc (Nat.le_refl _) (.cells #[.int .i64 0, .string ⟨#[]⟩, .slice none 0 0] 55))
  have HA := Lib.hid (at_c id (h.grow E0.out h.size))
  have HY := Lib.hid hyes
  have HI := Lib.hid h
  clear h hyes
  go_enter Tryd.func22, Tryd.ntmps22
  go_wp2_with fail
  refine HA.out.mono ?_
  rintro e w1 ⟨i, b, rfl, hb, b1⟩
  cases b with
  | false =>
    obtain ⟨t, ht, hy⟩ := HY.out
    exact absurd hy (hb.2 rfl t ht)
  | true =>
    have E1 := Lib.hid (E0.out.trans (b1.mono E0.out.size))
    have G1 := Lib.hid (keepB (heap_alloc_new W (.cells #[.int .i64 0, .string ⟨#[]⟩, .slice none 0 0] 55)) b1)
    obtain ⟨m, v, xs, e, hm, h0⟩ := HI.out
    obtain ⟨hi, hy⟩ := hb.1 rfl
    have hix : i < xs.length := by rw [← e, List.length_map] at hi; exact hi
    have hyx : xs[i].1.1 = id := by subst e; simpa using hy
    have hm1 := hm.grow E1.out
    have hg0 := block_cell (j := 0) hm1.blk rfl
    obtain ⟨gl, cap, rfl, hc0, hc1, hc2⟩ := hm1.row_at hix
    have hn1 := hm.few
    have HV := Lib.hid ((hm1.vals xs[i] (List.getElem_mem hix)).mono (M := fun _ => False) (fun _ h => h.elim))
    have HTS := Lib.hid (hm.ts xs[i] (List.getElem_mem hix))
    have HMT := Lib.hid (show xs[i].1 ∈ T by rw [← e]; exact List.mem_map.2 ⟨_, List.getElem_mem hix, rfl⟩)
    have hiI : (i : Int) < (xs.length : Int) := by omega
    have hnI : (xs.length : Int) ≤ 1000 := by omega
    clear hm hm1 h0 e hb b1
    generalize xs[i] = x at *
    obtain ⟨⟨x1, t, l⟩, xA, xc⟩ := x
    dsimp only at hc0 hc1 hc2 hyx HV HTS HMT
    subst hyx
    clear hi hy HA HY HI
    go_wp2_with fail
    refine (apart_f ((x1, t, l), xA, xc) w1 HV.out HTS.out).mono ?_
    rintro e w2 ⟨A', c', rfl, hf, b2⟩
    have G2 := keepB G1.out b2
    have E2 := Lib.hid (E1.out.trans (b2.mono E1.out.size))
    have HF := Lib.hid hf
    have c10 := block_cell (j := 0) G2 rfl
    have c11 := block_cell (j := 1) G2 rfl
    have c12 := block_cell (j := 2) G2 rfl
    have f10 := block_free (j := 0) G2
    have f11 := block_free (j := 1) G2
    have f12 := block_free (j := 2) G2
    have FO := Lib.hid (show ∀ q, (Value.slice A' l.length c').ownBlock = some q → q ≠ W.heap.size from fun q hq e => HF.out.own.ne G2 (by decide) (by rw [hq, e]))
    clear hf b2 G2 hc0 hc1 hc2 hg0
    go_wp2_with fail
    refine bodyPost_ret (v := .tuple #[.agg #[.int .i64 x1, .string t, .slice A' l.length c'], .bool true]) (by simp [results, Tryd.results22, go_sem, *]; done) rfl ⟨((x1, t, l), A', c'), rfl, HMT.out, rfl, ?_, ?_⟩
    · have hlt := E1.out.size
      have hk : FreshV W.heap.size w2 ((x1, t, l), A', c') := ⟨HF.out.own.mono hlt, HF.out.few, HF.out.ok, HF.out.ts⟩
      exact hk.keep (F := fun k => k = W.heap.size) ((((Keep.refl (fun k => k = W.heap.size) w2).setCell (p := ⟨W.heap.size, 0, none⟩) (.inl rfl) _).setCell (p := ⟨W.heap.size, 1, none⟩) (.inl rfl) _).setCell (p := ⟨W.heap.size, 2, none⟩) (.inl rfl) _) (fun k hk => FO.out k hk)
    · exact ((E2.out.setCell (Nat.le_refl _) _).setCell (Nat.le_refl _) _).setCell (Nat.le_refl _) _
end Go.Proofs.YtoaepnidlddmjaaDoor
