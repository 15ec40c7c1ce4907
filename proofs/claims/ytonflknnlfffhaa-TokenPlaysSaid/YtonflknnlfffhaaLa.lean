/- The law's own helpers: rows of numbers compared; a token's place. -/
import Derived.Test.YtonflknnlfffhaaTp
namespace Go.Proofs.Ytonflknnlfffhaa
open Go.RowKit Go.Lib KP MR RW
set_option maxRecDepth 100000 in
set_option maxHeartbeats 4000000 in
theorem ints_c (A : Option Addr) (c : Nat) (la : List Int) (B : Option Addr) (d : Nat) (lb : List Int) (W : World) (ha : IntsAt (fun _ => False) W A la) (hb : IntsAt (fun _ => False) W B lb) (hla : la.length ≤ 1000000) (hlb : lb.length ≤ 1000000) :
    Calls Try.prog 12 #[.slice A la.length c, .slice B lb.length d] W fun e w' => e = .returned (.bool (decide (la = lb))) ∧ Below W.heap.size W w' := by
  have VA := Lib.hid (fun w' (h : Below W.heap.size W w') => RowsAt.below ha h)
  have VB := Lib.hid (fun w' (h : Below W.heap.size W w') => RowsAt.below hb h)
  clear ha hb
  by_cases hl : la.length = lb.length
  · have hlI : (lb.length : Int) ≤ 1000000 := by omega
    have HL := Lib.hid hl
    go_enter Try.func12, Try.ntmps12
    rw [hl]
    clear hl
    go_wp2_with fail
    go_loopw [5] (fun i wr => ∃ k : Nat, k ≤ lb.length ∧ i = .int .i64 k ∧ Hid (la.take k = lb.take k) ∧ Hid (Below W.heap.size W wr)) (fun i _ => lb.length - (RowKit.intOf i).toNat)
    case atStart => exact ⟨0, by omega, rfl, Lib.hid rfl, Lib.hid (Below.refl _ _)⟩
    case round =>
      obtain ⟨k, hk, rfl, hT, hB⟩ := hrel
      by_cases hlt : k < lb.length
      · have hlt' : k < la.length := by rw [HL.out]; exact hlt
        have hkI : (k : Int) < (lb.length : Int) := by omega
        obtain ⟨ad, rfl, _, c0⟩ := IntsAt.at (VA.out _ hB.out) hlt'
        obtain ⟨bd, rfl, _, d0⟩ := IntsAt.at (VB.out _ hB.out) hlt
        have EQ : Hid (la[k] = lb[k] → la.take (k + 1) = lb.take (k + 1)) := Lib.hid (fun h => by rw [List.take_succ_eq_append_getElem hlt', List.take_succ_eq_append_getElem hlt, hT.out, h])
        have NE : Hid (la[k] ≠ lb[k] → false = decide (la = lb)) := Lib.hid (fun h => by
          symm
          rw [decide_eq_false_iff_not]
          intro e
          subst e
          exact h rfl)
        generalize la[k] = p at *
        generalize lb[k] = q at *
        have HS : Hid ((fun w' : World => w'.cell? (ad.add k) = some (.int .i64 p) ∧ w'.cell? (bd.add k) = some (.int .i64 q)) wr.drew) := Lib.hid ⟨c0, d0⟩
        have D0 : Hid (Below W.heap.size W wr.drew) := Lib.hid hB.out.drew
        by_cases he : p = q
        · have HD := Lib.hid (EQ.out he)
          have e1 : (p != q) = false := by simp [he]
          clear he EQ NE c0 d0
          go_wp2_with fail
          refine wp_region_held_drew (S := (fun w' : World => w'.cell? (ad.add k) = some (.int .i64 p) ∧ w'.cell? (bd.add k) = some (.int .i64 q))) (by kernel_rfl) HS.out (fun hHeld => ?_)
          refine wpAnyH_take (i := 0) (oi := ⟨_, _, _, _, _, _⟩) (v := ?_) rfl (by kernel_rfl) (by kernel_rfl) (by kernel_rfl) (fun _ _ _ h => h) (Or.inl ⟨by rfl, ?_⟩) (by assumption) ?_
          rotate_left
          · intro w' hSw; (try dsimp only at hSw); go_simp; (try with_reducible rfl)
          try simp only [Act.put, List.setIfInBounds_toArray, List.set_cons_zero, List.set_cons_succ]
          refine wpAnyH_take (i := 1) (oi := ⟨_, _, _, _, _, _⟩) (v := ?_) rfl (by kernel_rfl) (by kernel_rfl) (by kernel_rfl) (fun _ _ _ h => h) (Or.inl ⟨by rfl, ?_⟩) (by assumption) ?_
          rotate_left
          · intro w' hSw; (try dsimp only at hSw); go_simp; (try with_reducible rfl)
          try simp only [Act.put, List.setIfInBounds_toArray, List.set_cons_zero, List.set_cons_succ]
          refine wpAnyH_take (i := 2) (oi := ⟨_, _, _, _, _, _⟩) (v := ?_) rfl (by kernel_rfl) (by kernel_rfl) (by kernel_rfl) (fun _ _ _ h => h) (Or.inl ⟨by rfl, ?_⟩) (by assumption) ?_
          rotate_left
          · intro w' hSw; (try dsimp only at hSw); go_simp; (try with_reducible rfl)
          try simp only [Act.put, List.setIfInBounds_toArray, List.set_cons_zero, List.set_cons_succ]
          refine wpAnyH_take (i := 3) (oi := ⟨_, _, _, _, _, _⟩) (v := ?_) rfl (by kernel_rfl) (by kernel_rfl) (by kernel_rfl) (fun _ _ _ h => h) (Or.inl ⟨by rfl, ?_⟩) (by assumption) ?_
          rotate_left
          · intro w' hSw; (try dsimp only at hSw); go_simp; (try with_reducible rfl)
          try simp only [Act.put, List.setIfInBounds_toArray, List.set_cons_zero, List.set_cons_succ]
          refine wpAnyH_take (i := 4) (oi := ⟨_, _, _, _, _, _⟩) (v := ?_) rfl (by kernel_rfl) (by kernel_rfl) (by kernel_rfl) (fun _ _ _ h => h) (Or.inl ⟨by rfl, ?_⟩) (by assumption) ?_
          rotate_left
          · intro w' hSw; (try dsimp only at hSw); go_simp; (try with_reducible rfl)
          try simp only [Act.put, List.setIfInBounds_toArray, List.set_cons_zero, List.set_cons_succ]
          refine wpAnyH_take (i := 5) (oi := ⟨_, _, _, _, _, _⟩) (v := ?_) rfl (by kernel_rfl) (by kernel_rfl) (by kernel_rfl) (fun _ _ _ h => h) (Or.inl ⟨by rfl, ?_⟩) (by assumption) ?_
          rotate_left
          · intro w' hSw; (try dsimp only at hSw); go_simp; (try with_reducible rfl)
          try simp only [Act.put, List.setIfInBounds_toArray, List.set_cons_zero, List.set_cons_succ]
          refine wpAnyH_take (i := 6) (oi := ⟨_, _, _, _, _, _⟩) (v := ?_) rfl (by kernel_rfl) (by kernel_rfl) (by kernel_rfl) (fun _ _ _ h => h) (Or.inl ⟨by rfl, ?_⟩) (by assumption) ?_
          rotate_left
          · intro w' hSw; (try dsimp only at hSw); go_simp; (try with_reducible rfl)
          try simp only [Act.put, List.setIfInBounds_toArray, List.set_cons_zero, List.set_cons_succ]
          refine wpAnyH_take (i := 7) (oi := ⟨_, _, _, _, _, _⟩) (v := ?_) rfl (by kernel_rfl) (by kernel_rfl) (by kernel_rfl) (fun _ _ _ h => h) (Or.inl ⟨by rfl, ?_⟩) (by assumption) ?_
          rotate_left
          · intro w' hSw; (try dsimp only at hSw); go_simp; (try with_reducible rfl)
          try simp only [Act.put, List.setIfInBounds_toArray, List.set_cons_zero, List.set_cons_succ]
          refine wpAnyH_take (i := 8) (oi := ⟨_, _, _, _, _, _⟩) (v := ?_) rfl (by kernel_rfl) (by kernel_rfl) (by kernel_rfl) (fun _ _ _ h => h) (Or.inl ⟨by rfl, ?_⟩) (by assumption) ?_
          rotate_left
          · intro w' hSw; (try dsimp only at hSw); go_simp; (try with_reducible rfl)
          try simp only [Act.put, List.setIfInBounds_toArray, List.set_cons_zero, List.set_cons_succ]
          refine wpAnyH_done (by kernel_rfl) ?_ _
          clear hHeld
          go_wp2_with fail
          go_roundw
          case rel => exact ⟨k + 1, by omega, by go_num, HD, D0⟩
          case measure => first | (simp [RowKit.intOf]; done) | (simp [RowKit.intOf]; omega)
        · have HD := Lib.hid (NE.out he)
          have e1 : (p != q) = true := by simp [he]
          clear he EQ NE c0 d0
          go_wp2_with fail
          refine wp_region_held_drew (S := (fun w' : World => w'.cell? (ad.add k) = some (.int .i64 p) ∧ w'.cell? (bd.add k) = some (.int .i64 q))) (by kernel_rfl) HS.out (fun hHeld => ?_)
          refine wpAnyH_take (i := 0) (oi := ⟨_, _, _, _, _, _⟩) (v := ?_) rfl (by kernel_rfl) (by kernel_rfl) (by kernel_rfl) (fun _ _ _ h => h) (Or.inl ⟨by rfl, ?_⟩) (by assumption) ?_
          rotate_left
          · intro w' hSw; (try dsimp only at hSw); go_simp; (try with_reducible rfl)
          try simp only [Act.put, List.setIfInBounds_toArray, List.set_cons_zero, List.set_cons_succ]
          refine wpAnyH_take (i := 1) (oi := ⟨_, _, _, _, _, _⟩) (v := ?_) rfl (by kernel_rfl) (by kernel_rfl) (by kernel_rfl) (fun _ _ _ h => h) (Or.inl ⟨by rfl, ?_⟩) (by assumption) ?_
          rotate_left
          · intro w' hSw; (try dsimp only at hSw); go_simp; (try with_reducible rfl)
          try simp only [Act.put, List.setIfInBounds_toArray, List.set_cons_zero, List.set_cons_succ]
          refine wpAnyH_take (i := 2) (oi := ⟨_, _, _, _, _, _⟩) (v := ?_) rfl (by kernel_rfl) (by kernel_rfl) (by kernel_rfl) (fun _ _ _ h => h) (Or.inl ⟨by rfl, ?_⟩) (by assumption) ?_
          rotate_left
          · intro w' hSw; (try dsimp only at hSw); go_simp; (try with_reducible rfl)
          try simp only [Act.put, List.setIfInBounds_toArray, List.set_cons_zero, List.set_cons_succ]
          refine wpAnyH_take (i := 3) (oi := ⟨_, _, _, _, _, _⟩) (v := ?_) rfl (by kernel_rfl) (by kernel_rfl) (by kernel_rfl) (fun _ _ _ h => h) (Or.inl ⟨by rfl, ?_⟩) (by assumption) ?_
          rotate_left
          · intro w' hSw; (try dsimp only at hSw); go_simp; (try with_reducible rfl)
          try simp only [Act.put, List.setIfInBounds_toArray, List.set_cons_zero, List.set_cons_succ]
          refine wpAnyH_take (i := 4) (oi := ⟨_, _, _, _, _, _⟩) (v := ?_) rfl (by kernel_rfl) (by kernel_rfl) (by kernel_rfl) (fun _ _ _ h => h) (Or.inl ⟨by rfl, ?_⟩) (by assumption) ?_
          rotate_left
          · intro w' hSw; (try dsimp only at hSw); go_simp; (try with_reducible rfl)
          try simp only [Act.put, List.setIfInBounds_toArray, List.set_cons_zero, List.set_cons_succ]
          refine wpAnyH_take (i := 5) (oi := ⟨_, _, _, _, _, _⟩) (v := ?_) rfl (by kernel_rfl) (by kernel_rfl) (by kernel_rfl) (fun _ _ _ h => h) (Or.inl ⟨by rfl, ?_⟩) (by assumption) ?_
          rotate_left
          · intro w' hSw; (try dsimp only at hSw); go_simp; (try with_reducible rfl)
          try simp only [Act.put, List.setIfInBounds_toArray, List.set_cons_zero, List.set_cons_succ]
          refine wpAnyH_take (i := 6) (oi := ⟨_, _, _, _, _, _⟩) (v := ?_) rfl (by kernel_rfl) (by kernel_rfl) (by kernel_rfl) (fun _ _ _ h => h) (Or.inl ⟨by rfl, ?_⟩) (by assumption) ?_
          rotate_left
          · intro w' hSw; (try dsimp only at hSw); go_simp; (try with_reducible rfl)
          try simp only [Act.put, List.setIfInBounds_toArray, List.set_cons_zero, List.set_cons_succ]
          refine wpAnyH_take (i := 7) (oi := ⟨_, _, _, _, _, _⟩) (v := ?_) rfl (by kernel_rfl) (by kernel_rfl) (by kernel_rfl) (fun _ _ _ h => h) (Or.inl ⟨by rfl, ?_⟩) (by assumption) ?_
          rotate_left
          · intro w' hSw; (try dsimp only at hSw); go_simp; (try with_reducible rfl)
          try simp only [Act.put, List.setIfInBounds_toArray, List.set_cons_zero, List.set_cons_succ]
          refine wpAnyH_take (i := 8) (oi := ⟨_, _, _, _, _, _⟩) (v := ?_) rfl (by kernel_rfl) (by kernel_rfl) (by kernel_rfl) (fun _ _ _ h => h) (Or.inl ⟨by rfl, ?_⟩) (by assumption) ?_
          rotate_left
          · intro w' hSw; (try dsimp only at hSw); go_simp; (try with_reducible rfl)
          try simp only [Act.put, List.setIfInBounds_toArray, List.set_cons_zero, List.set_cons_succ]
          refine wpAnyH_done (by kernel_rfl) ?_ _
          clear hHeld
          go_wp2_with fail
          go_ret
          exact ⟨ret_bool HD.out, D0.out⟩
      · obtain rfl : k = lb.length := by omega
        have HD := Lib.hid (show true = decide (la = lb) by
          symm
          rw [decide_eq_true_iff]
          have h1 := hT.out
          rwa [List.take_length, List.take_of_length_le (by rw [HL.out]; exact Nat.le_refl _)] at h1)
        clear hT
        go_wp2_with fail
        go_ret
        exact ⟨ret_bool HD.out, hB.out⟩
  · have HD := Lib.hid (show false = decide (la = lb) by
      symm
      rw [decide_eq_false_iff_not]
      intro e
      exact hl (by rw [e]))
    have hne : ((la.length : Int) != (lb.length : Int)) = true := by simp; omega
    clear hl
    go_enter Try.func12, Try.ntmps12
    go_wp2_with fail
    go_ret
    exact ⟨ret_bool HD.out, Below.refl _ _⟩
/-- A token in memory. -/
abbrev tokc (t : Tk) : List Value := [.int .i64 t.1, .int .i64 t.2.1, .int .i64 t.2.2]
theorem tokc_len (t : Tk) : (tokc t).length = 3 := rfl
theorem tokc_flat (t : Tk) : ∀ u ∈ tokc t, u.oneCell' = true := by
  intro u hu
  simp at hu
  rcases hu with rfl | rfl | rfl <;> rfl
abbrev ToksAt (N : Nat → Prop) (W : World) (A : Option Addr) (l : List Tk) : Prop := RowsAt tokc 3 N W A l
abbrev OwnK (W : World) (B : Nat) (v : Value) (l : List Tk) : Prop := OwnW W B 34 3 v l.length (l.flatMap tokc)
theorem ToksAt.at {N : Nat → Prop} {W : World} {A : Option Addr} {l : List Tk} (h : ToksAt N W A l) {k : Nat} (hk : k < l.length) : ∃ ad, A = some ad ∧ ¬ N ad.block ∧ W.cell? (ad.add (k * 3)) = some (.int .i64 l[k].1) ∧ W.cell? ⟨(ad.add (k * 3)).block, (ad.add (k * 3)).off + 1, none⟩ = some (.int .i64 l[k].2.1) ∧ W.cell? ⟨(ad.add (k * 3)).block, (ad.add (k * 3)).off + 2, none⟩ = some (.int .i64 l[k].2.2) := by
  obtain ⟨ad, e, hn, h0, hc⟩ := h.cell hk
  refine ⟨ad, e, hn, h0 _ rfl, ?_, ?_⟩
  · exact (hc 1 _ rfl).resolve_right (by omega)
  · exact (hc 2 _ rfl).resolve_right (by omega)
/-- The place told of a number. -/
def AtP (l : List Tk) (id a : Int) : Prop := (a = -1 ∧ ∀ t ∈ l, t.1 ≠ id) ∨ ∃ i, ∃ h : i < l.length, a = (i : Int) ∧ l[i].1 = id
def AtC (l : List Tk) (id : Int) (W : World) (e : Ending) (w' : World) : Prop := ∃ a, e = .returned (.int .i64 a) ∧ AtP l id a ∧ W = w'
set_option maxRecDepth 100000 in
set_option maxHeartbeats 4000000 in
theorem at_c (A : Option Addr) (c : Nat) (l : List Tk) (id : Int) (W : World) (hI : ToksAt (fun _ => False) W A l) (hl : l.length ≤ 1000000) : Calls Try.prog 10 #[.slice A l.length c, .int .i64 id] W (AtC l id W) := by
  have HI := Lib.hid hI
  have hlI : (l.length : Int) ≤ 1000000 := by omega
  clear hI
  go_enter Try.func10, Try.ntmps10
  go_wp2_with fail
  go_loopw [5] (fun i wr => ∃ k : Nat, k ≤ l.length ∧ i = .int .i64 k ∧ Hid (∀ j (h : j < l.length), j < k → l[j].1 ≠ id) ∧ Hid (W = wr)) (fun i _ => l.length - (RowKit.intOf i).toNat)
  case atStart => exact ⟨0, by omega, rfl, Lib.hid (fun j h1 h2 => by omega), Lib.hid rfl⟩
  case round =>
    obtain ⟨k, hk, rfl, hE, hW⟩ := hrel
    obtain rfl := hW.out
    clear hW
    by_cases hlt : k < l.length
    · have hkI : (k : Int) < (l.length : Int) := by omega
      obtain ⟨ad, rfl, _, c0, -, -⟩ := HI.out.at hlt
      by_cases he : l[k].1 = id
      · have HD : Hid (AtC l id W (.returned (.int .i64 k)) W) := Lib.hid ⟨k, rfl, .inr ⟨k, hlt, rfl, he⟩, rfl⟩
        have e1 : (l[k].1 == id) = true := by simp [he]
        clear he hE
        generalize l[k].1 = x at *
        go_wp2_with fail
        go_ret
        exact HD.out
      · have HD : Hid (∀ j (h : j < l.length), j < k + 1 → l[j].1 ≠ id) := Lib.hid (fun j h1 h2 => by
          by_cases e : j = k
          · subst e; exact he
          · exact hE.out j h1 (by omega))
        have e1 : (l[k].1 == id) = false := by simp [he]
        clear he hE
        generalize l[k].1 = x at *
        go_wp2_with fail
        go_roundw
        case rel => exact ⟨k + 1, by omega, by go_num, HD, Lib.hid trivial⟩
        case measure => first | (simp [RowKit.intOf]; done) | (simp [RowKit.intOf]; omega)
    · obtain rfl : k = l.length := by omega
      have HD : Hid (AtC l id W (.returned (.int .i64 (-1))) W) := Lib.hid ⟨-1, rfl, .inl ⟨rfl, fun t ht => by
        obtain ⟨j, hj, rfl⟩ := List.getElem_of_mem ht
        exact hE.out j hj hj⟩, rfl⟩
      clear hE
      go_wp2_with fail
      go_ret
      exact HD.out
end Go.Proofs.Ytonflknnlfffhaa
