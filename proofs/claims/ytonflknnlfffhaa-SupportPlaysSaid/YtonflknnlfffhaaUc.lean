/- slices.IndexFunc, ContainsFunc, DeleteFunc at supports. -/
import Derived.Test.YtonflknnlfffhaaUb
namespace Go.Proofs.Ytonflknnlfffhaa
open Go.RowKit Go.Lib KP MR RW
theorem keepB {W W' : World} {g : Nat} {o : Obj} (h : W.heap[g]? = some o) (b : Below W.heap.size W W') : W'.heap[g]? = some o :=
  (b.block g (Array.getElem?_eq_some_iff.1 h).1).trans h
abbrev OwnY (W : World) (B : Nat) (v : Value) (L : List Wf) : Prop := OwnW W B 50 3 v L.length (L.flatMap whyc)
theorem OwnY.row {W : World} {B : Nat} {v : Value} {L : List Wf} (h : OwnY W B v L) : ∃ A c, v = .slice A L.length c ∧ RowsAt whyc 3 (fun _ => False) W A L ∧ (A = none → c = 0) ∧ L.length ≤ c := by
  obtain ⟨A, c, e, hr, _, hc, hA⟩ := OwnW.rows (N := fun _ => False) whyc_len (by decide) h (fun _ _ h => h)
  exact ⟨A, c, e, hr, hA, hc⟩
theorem whys_at {N : Nat → Prop} {W : World} {A : Option Addr} {l : List Wf} (h : RowsAt whyc 3 N W A l) {k : Nat} (hk : k < l.length) : ∃ ad, A = some ad ∧ ¬ N ad.block ∧ W.cell? (ad.add (k * 3)) = some (.int .i64 l[k].1.1) ∧ W.cell? ⟨(ad.add (k * 3)).block, (ad.add (k * 3)).off + 1, none⟩ = some (.int .i64 l[k].1.2.1) ∧ W.cell? ⟨(ad.add (k * 3)).block, (ad.add (k * 3)).off + 2, none⟩ = some l[k].sl := by
  obtain ⟨ad, e, hn, h0, hc⟩ := h.cell hk
  refine ⟨ad, e, hn, h0 _ rfl, ?_, ?_⟩
  · exact (hc 1 _ rfl).resolve_right (by omega)
  · exact (hc 2 _ rfl).resolve_right (by omega)
/-- The place that IndexFunc tells. -/
def IdxR (L : List Wf) (p : Wf → Bool) (W : World) (e : Ending) (w' : World) : Prop :=
  ∃ a : Int, e = .returned (.int .i64 a) ∧ ((a = -1 ∧ ∀ y ∈ L, p y = false) ∨ ∃ i, ∃ h : i < L.length, a = (i : Int) ∧ p L[i] = true ∧ ∀ j (hj : j < i), p (L[j]'(by omega)) = false) ∧ Below W.heap.size W w'
def DelR (L : List Wf) (p : Wf → Bool) (v : Value) (B : Nat) (W : World) (e : Ending) (w' : World) : Prop :=
  ∃ v', e = .returned v' ∧ OwnY w' B v' (L.filter fun y => !p y) ∧ v'.ownBlock = v.ownBlock ∧ Keep (fun k => v.ownBlock = some k) W w'
set_option maxRecDepth 100000 in
set_option maxHeartbeats 4000000 in
theorem indexI_c (A : Option Addr) (c b : Nat) (L : List Wf) (p : Wf → Bool) (Iv : World → Prop) (W : World) (hI : RowsAt whyc 3 (fun _ => False) W A L) (h0 : Iv W) (hbel : ∀ w1 w2, Iv w1 → Below w1.heap.size w1 w2 → Iv w2)
    (hp : ∀ W' y, y ∈ L → Iv W' → Calls Try.prog 59 #[y.val, .pointer (some ⟨b, 0, none⟩)] W' fun e w' => e = .returned (.bool (p y)) ∧ Below W'.heap.size W' w') (hl : L.length ≤ 100000) :
    Calls Try.prog 58 #[.slice A L.length c, .func (.func 59) #[] #[.pointer (some ⟨b, 0, none⟩)]] W (IdxR L p W) := by
  have HI := Lib.hid (fun w' (h : Below W.heap.size W w') => RowsAt.below hI h)
  have HP := Lib.hid hp
  have HB := Lib.hid hbel
  have hlI : (L.length : Int) ≤ 100000 := by omega
  have H0 := Lib.hid h0
  clear hI hp hbel h0
  go_enter Try.func58, Try.ntmps58
  go_wp2_with fail
  go_loopw [8] (fun i wr => ∃ k : Nat, k ≤ L.length ∧ i = .int .i64 k ∧ Hid (∀ j (h : j < L.length), j < k → p L[j] = false) ∧ Hid (Iv wr) ∧ Hid (Below W.heap.size W wr)) (fun i _ => L.length - (RowKit.intOf i).toNat)
  case atStart => exact ⟨0, by omega, rfl, Lib.hid (fun _ _ h => by omega), H0, Lib.hid (Below.refl _ _)⟩
  case round =>
    obtain ⟨k, hk, rfl, hE, hV, hBe⟩ := hrel
    by_cases hlt : k < L.length
    · have hkI : (k : Int) < (L.length : Int) := by omega
      obtain ⟨ad, rfl, -, c0, c1, c2⟩ := whys_at (HI.out _ hBe.out) hlt
      have HC := Lib.hid (HP.out wr L[k] (List.getElem_mem hlt) hV.out)
      obtain ⟨r, hr⟩ : ∃ r, Hid (r = p L[k]) := ⟨_, Lib.hid rfl⟩
      rw [← hr.out] at HC
      have HN : Hid (r = false → ∀ j (h : j < L.length), j < k + 1 → p L[j] = false) := Lib.hid (fun h j h1 h2 => by
        by_cases e : j = k
        · subst e; rw [← hr.out]; exact h
        · exact hE.out j h1 (by omega))
      have HY : Hid (∀ w', Below W.heap.size W w' → r = true → IdxR L p W (.returned (.int .i64 k)) w') := Lib.hid (fun w' hb h => ⟨k, rfl, .inr ⟨k, hlt, rfl, by rw [← hr.out]; exact h, fun j hj => hE.out j (by omega) hj⟩, hb⟩)
      generalize L[k] = y at *
      obtain ⟨⟨y1, y2, y3⟩, yA, yc⟩ := y
      dsimp only at c0 c1 c2 HC
      clear hE hr
      go_wp2_with fail
      refine HC.out.mono ?_
      rintro e w3 ⟨rfl, b3⟩
      have V3 := Lib.hid (HB.out _ _ hV.out b3)
      have E3 := Lib.hid (hBe.out.trans (b3.mono hBe.out.size))
      clear b3 HC
      cases r with
      | true =>
        have HD := Lib.hid (HY.out w3 E3.out rfl)
        clear HY HN
        go_wp2_with fail
        go_ret
        exact HD.out
      | false =>
        have HD := Lib.hid (HN.out rfl)
        clear HY HN
        go_wp2_with fail
        go_roundw
        case rel => exact ⟨k + 1, by omega, by go_num, HD, V3, E3⟩
        case measure => first | (simp [RowKit.intOf]; done) | (simp [RowKit.intOf]; omega)
    · obtain rfl : k = L.length := by omega
      have HD : Hid (IdxR L p W (.returned (.int .i64 (-1))) wr) := Lib.hid ⟨-1, rfl, .inl ⟨rfl, fun y hy => by
        obtain ⟨j, hj, rfl⟩ := List.getElem_of_mem hy
        exact hE.out j hj hj⟩, hBe.out⟩
      clear hE
      go_wp2_with fail
      go_ret
      exact HD.out
set_option maxRecDepth 100000 in
set_option maxHeartbeats 4000000 in
theorem indexS_c (A : Option Addr) (c b : Nat) (L : List Wf) (p : Wf → Bool) (Iv : World → Prop) (W : World) (hI : RowsAt whyc 3 (fun _ => False) W A L) (h0 : Iv W) (hbel : ∀ w1 w2, Iv w1 → Below w1.heap.size w1 w2 → Iv w2)
    (hp : ∀ W' y, y ∈ L → Iv W' → Calls Try.prog 61 #[y.val, .pointer (some ⟨b, 0, none⟩)] W' fun e w' => e = .returned (.bool (p y)) ∧ Below W'.heap.size W' w') (hl : L.length ≤ 100000) :
    Calls Try.prog 58 #[.slice A L.length c, .func (.func 61) #[] #[.pointer (some ⟨b, 0, none⟩)]] W (IdxR L p W) := by
  have HI := Lib.hid (fun w' (h : Below W.heap.size W w') => RowsAt.below hI h)
  have HP := Lib.hid hp
  have HB := Lib.hid hbel
  have hlI : (L.length : Int) ≤ 100000 := by omega
  have H0 := Lib.hid h0
  clear hI hp hbel h0
  go_enter Try.func58, Try.ntmps58
  go_wp2_with fail
  go_loopw [8] (fun i wr => ∃ k : Nat, k ≤ L.length ∧ i = .int .i64 k ∧ Hid (∀ j (h : j < L.length), j < k → p L[j] = false) ∧ Hid (Iv wr) ∧ Hid (Below W.heap.size W wr)) (fun i _ => L.length - (RowKit.intOf i).toNat)
  case atStart => exact ⟨0, by omega, rfl, Lib.hid (fun _ _ h => by omega), H0, Lib.hid (Below.refl _ _)⟩
  case round =>
    obtain ⟨k, hk, rfl, hE, hV, hBe⟩ := hrel
    by_cases hlt : k < L.length
    · have hkI : (k : Int) < (L.length : Int) := by omega
      obtain ⟨ad, rfl, -, c0, c1, c2⟩ := whys_at (HI.out _ hBe.out) hlt
      have HC := Lib.hid (HP.out wr L[k] (List.getElem_mem hlt) hV.out)
      obtain ⟨r, hr⟩ : ∃ r, Hid (r = p L[k]) := ⟨_, Lib.hid rfl⟩
      rw [← hr.out] at HC
      have HN : Hid (r = false → ∀ j (h : j < L.length), j < k + 1 → p L[j] = false) := Lib.hid (fun h j h1 h2 => by
        by_cases e : j = k
        · subst e; rw [← hr.out]; exact h
        · exact hE.out j h1 (by omega))
      have HY : Hid (∀ w', Below W.heap.size W w' → r = true → IdxR L p W (.returned (.int .i64 k)) w') := Lib.hid (fun w' hb h => ⟨k, rfl, .inr ⟨k, hlt, rfl, by rw [← hr.out]; exact h, fun j hj => hE.out j (by omega) hj⟩, hb⟩)
      generalize L[k] = y at *
      obtain ⟨⟨y1, y2, y3⟩, yA, yc⟩ := y
      dsimp only at c0 c1 c2 HC
      clear hE hr
      go_wp2_with fail
      refine HC.out.mono ?_
      rintro e w3 ⟨rfl, b3⟩
      have V3 := Lib.hid (HB.out _ _ hV.out b3)
      have E3 := Lib.hid (hBe.out.trans (b3.mono hBe.out.size))
      clear b3 HC
      cases r with
      | true =>
        have HD := Lib.hid (HY.out w3 E3.out rfl)
        clear HY HN
        go_wp2_with fail
        go_ret
        exact HD.out
      | false =>
        have HD := Lib.hid (HN.out rfl)
        clear HY HN
        go_wp2_with fail
        go_roundw
        case rel => exact ⟨k + 1, by omega, by go_num, HD, V3, E3⟩
        case measure => first | (simp [RowKit.intOf]; done) | (simp [RowKit.intOf]; omega)
    · obtain rfl : k = L.length := by omega
      have HD : Hid (IdxR L p W (.returned (.int .i64 (-1))) wr) := Lib.hid ⟨-1, rfl, .inl ⟨rfl, fun y hy => by
        obtain ⟨j, hj, rfl⟩ := List.getElem_of_mem hy
        exact hE.out j hj hj⟩, hBe.out⟩
      clear hE
      go_wp2_with fail
      go_ret
      exact HD.out
set_option maxRecDepth 100000 in
set_option maxHeartbeats 2000000 in
theorem contains_c (A : Option Addr) (c b : Nat) (L : List Wf) (p : Wf → Bool) (Iv : World → Prop) (W : World) (hI : RowsAt whyc 3 (fun _ => False) W A L) (h0 : Iv W) (hbel : ∀ w1 w2, Iv w1 → Below w1.heap.size w1 w2 → Iv w2)
    (hp : ∀ W' y, y ∈ L → Iv W' → Calls Try.prog 59 #[y.val, .pointer (some ⟨b, 0, none⟩)] W' fun e w' => e = .returned (.bool (p y)) ∧ Below W'.heap.size W' w') (hl : L.length ≤ 100000) :
    Calls Try.prog 45 #[.slice A L.length c, .func (.func 59) #[] #[.pointer (some ⟨b, 0, none⟩)]] W fun e w' => e = .returned (.bool (L.any p)) ∧ Below W.heap.size W w' := by
  have HX := Lib.hid (indexI_c A c b L p Iv W hI h0 hbel hp hl)
  clear hI h0 hbel hp
  go_enter Try.func45, Try.ntmps45
  go_wp2_with fail
  refine HX.out.mono ?_
  rintro e w1 ⟨a, rfl, hr, b1⟩
  have B1 := Lib.hid b1
  rcases hr with ⟨rfl, hn⟩ | ⟨i, hi, rfl, hy, _⟩
  · have HD := Lib.hid (show false = L.any p by symm; rw [List.any_eq_false]; intro y hy; rw [hn y hy]; decide)
    clear hn b1 HX
    go_wp2_with fail
    go_ret
    exact ⟨ret_bool HD.out, B1.out⟩
  · have HD := Lib.hid (show true = L.any p by symm; rw [List.any_eq_true]; exact ⟨_, List.getElem_mem hi, hy⟩)
    have hiI : (0 : Int) ≤ (i : Int) := by omega
    clear hy b1 HX
    go_wp2_with fail
    go_ret
    exact ⟨ret_bool HD.out, B1.out⟩

end Go.Proofs.Ytonflknnlfffhaa
