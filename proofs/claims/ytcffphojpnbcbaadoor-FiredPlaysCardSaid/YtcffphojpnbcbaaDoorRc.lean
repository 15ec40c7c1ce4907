/- slices.Index, slices.Contains at []int; refr.Set: Of. -/
import Derived.Test.YtcffphojpnbcbaaDoorRb
namespace Go.Proofs.YtcffphojpnbcbaaDoor
open Go.RowKit Go.Lib KP MR

def IdxPost (l : List Int) (x : Int) (w : World) (e : Ending) (w' : World) : Prop := ∃ n : Int, e = .returned (.int .i64 n) ∧ decide (0 ≤ n) = decide (x ∈ l) ∧ w = w'
theorem index_any (A : Option Addr) (l : List Int) (c : Nat) (x : Int) (w : World) (ra : RowAt w (Value.int .i64) A l) (hl : l.length ≤ 100000) : Calls Tryd.prog 23 #[.slice A l.length c, .int .i64 x] w (IdxPost l x w) := by
  have R := Lib.hid ra
  clear ra
  go_enter Tryd.func23, Tryd.ntmps23
  go_wp2_with fail
  go_loop [5, 8] (fun _ i => ∃ k : Nat, k ≤ l.length ∧ i = .int .i64 k ∧ Hid (x ∉ l.take k)) (fun _ i => l.length - (RowKit.intOf i).toNat)
  case atStart => exact ⟨0, by omega, rfl, Lib.hid (by simp)⟩
  case round =>
    obtain ⟨k, hk, rfl, hN⟩ := hrel
    by_cases hlt : k < l.length
    · obtain ⟨ad, rfl, _, hx⟩ := R.out k hlt
      have hltI : (k : Int) < (l.length : Int) := by omega
      by_cases he : x = l[k]
      · have he' : (x == l[k]) = true := beq_iff_eq.2 he
        have HM : Hid (x ∈ l) := Lib.hid (by rw [he]; exact List.getElem_mem hlt)
        clear he
        go_wp2
        go_ret
        exact ⟨k, rfl, by simp [HM.out], rfl⟩
      · have he' : (x == l[k]) = false := beq_eq_false_iff_ne.2 he
        have HM : Hid (x ∉ l.take (k + 1)) := Lib.hid (by
          rw [List.take_succ_eq_append_getElem hlt]
          intro h
          rcases List.mem_append.1 h with h | h
          · exact hN.out h
          · exact he (by simpa using h))
        clear he
        go_wp2
        go_round
        case rel => exact ⟨k + 1, by omega, by go_num, HM⟩
        case measure => first | (simp [RowKit.intOf]; done) | (simp [RowKit.intOf]; omega)
    · obtain rfl : k = l.length := by omega
      go_wp2
      go_ret
      exact ⟨-1, rfl, by have := hN.out; rw [List.take_length] at this; simp [this], rfl⟩
theorem contains_any (A : Option Addr) (l : List Int) (c : Nat) (x : Int) (w : World) (ra : RowAt w (Value.int .i64) A l) (hl : l.length ≤ 100000) : Calls Tryd.prog 20 #[.slice A l.length c, .int .i64 x] w fun e w' => e = .returned (.bool (decide (x ∈ l))) ∧ w = w' := by
  have HI := Lib.hid (index_any A l c x w ra hl)
  clear ra
  generalize hd : decide (x ∈ l) = v
  have HD := Lib.hid hd; clear hd
  go_enter Tryd.func20, Tryd.ntmps20
  go_wp2_with fail
  refine HI.out.mono ?_
  rintro e w' ⟨n, rfl, hn, rfl⟩
  have HN := Lib.hid hn; clear hn
  go_wp2
  go_ret
  exact ⟨ret_bool (by rw [HN.out, HD.out]), rfl⟩

/-! ### how many of a row of pairs are of a kind -/
section
variable {K V : Type} [DecidableEq K]
theorem perm_but {todo : List (K × V)} {p : K × V} (hn : (todo.map (·.1)).Nodup) (hp : p ∈ todo) : todo.Perm (p :: todo.filter fun q => decide (q.1 ≠ p.1)) := by
  induction todo with
  | nil => cases hp
  | cons q t ih =>
    simp only [List.map_cons, List.nodup_cons] at hn
    rcases List.mem_cons.1 hp with rfl | hp
    · rw [List.filter_cons_of_neg (by simp)]
      have : t.filter (fun q => decide (q.1 ≠ p.1)) = t := by
        rw [List.filter_eq_self]
        intro x hx
        have : x.1 ≠ p.1 := fun e => hn.1 (e ▸ List.mem_map.2 ⟨x, hx, rfl⟩)
        simpa using this
      rw [this]
    · have hne : q.1 ≠ p.1 := fun e => hn.1 (e ▸ List.mem_map.2 ⟨p, hp, rfl⟩)
      rw [List.filter_cons_of_pos (by simpa using hne)]
      exact (List.Perm.cons q (ih hn.2 hp)).trans (List.Perm.swap _ _ _)
theorem count_but {todo : List (K × V)} {p : K × V} (f : K × V → Bool) (hn : (todo.map (·.1)).Nodup) (hp : p ∈ todo) : (todo.filter f).length = ((todo.filter fun q => decide (q.1 ≠ p.1)).filter f).length + if f p = true then 1 else 0 := by
  rw [((perm_but hn hp).filter f).length_eq, List.filter_cons]
  split <;> simp
end
def hasF (ws : List Wy) (fact : Int) (p : ByteArray × EV) : Bool := ws.any fun x => decide (x.p.1 = p.1) && decide (fact ∈ x.t.2.2)
theorem hasF_is {ws : List Wy} {fact : Int} {x : Wy} (hx : x ∈ ws) : hasF ws fact x.p = decide (fact ∈ x.t.2.2) := by
  unfold hasF
  rw [Bool.eq_iff_iff, List.any_eq_true, decide_eq_true_iff]
  constructor
  · rintro ⟨y, hy, h⟩
    simp only [Bool.and_eq_true, decide_eq_true_eq] at h
    have : y.t = x.t := keyB_inj h.1
    rw [← this]; exact h.2
  · intro h
    exact ⟨x, hx, by simp [h]⟩
/-- How many ways have a fact. -/
def withF (T : List Wt) (fact : Int) : Nat := (T.filter fun t => decide (fact ∈ t.2.2)).length

set_option maxHeartbeats 1000000 in
theorem set_of {B g m : Nat} {w0 W : World} {T : List Wt} (fact : Int) (hI : Inv B w0 g m T W) (hB : B ≤ W.heap.size) (hT : T.length ≤ 100000) (hF : ∀ t ∈ T, t.2.2.length ≤ 1000) :
    Calls Tryd.prog 14 #[.pointer (some ⟨g, 0, none⟩), .int .i64 fact] W fun e w' => e = .returned (.int .i64 (withF T fact)) ∧ Below W.heap.size W w' := by
  have hc := hI.cell
  have HG := Lib.hid (fun w' (h : Below W.heap.size W w') => hI.grow h hB)
  obtain ⟨ws, e, h1, h2, h3, h4, h5, h6⟩ := hI
  have hn := Lib.hid h2.nodup
  have hT2 : ws.length ≤ 100000 := by rw [← e] at hT; simpa using hT
  have HW : Hid (∀ p ∈ ws.map Wy.p, ∃ x ∈ ws, x.p = p ∧ ∀ w', Below W.heap.size W w' → RowAt w' (Value.int .i64) x.A x.t.2.2) := Lib.hid (fun p hp => by
    obtain ⟨x, hx, rfl⟩ := List.mem_map.1 hp
    refine ⟨x, hx, rfl, fun w' hw k hk => ?_⟩
    obtain ⟨b, e1, _, _, _, e2⟩ := (h6 x hx).keep (Keep.of_below hw _) k hk
    have e3 : (⟨b, 0, none⟩ : Addr).add k = ⟨b, k, none⟩ := by simp [Addr.add]; omega
    refine ⟨_, e1, ?_⟩
    rw [e3]
    exact ⟨World.block_lt_of_cell? _ _ e2, e2⟩)
  have HF : Hid (∀ x ∈ ws, x.t.2.2.length ≤ 1000) := Lib.hid (fun x hx => hF _ (by rw [← e]; exact List.mem_map.2 ⟨x, hx, rfl⟩))
  have HR : Hid (((ws.map Wy.p).filter (hasF ws fact)).length = withF T fact) := Lib.hid (by
    unfold withF
    rw [← e, filter_map_p ws (fun t => decide (fact ∈ t.2.2)) _ (fun x hx => hasF_is hx), ← filter_map_t ws (fun t => decide (fact ∈ t.2.2))]
    simp)
  have hR9 : withF T fact ≤ 100000 := Nat.le_trans (List.length_filter_le _ _) hT
  generalize withF T fact = R at *
  have hL : (ws.map Wy.p).length ≤ 100000 := by simpa using hT2
  generalize hL0 : ws.map Wy.p = L0 at *
  have HL0 := Lib.hid hL0
  clear hL0 e h1 h6 hT hF
  have HI := Lib.hid h2
  go_enter Tryd.func14, Tryd.ntmps14
  go_wp2_with (at_range; refine wp_range rfl (.tmp 11) 37 rfl Tryd.underlying37 HI.out rfl ?_; intro w1 hi0 hg0 hs0)
  go_frame
  have hk0 : Below W.heap.size W w1 := ⟨hg0.os, hg0.tape, hg0.output, hg0.size, fun k hk => hg0.block k hk (by simp)⟩
  go_loopw [5, 7] (fun n _ wr => ∃ todo, ∃ k : Nat, n = .int .i64 k ∧ k ≤ R ∧ Hid (Iter wr W.heap.size m Value.string eW L0 todo) ∧ Hid (∀ p ∈ todo, p ∈ L0) ∧ Hid ((todo.map (·.1)).Nodup) ∧ Hid (k + (todo.filter (hasF ws fact)).length = R) ∧ Hid (Below W.heap.size W wr)) (fun _ _ wr => leftN wr W.heap.size m)
  case atStart => exact ⟨L0, 0, rfl, Nat.zero_le _, Lib.hid hi0, Lib.hid (fun _ h => h), hn, Lib.hid (by rw [Nat.zero_add]; exact HR.out), Lib.hid hk0⟩
  case round =>
    obtain ⟨todo, n, rfl, hn9, hi, hsub, hnd, hcnt, hB9⟩ := hrel
    have hm0 := Lib.hid (hi.out.left)
    go_wp2_with (at_next; refine refr_next rfl (.tmp 12) rfl hi.out rfl ?_ ?_)
    · intro ht
      have HT := Lib.hid ht; clear ht
      go_wp2
      go_ret
      exact ⟨by have := hcnt.out; rw [HT.out] at this; simp at this; rw [← this]; rfl, hB9.out⟩
    · intro k rr A nn c w2 hp hi1 hg1 hs1 hen
      have hk1 : Below W.heap.size W w2 := hB9.out.trans ⟨hg1.os, hg1.tape, hg1.output, hg1.size, fun k hk => hg1.block k (Nat.lt_of_lt_of_le hk hB9.out.size) (by intro e; injection e with e; omega)⟩
      obtain ⟨x, hx, ex, hrow⟩ := HW.out _ (hsub.out _ hp)
      have hb1 := (Below.refl _ w2).alloc (Nat.le_refl _) (.cells #[.int .i64 rr, .slice A nn c] 42)
      have HRow := Lib.hid (hrow _ (hk1.trans (hb1.mono hk1.size)))
      have X : Hid (Iter (w2.alloc (.cells #[.int .i64 rr, .slice A nn c] 42)) W.heap.size m Value.string eW L0 (but todo k)) := Lib.hid (hi1.move (hb1.block m hi1.isMap.lt) (hb1.block _ hi1.lt))
      have HP := Lib.hid (count_but (hasF ws fact) hnd.out hp)
      have HL := Lib.hid (todo_less hp)
      have HS : Hid (∀ q ∈ but todo k, q ∈ L0) := Lib.hid (fun q hq => hsub.out q (List.mem_filter.1 hq).1)
      have HN2 : Hid (((but todo k).map (·.1)).Nodup) := Lib.hid ((List.filter_sublist.map _).nodup hnd.out)
      have HX := Lib.hid (hasF_is (fact := fact) hx)
      have hlen := HF.out x hx
      have BW := Lib.hid (hk1.trans (hb1.mono hk1.size))
      rw [ex] at HX
      obtain ⟨⟨wr0, wal, wl⟩, wA, wc⟩ := x
      simp only [Wy.p, Prod.mk.injEq] at ex
      obtain ⟨ek, er, eA, en, ec⟩ := ex
      subst er eA en ec
      clear hp hi1 hg1 hs1 hk1 hb1 hrow hx
      dsimp only at *
      have HC := Lib.hid (contains_any wA wl wc fact _ HRow.out (by omega))
      clear ek
      go_wp2_with fail
      clear hen
      by_cases hm : fact ∈ wl
      · have HCN : Hid (n + 1 + ((but todo k).filter (hasF ws fact)).length = R) := Lib.hid (by
          have h1 := hcnt.out
          have h2 := HP.out
          rw [HX.out, if_pos (decide_eq_true hm)] at h2
          unfold but; omega)
        have hnR : n + 1 ≤ R := by have := HCN.out; omega
        have hC := HC.out
        rw [decide_eq_true hm] at hC
        refine hC.mono ?_
        clear hC hm
        rintro e w3 ⟨rfl, rfl⟩
        go_wp2
        go_roundw
        case rel => exact ⟨_, n + 1, by go_num, hnR, X, HS, HN2, HCN, BW⟩
        case measure => rw [X.out.left, hm0.out]; exact HL.out
      · have HCN : Hid (n + ((but todo k).filter (hasF ws fact)).length = R) := Lib.hid (by
          have h1 := hcnt.out
          have h2 := HP.out
          rw [HX.out, if_neg (by simp [hm])] at h2
          unfold but; omega)
        have hC := HC.out
        rw [decide_eq_false hm] at hC
        refine hC.mono ?_
        clear hC hm
        rintro e w3 ⟨rfl, rfl⟩
        go_wp2
        go_roundw
        case rel => exact ⟨_, n, rfl, hn9, X, HS, HN2, HCN, BW⟩
        case measure => rw [X.out.left, hm0.out]; exact HL.out
end Go.Proofs.YtcffphojpnbcbaaDoor
