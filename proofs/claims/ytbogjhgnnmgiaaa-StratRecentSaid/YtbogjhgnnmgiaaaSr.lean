/- StratRecent: the walk. -/
import Derived.Test.YtbogjhgnnmgiaaaSq
import Derived.Maps.AppendAt
namespace Go.Proofs.Ytbogjhgnnmgiaaa
open Go.Shelf Go.RowKit Go.Lib

theorem owns_full (W : World) (vs : Array Value) (B : Nat) (hB : B ≤ W.heap.size) (hm : vs.size ≤ maxLen) : (W.alloc (.cells vs 3)).ownsRow B 3 1 (.slice (some ⟨W.heap.size, 0, none⟩) vs.size vs.size) vs.size vs.toList :=
  ⟨by simp, .inr ⟨W.heap.size, vs.size, vs, rfl, hB, heap1 _ _, Nat.le_refl _, hm, by simp, by simp [List.take_of_length_le]⟩⟩

theorem owns_one (W : World) (x : Int) (B : Nat) (hB : B ≤ W.heap.size) : (W.alloc (.cells #[.int .i64 x] 3)).ownsRow B 3 1 (.slice (some ⟨W.heap.size, 0, none⟩) 1 1) 1 [.int .i64 x] := owns_full W #[.int .i64 x] B hB (by unfold maxLen; simp)

/-- A way's cells, of facts, born and nothing else. -/
def Cells7 (W : World) (g : Nat) (A : Option Addr) (n c : Nat) (b : Int) : Prop :=
  W.cell? ⟨g, 0, none⟩ = some (.int .i64 0) ∧ W.cell? ⟨g, 1, none⟩ = some (.int .i64 0) ∧ W.cell? ⟨g, 2, none⟩ = some (.slice A n c) ∧ W.cell? ⟨g, 3, none⟩ = some (.int .i64 0) ∧ W.cell? ⟨g, 4, none⟩ = some (.int .i64 0) ∧ W.cell? ⟨g, 5, none⟩ = some (.int .i64 b) ∧ W.cell? ⟨g, 6, none⟩ = some (.int .i64 0)
theorem cells7_of {W : World} {g : Nat} {A : Option Addr} {n c : Nat} {b : Int} (h : W.heap[g]? = some (.cells #[.int .i64 0, .int .i64 0, .slice A n c, .int .i64 0, .int .i64 0, .int .i64 b, .int .i64 0] 24 (0, 0))) : Cells7 W g A n c b :=
  ⟨KP.block_cell h rfl, KP.block_cell h rfl, KP.block_cell h rfl, KP.block_cell h rfl, KP.block_cell h rfl, KP.block_cell h rfl, KP.block_cell h rfl⟩
theorem row_nil {W : World} {A : Option Addr} {l : List Int} {c : Nat} (h : RowAt W (Value.int .i64) A l) (hl : 0 < l.length) : A = none → c = 0 := by
  intro e
  obtain ⟨a, e2, _⟩ := h 0 hl
  rw [e] at e2; cases e2
theorem fac_v (A : Option Addr) (l : List Int) (c n : Nat) (b : Int) (hn : l.length = n) : (facV A l c b).v = .agg #[.int .i64 0, .int .i64 0, .slice A n c, .int .i64 0, .int .i64 0, .int .i64 b, .int .i64 0] := by subst hn; rfl
theorem fac_before (s : Int) {A1 A2 : Option Addr} {l1 l2 : List Int} {c1 c2 n1 n2 : Nat} {b1 b2 : Int} {W0 W : World} (r1 : RowAt W0 (Value.int .i64) A1 l1) (r2 : RowAt W0 (Value.int .i64) A2 l2) (h1 : l1.length = n1) (h2 : l2.length = n2) (p1 : 0 < n1) (p2 : 0 < n2) (q1 : n1 ≤ 1000) (q2 : n2 ≤ 1000) (hW : Below W0.heap.size W0 W) :
    Calls Try.prog 12 #[.int .i64 s, .agg #[.int .i64 0, .int .i64 0, .slice A1 n1 c1, .int .i64 0, .int .i64 0, .int .i64 b1, .int .i64 0], .agg #[.int .i64 0, .int .i64 0, .slice A2 n2 c2, .int .i64 0, .int .i64 0, .int .i64 b2, .int .i64 0]] W
      fun e w' => e = .returned (.bool (before s (facV A1 l1 c1 b1) (facV A2 l2 c2 b2))) ∧ Below W0.heap.size W0 w' := by
  have h := before_w s (facV A1 l1 c1 b1) (facV A2 l2 c2 b2) (W0 := W0) (W := W) ⟨r1, row_nil r1 (by omega), by show l1.length ≤ 1000; omega⟩ ⟨r2, row_nil r2 (by omega), by show l2.length ≤ 1000; omega⟩ hW
  rwa [fac_v A1 l1 c1 n1 b1 h1, fac_v A2 l2 c2 n2 b2 h2] at h

set_option maxHeartbeats 2000000 in
theorem recent_out (A : Option Addr) (c n : Nat) (top : Int) (w : World) (h : n = 0 ∨ 20 < n) :
    Calls Try.prog 9 #[.slice A n c, .int .i64 top] w fun e w' => e = .returned (.bool true) ∧ Below w.heap.size w w' := by
  rcases h with rfl | h
  · go_enter Try.func9, Try.ntmps9
    go_wp2_with fail
    refine (known_any _).mono ?_
    rintro e w1 ⟨rfl, b1⟩
    have E1 := Lib.hid b1; clear b1
    go_wp2_with fail
    go_ret
    exact ⟨rfl, E1.out⟩
  · have h1 : (20 : Int) < (n : Int) := by omega
    have h2 : ((n : Int) == 0) = false := beq_eq_false_iff_ne.2 (by omega)
    go_enter Try.func9, Try.ntmps9
    go_wp2_with fail
    refine (known_any _).mono ?_
    rintro e w1 ⟨rfl, b1⟩
    have E1 := Lib.hid b1; clear b1
    go_wp2_with fail
    go_ret
    exact ⟨rfl, E1.out⟩

set_option maxHeartbeats 2000000 in
theorem recent_in (ad : Addr) (c : Nat) (l : List Int) (top : Int) (w : World) (h0 : 0 < l.length) (h20 : l.length ≤ 20) (ra : RowAt w (Value.int .i64) (some ad) l) :
    Calls Try.prog 9 #[.slice (some ad) l.length c, .int .i64 top] w fun e w' => e = .returned (.bool true) ∧ Below w.heap.size w w' := by
  have hz : ((l.length : Int) == 0) = false := beq_eq_false_iff_ne.2 (by omega)
  have h20' : (l.length : Int) ≤ 20 := by omega
  have R := Lib.hid (fun W (h : Below w.heap.size w W) => ra.below h)
  clear ra
  obtain ⟨i0, hi0, hz0, hz1, hz2⟩ := info_parts info3
  have I := Lib.hid (And.intro hi0 (And.intro hz0 (And.intro hz1 hz2))); clear hi0 hz0 hz1 hz2
  go_enter Try.func9, Try.ntmps9
  go_wp2_with fail
  refine (known_any _).mono ?_
  rintro e w1 ⟨rfl, b1⟩
  have E1 := Lib.hid b1; clear b1
  go_wp2_with fail
  go_loop [5] (fun i => ∃ k : Nat, k ≤ l.length ∧ i = .int .i64 k ∧ ∀ j (h : j < l.length), j < k → l[j] < top) (fun i => l.length - (intOf i).toNat)
  case atStart => exact ⟨0, by omega, rfl, fun j _ h => absurd h (by omega)⟩
  case round =>
    obtain ⟨k, hk, rfl, hall⟩ := hrel
    by_cases hlt : k < l.length
    · obtain ⟨a', e, _, hc⟩ := R.out _ E1.out k hlt
      injection e with e; subst e
      have HA := Lib.hid hall; clear hall
      by_cases hx1 : l[k] < 1
      · go_wp2_with fail
        go_ret
        exact ⟨rfl, E1.out⟩
      · by_cases hx2 : top ≤ l[k]
        · go_wp2_with fail
          go_ret
          exact ⟨rfl, E1.out⟩
        · go_wp2_with fail
          go_round
          case rel => exact ⟨k + 1, by omega, by go_num, fun j h hj => if e : j = k then by subst e; omega else HA.out j h (by omega)⟩
          case measure => simp [intOf]; omega
    · have hall' : ∀ x ∈ l, x < top := by
        intro x hx
        obtain ⟨j, hj, rfl⟩ := List.getElem_of_mem hx
        exact hall j hj (by omega)
      have HL := Lib.hid (fun A1 A2 A3 c1 c2 c3 => recent_law h0 hall' A1 A2 A3 c1 c2 c3)
      clear hall hall'
      have hk' : (l.length : Int) ≤ (k : Int) := by omega
      -- l and the last one
      have hown := World.ownsRow_made (base := w1.heap.size) (e := 3) (size := 1) w1 #[] 0 (Nat.le_refl _) (by unfold maxLen; omega) rfl
      have hrow := R.out _ (E1.out.trans ((bel1 w1 (.cells #[] 3)).mono E1.out.size))
      have HO := Lib.hid hown; clear hown
      have HR := Lib.hid (news_of_row hrow); clear hrow
      go_wp2_with (at_builtin; refine wpList_append_own _ rfl (.tmp 38) (.tmp 39) 22 rfl w1.heap.size 3 i0 (.int .i64 0) 1 8 Try.underlying22 I.out.1 I.out.2.1 I.out.2.2.1 I.out.2.2.2 rfl (by decide) _ 0 [] rfl HO.out ad l.length c (l.map (Value.int .i64)) rfl ?c0 HR.out ?c2 ?c3 ?c4 ?c5 ?_)
      case c2 => intro u hu; rfl
      case c3 => unfold maxLen; omega
      case c4 => omega
      intro v' w2 hown hg hnil
      have E2 : Hid (Below w1.heap.size w1 w2) := Lib.hid ((bel1 w1 _).grown hg (by simp) (fun k h => by simp [Value.ownBlock] at h; omega))
      have HO2 := Lib.hid (hown.alloc (.cells #[.int .i64 top] 3)); clear hown hg hnil HO HR
      go_wp2_with (at_builtin; refine wpList_append_own _ rfl (.tmp 40) (.tmp 42) 22 rfl w1.heap.size 3 i0 (.int .i64 0) 1 8 Try.underlying22 I.out.1 I.out.2.1 I.out.2.2.1 I.out.2.2.2 rfl (by decide) _ l.length _ rfl HO2.out ⟨w2.heap.size, 0, none⟩ 1 1 [.int .i64 top] rfl ?d0 (cell_one_new _ _ _) ?d2 ?d3 ?d4 ?d5 ?_)
      all_goals try (first | (intro u hu; simp at hu; subst hu; rfl) | rfl | (unfold maxLen; omega) | omega | (have := E2.out.size; simp; omega))
      intro v' w3 hown hg hnil
      have E3 : Hid (Below w1.heap.size w1 w3) := Lib.hid ((E2.out.alloc E2.out.size _).grown hg (by have := E2.out.size; simp; omega) (fun k h => (HO2.out.lt k h).1))
      obtain ⟨A1, c1, rfl, hr1, _⟩ := rowAt_owns (g := Value.int .i64) (l := l ++ [top]) (by simpa using hown)
      have R1 := Lib.hid hr1; clear hr1 hown hg hnil HO2
      have Pw5 : Hid (Below w1.heap.size w1 (w3.alloc (Obj.cells #[.int .i64 0, .int .i64 0, .slice A1 (l.length + 1) c1, .int .i64 0, .int .i64 0, .int .i64 1, .int .i64 0] 24))) := Lib.hid (E3.out.alloc E3.out.size _)
      have Qw5 : Hid (Below w1.heap.size w1 ((w3.alloc (Obj.cells #[.int .i64 0, .int .i64 0, .slice A1 (l.length + 1) c1, .int .i64 0, .int .i64 0, .int .i64 1, .int .i64 0] 24)).alloc (.cells #[.int .i64 l[0]] 3))) := Lib.hid (Pw5.out.alloc Pw5.out.size _)
      have HNw5 := Lib.hid (news_of_row (R.out _ (E1.out.trans (Qw5.out.mono E1.out.size))))
      have how5 := owns_one (w3.alloc (Obj.cells #[.int .i64 0, .int .i64 0, .slice A1 (l.length + 1) c1, .int .i64 0, .int .i64 0, .int .i64 1, .int .i64 0] 24)) l[0] w1.heap.size Pw5.out.size
      have hszw5 : (w3.alloc (Obj.cells #[.int .i64 0, .int .i64 0, .slice A1 (l.length + 1) c1, .int .i64 0, .int .i64 0, .int .i64 1, .int .i64 0] 24)).heap.size = w3.heap.size + 1 := by simp
      rw [hszw5] at how5
      have HOw5 := Lib.hid how5; clear how5
      obtain ⟨_, ew5, hltw5, hcw5⟩ := R.out _ (E1.out.trans (E3.out.mono E1.out.size)) 0 h0
      injection ew5 with ew5; subst ew5
      rw [add0] at hcw5 hltw5
      clear hszw5
      go_wp2_with (at_builtin; refine wpList_append_own _ rfl (.tmp 48) (.tmp 49) 22 rfl w1.heap.size 3 i0 (.int .i64 0) 1 8 Try.underlying22 I.out.1 I.out.2.1 I.out.2.2.1 I.out.2.2.2 rfl (by decide) _ 1 _ rfl HOw5.out ad l.length c (l.map (Value.int .i64)) rfl ?e0 HNw5.out ?e2 ?e3 ?e4 ?e5 ?_)
      all_goals try (first | (intro u hu; simp at hu; obtain ⟨_, _, rfl⟩ := hu; rfl) | (intro u hu; rfl) | rfl | (simp; done) | (unfold maxLen; omega) | omega | (have := Pw5.out.size; simp at this ⊢; omega))
      intro v' w5 hown hg hnil
      have Gw5 : Hid (Below (w3.alloc (Obj.cells #[.int .i64 0, .int .i64 0, .slice A1 (l.length + 1) c1, .int .i64 0, .int .i64 0, .int .i64 1, .int .i64 0] 24)).heap.size (w3.alloc (Obj.cells #[.int .i64 0, .int .i64 0, .slice A1 (l.length + 1) c1, .int .i64 0, .int .i64 0, .int .i64 1, .int .i64 0] 24)) w5) := Lib.hid ((bel1 _ _).grown hg (by simp) (fun k h => by simp [Value.ownBlock] at h ⊢; omega))
      have E5 : Hid (Below w1.heap.size w1 w5) := Lib.hid (Pw5.out.trans (Gw5.out.mono Pw5.out.size))
      obtain ⟨A2, c2, rfl, hrw5, _⟩ := rowAt_owns (g := Value.int .i64) (l := l[0] :: l) (by simpa using hown)
      have R2 := Lib.hid hrw5; clear hrw5 hown hg hnil
      have Pw7 : Hid (Below w1.heap.size w1 (w5.alloc (Obj.cells #[.int .i64 0, .int .i64 0, .slice A2 (1 + l.length) c2, .int .i64 0, .int .i64 0, .int .i64 2, .int .i64 0] 24))) := Lib.hid (E5.out.alloc E5.out.size _)
      have Qw7 : Hid (Below w1.heap.size w1 ((w5.alloc (Obj.cells #[.int .i64 0, .int .i64 0, .slice A2 (1 + l.length) c2, .int .i64 0, .int .i64 0, .int .i64 2, .int .i64 0] 24)).alloc (.cells #[.int .i64 top] 3))) := Lib.hid (Pw7.out.alloc Pw7.out.size _)
      have HNw7 := Lib.hid (news_of_row (R.out _ (E1.out.trans (Qw7.out.mono E1.out.size))))
      have how7 := owns_one (w5.alloc (Obj.cells #[.int .i64 0, .int .i64 0, .slice A2 (1 + l.length) c2, .int .i64 0, .int .i64 0, .int .i64 2, .int .i64 0] 24)) top w1.heap.size Pw7.out.size
      have hszw7 : (w5.alloc (Obj.cells #[.int .i64 0, .int .i64 0, .slice A2 (1 + l.length) c2, .int .i64 0, .int .i64 0, .int .i64 2, .int .i64 0] 24)).heap.size = w5.heap.size + 1 := by simp
      rw [hszw7] at how7
      have HOw7 := Lib.hid how7; clear how7
      obtain ⟨_, ew7, hltw7, hcw7⟩ := R.out _ (E1.out.trans (E5.out.mono E1.out.size)) 0 h0
      injection ew7 with ew7; subst ew7
      rw [add0] at hcw7 hltw7
      clear hszw7
      go_wp2_with (at_builtin; refine wpList_append_own _ rfl (.tmp 53) (.tmp 54) 22 rfl w1.heap.size 3 i0 (.int .i64 0) 1 8 Try.underlying22 I.out.1 I.out.2.1 I.out.2.2.1 I.out.2.2.2 rfl (by decide) _ 1 _ rfl HOw7.out ad l.length c (l.map (Value.int .i64)) rfl ?f0 HNw7.out ?f2 ?f3 ?f4 ?f5 ?_)
      all_goals try (first | (intro u hu; simp at hu; obtain ⟨_, _, rfl⟩ := hu; rfl) | (intro u hu; rfl) | rfl | (simp; done) | (unfold maxLen; omega) | omega | (have := Pw7.out.size; simp at this ⊢; omega))
      intro v' w7 hown hg hnil
      have Gw7 : Hid (Below (w5.alloc (Obj.cells #[.int .i64 0, .int .i64 0, .slice A2 (1 + l.length) c2, .int .i64 0, .int .i64 0, .int .i64 2, .int .i64 0] 24)).heap.size (w5.alloc (Obj.cells #[.int .i64 0, .int .i64 0, .slice A2 (1 + l.length) c2, .int .i64 0, .int .i64 0, .int .i64 2, .int .i64 0] 24)) w7) := Lib.hid ((bel1 _ _).grown hg (by simp) (fun k h => by simp [Value.ownBlock] at h ⊢; omega))
      have E7 : Hid (Below w1.heap.size w1 w7) := Lib.hid (Pw7.out.trans (Gw7.out.mono Pw7.out.size))
      obtain ⟨A3, c3, rfl, hrw7, _⟩ := rowAt_owns (g := Value.int .i64) (l := top :: l) (by simpa using hown)
      have R3 := Lib.hid hrw7; clear hrw7 hown hg hnil
      obtain ⟨W8, hW8⟩ : ∃ W8, W8 = w7.alloc (Obj.cells #[.int .i64 0, .int .i64 0, .slice A3 (1 + l.length) c3, .int .i64 0, .int .i64 0, .int .i64 1, .int .i64 0] 24) := ⟨_, rfl⟩
      have G8 : Below w7.heap.size w7 W8 := by rw [hW8]; exact bel1 _ _
      have G57 : Below (w5.alloc (Obj.cells #[.int .i64 0, .int .i64 0, .slice A2 (1 + l.length) c2, .int .i64 0, .int .i64 0, .int .i64 2, .int .i64 0] 24)).heap.size (w5.alloc (Obj.cells #[.int .i64 0, .int .i64 0, .slice A2 (1 + l.length) c2, .int .i64 0, .int .i64 0, .int .i64 2, .int .i64 0] 24)) W8 := Gw7.out.trans (G8.mono Gw7.out.size)
      have G5 : Below w5.heap.size w5 W8 := (bel1 w5 (Obj.cells #[.int .i64 0, .int .i64 0, .slice A2 (1 + l.length) c2, .int .i64 0, .int .i64 0, .int .i64 2, .int .i64 0] 24)).trans (G57.mono (bel1 w5 (Obj.cells #[.int .i64 0, .int .i64 0, .slice A2 (1 + l.length) c2, .int .i64 0, .int .i64 0, .int .i64 2, .int .i64 0] 24)).size)
      have G35 : Below (w3.alloc (Obj.cells #[.int .i64 0, .int .i64 0, .slice A1 (l.length + 1) c1, .int .i64 0, .int .i64 0, .int .i64 1, .int .i64 0] 24)).heap.size (w3.alloc (Obj.cells #[.int .i64 0, .int .i64 0, .slice A1 (l.length + 1) c1, .int .i64 0, .int .i64 0, .int .i64 1, .int .i64 0] 24)) W8 := Gw5.out.trans (G5.mono Gw5.out.size)
      have G3 : Below w3.heap.size w3 W8 := (bel1 w3 (Obj.cells #[.int .i64 0, .int .i64 0, .slice A1 (l.length + 1) c1, .int .i64 0, .int .i64 0, .int .i64 1, .int .i64 0] 24)).trans (G35.mono (bel1 w3 (Obj.cells #[.int .i64 0, .int .i64 0, .slice A1 (l.length + 1) c1, .int .i64 0, .int .i64 0, .int .i64 1, .int .i64 0] 24)).size)
      have B8 := Lib.hid (E1.out.trans ((E7.out.trans (G8.mono E7.out.size)).mono E1.out.size))
      have K1 := Lib.hid (R1.out.below G3)
      have K2 := Lib.hid (R2.out.below G5)
      have K3 := Lib.hid (R3.out.below G8)
      have x1 : W8.heap[w3.heap.size]? = some (Obj.cells #[.int .i64 0, .int .i64 0, .slice A1 (l.length + 1) c1, .int .i64 0, .int .i64 0, .int .i64 1, .int .i64 0] 24) := (G35.block _ (by simp)).trans (heap1 _ _)
      have x2 : W8.heap[w5.heap.size]? = some (Obj.cells #[.int .i64 0, .int .i64 0, .slice A2 (1 + l.length) c2, .int .i64 0, .int .i64 0, .int .i64 2, .int .i64 0] 24) := (G57.block _ (by simp)).trans (heap1 _ _)
      have x3 : W8.heap[w7.heap.size]? = some (Obj.cells #[.int .i64 0, .int .i64 0, .slice A3 (1 + l.length) c3, .int .i64 0, .int .i64 0, .int .i64 1, .int .i64 0] 24) := by rw [hW8]; exact heap1 _ _
      have C : Hid (∀ W, Below W8.heap.size W8 W → Cells7 W w3.heap.size A1 (l.length + 1) c1 1 ∧ Cells7 W w5.heap.size A2 (1 + l.length) c2 2 ∧ Cells7 W w7.heap.size A3 (1 + l.length) c3 1) := Lib.hid (fun W hW =>
        ⟨cells7_of ((hW.block _ (Array.getElem?_eq_some_iff.1 x1).1).trans x1), cells7_of ((hW.block _ (Array.getElem?_eq_some_iff.1 x2).1).trans x2), cells7_of ((hW.block _ (Array.getElem?_eq_some_iff.1 x3).1).trans x3)⟩)
      clear G8 G57 G5 G35 G3 x1 x2 x3 HNw5 HOw5 HNw7 HOw7 Pw5 Qw5 Pw7 Qw7 Gw5 Gw7
      obtain ⟨y1, y2, y3⟩ := HL.out A1 A2 A3 c1 c2 c3
      have Y1 := Lib.hid y1; clear y1
      have Y2 := Lib.hid y2; clear y2
      have Y3 := Lib.hid y3; clear y3
      have D0 := Lib.hid (Below.refl W8.heap.size W8)
      obtain ⟨⟨_, _, _, _, _, _, _⟩, ⟨_, _, _, _, _, _, _⟩, ⟨_, _, _, _, _, _, _⟩⟩ := C.out (w7.alloc (Obj.cells #[.int .i64 0, .int .i64 0, .slice A3 (1 + l.length) c3, .int .i64 0, .int .i64 0, .int .i64 1, .int .i64 0] 24)) (by rw [← hW8]; exact Below.refl _ _)
      have HW := Lib.hid hW8; clear hW8
      go_wp2_with fail
      rw [← HW.out]
      refine (fac_before 5 K1.out K2.out (by simp; try omega) (by simp; try omega) (by omega) (by omega) (by omega) (by omega) D0.out).mono ?_
      rw [Y1.out]
      rintro e v1 ⟨rfl, b1⟩
      have D1 := Lib.hid b1
      obtain ⟨⟨_, _, _, _, _, _, _⟩, ⟨_, _, _, _, _, _, _⟩, ⟨_, _, _, _, _, _, _⟩⟩ := C.out _ b1
      clear b1
      go_wp2_with fail
      refine (fac_before 6 K3.out K2.out (by simp; try omega) (by simp; try omega) (by omega) (by omega) (by omega) (by omega) D1.out).mono ?_
      rw [Y2.out]
      rintro e v2 ⟨rfl, b2⟩
      have D2 := Lib.hid b2
      obtain ⟨⟨_, _, _, _, _, _, _⟩, ⟨_, _, _, _, _, _, _⟩, ⟨_, _, _, _, _, _, _⟩⟩ := C.out _ b2
      clear b2
      go_wp2_with fail
      refine (fac_before 5 K2.out K1.out (by simp; try omega) (by simp; try omega) (by omega) (by omega) (by omega) (by omega) D2.out).mono ?_
      rw [Y3.out]
      rintro e v3 ⟨rfl, b3⟩
      have D3 := Lib.hid b3
      obtain ⟨⟨_, _, _, _, _, _, _⟩, ⟨_, _, _, _, _, _, _⟩, ⟨_, _, _, _, _, _, _⟩⟩ := C.out _ b3
      clear b3
      go_wp2_with fail
      go_ret
      exact ⟨rfl, B8.out.trans (D3.out.mono B8.out.size)⟩

theorem stratRecent_any (A : Option Addr) (c : Nat) (l : List Int) (top : Int) (w : World) (ra : RowAt w (Value.int .i64) A l) (_ : A = none → c = 0) (_ : ∀ n ∈ l, (Lit.int .i64 n).wf = true) (_ : (Lit.int .i64 top).wf = true) :
    Calls Try.prog 9 #[.slice A l.length c, .int .i64 top] w fun e w' => e = .returned (.bool true) ∧ Below w.heap.size w w' := by
  by_cases h0 : 0 < l.length
  · by_cases h20 : l.length ≤ 20
    · obtain ⟨a, rfl, _⟩ := ra 0 h0
      exact recent_in a c l top w h0 h20 ra
    · exact recent_out A c _ top w (.inr (by omega))
  · exact recent_out A c _ top w (.inl (by omega))
end Go.Proofs.Ytbogjhgnnmgiaaa
