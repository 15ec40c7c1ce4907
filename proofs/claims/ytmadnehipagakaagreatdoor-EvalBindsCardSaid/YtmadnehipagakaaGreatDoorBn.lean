/- built.numbers: the numbers of values. -/
import Derived.Test.YtmadnehipagakaaGreatDoorTb
import Derived.Test.YtmadnehipagakaaGreatDoorSl
import Derived.Laws.AppendOwn
import Derived.Laws.OwnMore
import Derived.Lib.LazyBuf
namespace Go.Proofs.YtmadnehipagakaaGreatDoor
open Go.RowKit Go.Lib Go.Sort KP
theorem info2 : (Tryz.prog.info? 2).map (fun i => (i.zero, i.size, i.bytes)) = some (some (.int .i64 0), 1, 8) := by kernel_rfl
/-- What a row of its own holds, cell by cell. -/
theorem rowAt_owns {α : Type} {w : World} {B e n : Nat} {v : Value} {g : α → Value} {l : List α} (h : w.ownsRow B e 1 v n (l.map g)) : ∃ A c, v = .slice A n c ∧ RowAt w g A l ∧ l.length = n ∧ n ≤ c := by
  have hn : l.length = n := by have := h.1; simpa using this
  subst hn
  rcases h.2 with ⟨e1, e2⟩ | ⟨g1, cap, cur, e1, _, hg1, hc1, hc2, hc3, hc4⟩
  · exact ⟨none, 0, by rw [e2]; exact e1, fun j hj => by omega, rfl, by omega⟩
  · refine ⟨some ⟨g1, 0, none⟩, cap, e1, fun j hj => ⟨⟨g1, 0, none⟩, rfl, ?_⟩, rfl, by simpa using hc1⟩
    have : (cur.toList.take (l.length * 1))[j]? = (l.map g)[j]? := by rw [hc4]
    rw [List.getElem?_take, if_pos (by omega), List.getElem?_map, List.getElem?_eq_getElem hj] at this
    have h2 : w.cell? ⟨g1, j, none⟩ = some (g l[j]) := block_cell hg1 (by simpa using this)
    have h3 : (⟨g1, 0, none⟩ : Addr).add j = ⟨g1, j, none⟩ := by simp [Addr.add]; omega
    rw [h3]
    exact ⟨World.block_lt_of_cell? _ _ h2, h2⟩
theorem one_new (W : World) (o : Obj) (x : Value) (T : TypeId) : ∀ j u, [x][j]? = some u → ((W.alloc o).alloc (.cells #[x] T)).cell? ((⟨W.heap.size + 1, 0, none⟩ : Addr).add j) = some u := by
  intro j u hj
  have hj0 : j = 0 := by
    have := (List.getElem?_eq_some_iff.1 hj).1
    simp at this; omega
  subst hj0
  have h := heap_alloc_new (W.alloc o) (.cells #[x] T)
  have e : (W.alloc o).heap.size = W.heap.size + 1 := by simp
  rw [e] at h
  have e2 : (⟨W.heap.size + 1, 0, none⟩ : Addr).add 0 = ⟨W.heap.size + 1, 0, none⟩ := by simp [Addr.add]
  rw [e2]
  exact block_cell h (by simpa using hj)
def nums (l : List Vl) : List Int := l.map fun v => v.2.1
set_option maxHeartbeats 2000000 in
theorem numbers_no (A : Option Addr) (c : Nat) (l : List Vl) (w : World) (hv : ValsAt w A l) (hl : l.length ≤ 1000000) (hno : ∃ k, ∃ h : k < l.length, l[k].1 ≠ 1) :
    Calls Tryz.prog 49 #[.slice A l.length c] w fun e w' => e = .returned (.tuple #[.slice none 0 0, .int .i64 8]) ∧ Below w.heap.size w w' := by
  have V := Lib.hid (fun W (h : Below w.heap.size w W) => hv.below h)
  have NO := Lib.hid hno
  clear hv hno
  obtain ⟨i0, hi, hz0, hz1, hz2⟩ := info_parts info2
  have hlI : (l.length : Int) ≤ 1000000 := by omega
  go_enter Tryz.func49, Tryz.ntmps49
  go_wp2_with fail
  go_loopw [4, 9] (fun o i wr => ∃ k : Nat, k ≤ l.length ∧ i = .int .i64 k ∧ Hid (wr.ownsRow w.heap.size 2 1 o k ((nums (l.take k)).map (Value.int .i64))) ∧ Hid (∀ j (h : j < l.length), j < k → l[j].1 = 1) ∧ Hid (Below w.heap.size w wr)) (fun _ i _ => l.length - (intOf i).toNat)
  case atStart => exact ⟨0, by omega, rfl, Lib.hid (World.ownsRow_nil _ _ _ _), Lib.hid (fun j _ h => by omega), Lib.hid (Below.refl _ _)⟩
  case round =>
    obtain ⟨k, hk, rfl, hO, hJ, hB⟩ := hrel
    by_cases hlt : k < l.length
    · have hltI : (k : Int) < (l.length : Int) := by omega
      obtain ⟨ad, rfl, c0, c1, c2⟩ := (V.out _ hB.out).at hlt
      have hN := Lib.hid (show nums (l.take (k + 1)) = nums (l.take k) ++ [l[k].2.1] by unfold nums; rw [List.take_succ_eq_append_getElem hlt, List.map_append]; rfl)
      have hJ2 : Hid (l[k].1 = 1 → ∀ j (h : j < l.length), j < k + 1 → l[j].1 = 1) := Lib.hid (fun e j h h2 => by
        by_cases e2 : j = k
        · subst e2; exact e
        · exact hJ.out j h (by omega))
      generalize l[k] = v at *
      obtain ⟨a, b, s⟩ := v
      dsimp only at c0 c1 c2
      have hB2 := Lib.hid (hB.out.alloc hB.out.size (.cells #[.int .i64 a, .int .i64 b, .string s] 26))
      by_cases h1 : a = 1
      · subst h1
        have HO := Lib.hid ((hO.out.alloc (.cells #[.int .i64 1, .int .i64 b, .string s] 26)).alloc (.cells #[.int .i64 b] 2))
        have HJ := Lib.hid (hJ2.out rfl)
        clear hJ2
        have HN := Lib.hid (one_new wr (.cells #[.int .i64 1, .int .i64 b, .string s] 26) (.int .i64 b) 2)
        have HB3 := Lib.hid (hB2.out.alloc hB2.out.size (.cells #[.int .i64 b] 2))
        go_wp2_with (at_builtin; refine wpList_append_own _ rfl (.tmp 16) (.tmp 19) 97 rfl w.heap.size 2 i0 (.int .i64 0) 1 8 Tryz.underlying97 hi hz0 hz1 hz2 rfl (by decide) _ k _ rfl HO.out ⟨wr.heap.size + 1, 0, none⟩ 1 1 [.int .i64 b] rfl rfl HN.out (fun u hu => by rw [List.mem_singleton.1 hu]; rfl) (by unfold maxLen; omega) (by omega) HB3.out.size ?_)
        intro v' w1 hown hg hnil
        have hown2 : Hid (w1.ownsRow w.heap.size 2 1 v' (k + 1) ((nums (l.take (k + 1))).map (Value.int .i64))) := Lib.hid (by rw [hN.out, List.map_append]; exact hown)
        have hB4 := Lib.hid (HB3.out.grown hg HB3.out.size (fun q hq => (HO.out.lt q hq).1))
        clear hown hg hnil
        go_wp2_with fail
        exact ⟨⟨k + 1, by omega, by go_num, hown2, HJ, hB4⟩, by simp [intOf]; omega⟩
      · have e1 : (a != 1) = true := by simp [h1]
        go_wp2_with fail
        go_ret2
        exact ⟨rfl, hB2.out⟩
    · obtain rfl : k = l.length := by omega
      obtain ⟨j, hj, h⟩ := NO.out
      exact absurd (hJ.out j hj hj) h
set_option maxHeartbeats 2000000 in
theorem numbers_yes (A : Option Addr) (c : Nat) (l : List Vl) (w : World) (hv : ValsAt w A l) (hl : l.length ≤ 1000000) (hno : ∀ k (h : k < l.length), l[k].1 = 1) :
    Calls Tryz.prog 49 #[.slice A l.length c] w fun e w' => ∃ A' c', e = .returned (.tuple #[.slice A' l.length c', .int .i64 0]) ∧ RowAt w' (Value.int .i64) A' (nums l) ∧ l.length ≤ c' ∧ Below w.heap.size w w' := by
  have V := Lib.hid (fun W (h : Below w.heap.size w W) => hv.below h)
  have NO := Lib.hid hno
  clear hv hno
  obtain ⟨i0, hi, hz0, hz1, hz2⟩ := info_parts info2
  have hlI : (l.length : Int) ≤ 1000000 := by omega
  go_enter Tryz.func49, Tryz.ntmps49
  go_wp2_with fail
  go_loopw [4, 9] (fun o i wr => ∃ k : Nat, k ≤ l.length ∧ i = .int .i64 k ∧ Hid (wr.ownsRow w.heap.size 2 1 o k ((nums (l.take k)).map (Value.int .i64))) ∧ Hid (Below w.heap.size w wr)) (fun _ i _ => l.length - (intOf i).toNat)
  case atStart => exact ⟨0, by omega, rfl, Lib.hid (World.ownsRow_nil _ _ _ _), Lib.hid (Below.refl _ _)⟩
  case round =>
    obtain ⟨k, hk, rfl, hO, hB⟩ := hrel
    by_cases hlt : k < l.length
    · have hltI : (k : Int) < (l.length : Int) := by omega
      obtain ⟨ad, rfl, c0, c1, c2⟩ := (V.out _ hB.out).at hlt
      have hN := Lib.hid (show nums (l.take (k + 1)) = nums (l.take k) ++ [l[k].2.1] by unfold nums; rw [List.take_succ_eq_append_getElem hlt, List.map_append]; rfl)
      have h1 := NO.out k hlt
      generalize l[k] = v at *
      obtain ⟨a, b, s⟩ := v
      dsimp only at c0 c1 c2 h1
      subst h1
      have hB2 := Lib.hid (hB.out.alloc hB.out.size (.cells #[.int .i64 1, .int .i64 b, .string s] 26))
      have HO := Lib.hid ((hO.out.alloc (.cells #[.int .i64 1, .int .i64 b, .string s] 26)).alloc (.cells #[.int .i64 b] 2))
      have HN := Lib.hid (one_new wr (.cells #[.int .i64 1, .int .i64 b, .string s] 26) (.int .i64 b) 2)
      have HB3 := Lib.hid (hB2.out.alloc hB2.out.size (.cells #[.int .i64 b] 2))
      go_wp2_with (at_builtin; refine wpList_append_own _ rfl (.tmp 16) (.tmp 19) 97 rfl w.heap.size 2 i0 (.int .i64 0) 1 8 Tryz.underlying97 hi hz0 hz1 hz2 rfl (by decide) _ k _ rfl HO.out ⟨wr.heap.size + 1, 0, none⟩ 1 1 [.int .i64 b] rfl rfl HN.out (fun u hu => by rw [List.mem_singleton.1 hu]; rfl) (by unfold maxLen; omega) (by omega) HB3.out.size ?_)
      intro v' w1 hown hg hnil
      have hown2 : Hid (w1.ownsRow w.heap.size 2 1 v' (k + 1) ((nums (l.take (k + 1))).map (Value.int .i64))) := Lib.hid (by rw [hN.out, List.map_append]; exact hown)
      have hB4 := Lib.hid (HB3.out.grown hg HB3.out.size (fun q hq => (HO.out.lt q hq).1))
      clear hown hg hnil
      go_wp2_with fail
      exact ⟨⟨k + 1, by omega, by go_num, hown2, hB4⟩, by simp [intOf]; omega⟩
    · obtain rfl : k = l.length := by omega
      have hL : (nums l).length = l.length := by unfold nums; simp
      rw [List.take_length] at hO
      obtain ⟨A', c', hv, hr, _, hc⟩ := rowAt_owns hO.out
      subst hv
      have HR := Lib.hid hr
      have HC := Lib.hid hc
      clear hr hc hL
      go_wp2_with fail
      go_ret2
      exact ⟨A', c', rfl, HR.out, HC.out, hB.out⟩
end Go.Proofs.YtmadnehipagakaaGreatDoor
