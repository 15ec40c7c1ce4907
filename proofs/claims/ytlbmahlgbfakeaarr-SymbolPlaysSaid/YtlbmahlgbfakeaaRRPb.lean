/- The walk of SymbolPlays. -/
import Derived.Test.YtlbmahlgbfakeaaRRPa
import Derived.Test.YtlbmahlgbfakeaaRRSl
import Derived.Deep.QuietTactic
import Derived.BigQuiet
import Derived.Laws.StructEq
namespace Go.Proofs.YtlbmahlgbfakeaaRR
open Go.RowKit MR KP

theorem str_eq {a b : ByteArray} (h : a = b) : (a.toList == b.toList) = true := by subst h; simp
theorem str_ne {a b : ByteArray} (h : a ≠ b) : (a.toList == b.toList) = false := beq_eq_false_iff_ne.2 (fun e => h (by rw [ByteArray.toList_eq, ByteArray.toList_eq] at e; exact ByteArray.ext (Array.ext' e)))
theorem take_succ' (l : List ByteArray) (k : Nat) (h : k < l.length) : l.take (k + 1) = l.take k ++ [l[k]] := List.take_succ_eq_append_getElem h

set_option maxHeartbeats 1000000 in
set_option maxRecDepth 100000 in
theorem plays_loop (l : List ByteArray) (n : Int) (A0 : Option Addr) (c : Nat) (w : World) (h1 : l.length ≤ 100) (hcell : RowAt w Value.string A0 l) :
    Calls Try.prog 3 #[.slice A0 l.length c, .int .i64 n] w fun e w' => e = .returned (.bool true) ∧ Below w.heap.size w w' := by
  have HC := Lib.hid hcell; clear hcell
  go_enter Try.func3, Try.ntmps3
  go_wp2_with fail
  refine (known_any _).mono ?_
  rintro e w1 ⟨rfl, b1⟩
  have B1 := Lib.hid b1; clear b1
  go_wp2_with fail
  refine (inv_new _).mono ?_
  rintro e w2 ⟨g, rfl, h2⟩
  have H2 := Lib.hid h2; clear h2
  go_wp2
  go_loopw [6, 7] (fun v i wr => ∃ k : Nat, k ≤ l.length ∧ i = .int .i64 k ∧ Hid (Inv w1 g (tabOf (l.take k)) (tabOf (l.take k)) v wr)) (fun _ i _ => l.length - (intOf i).toNat)
  case atStart => exact ⟨0, by omega, rfl, H2⟩
  case round =>
    obtain ⟨k, hk, rfl, hI⟩ := hrel
    obtain ⟨A, cm, rfl, hm⟩ := hI.out.cell
    have hT : (tabOf (l.take k)).length ≤ 100 := by have := tabOf_len (l.take k); simp at this; omega
    have hN := Lib.hid (tabOf_nodup (l.take k))
    have BI : Hid (∀ T R v W, Inv w1 g T R v W → Below w.heap.size w W) := Lib.hid (fun T R v W h => B1.out.trans (h.below.mono B1.out.size))
    by_cases hlt : k < l.length
    · obtain ⟨a, rfl, hb, hc0⟩ := HC.out k hlt
      have HS : Hid (∀ W, Below w.heap.size w W → W.cell? (a.add k) = some (.string l[k])) := Lib.hid (fun W hW => (Below.cell hW (p := a.add k) hb).trans hc0)
      clear hc0
      have hs := HS.out _ (BI.out _ _ _ _ hI.out)
      have ht := Lib.hid (take_succ' l k hlt)
      generalize hsk : l[k] = s at hs ht HS
      clear hsk
      by_cases h200 : 200 < s.size
      · go_wp2
        go_ret
        exact ⟨rfl, BI.out _ _ _ _ hI.out⟩
      · generalize hTk : tabOf (l.take k) = T at *
        have ht' := Lib.hid (show tabOf (l.take (k + 1)) = inTab T s by rw [ht.out, tabOf_snoc, hTk])
        clear ht
        clear hTk
        cases hg : goodB s with
        | false =>
          obtain ⟨q1, q2, q3⟩ := round_bad (l := T) hg
          rw [q1] at ht'
          go_wp2_with fail
          refine (inv_intern _ _ _ _ _ s _ hI.out).mono ?_
          rw [q1, q2, q3]
          rintro e w3 ⟨rfl, h3⟩
          have hs3 := HS.out _ (BI.out _ _ _ _ h3)
          have H3 := Lib.hid h3; clear h3
          clear hs hI hm q1 q2 q3
          go_wp2_with (first | (go_at_call 10; refine (good_c _ _).mono ?_; rw [hg]; rintro e w6 ⟨rfl, rfl⟩) | (go_at_call 9; refine (rgood_c _ _).mono ?_; rw [hg]; rintro e w6 ⟨rfl, rfl⟩))
          exact ⟨⟨k + 1, by omega, by go_num, by rw [ht'.out]; exact H3⟩, by simp [intOf]; omega⟩
        | true =>
          rcases lk_is hN.out s with ⟨hne, hno, hat⟩ | ⟨i, hi, hlti, hyes, hat⟩
          · obtain ⟨q1, q2, q3, q4⟩ := round_new hg hT hne
            rw [q1] at ht'
            go_wp2_with fail
            refine (inv_intern _ _ _ _ _ s _ hI.out).mono ?_
            rw [q1, q2, q3]
            rintro e w3 ⟨rfl, h3⟩
            have hs3 := HS.out _ (BI.out _ _ _ _ h3)
            have H3 := Lib.hid h3; clear h3
            clear hs hI hm q1 q2 q3
            go_wp2_with (first | (go_at_call 10; refine (good_c _ _).mono ?_; rw [hg]; rintro e w6 ⟨rfl, rfl⟩) | (go_at_call 9; refine (rgood_c _ _).mono ?_; rw [hg]; rintro e w6 ⟨rfl, rfl⟩))
            clear hs3
            go_loopw [11, 12] (fun a j wr' => ∃ jj : Nat, jj ≤ T.length ∧ a = .int .i64 (atOf T s jj : Nat) ∧ j = .int .i64 jj ∧ Hid (Inv w1 g (T ++ [s]) T (.slice A T.length cm) wr')) (fun _ j _ => T.length - (intOf j).toNat)
            case atStart => exact ⟨0, by omega, rfl, rfl, H3⟩
            case round =>
              obtain ⟨jj, hjj, rfl, rfl, hI⟩ := hrel
              have hs := HS.out _ (BI.out _ _ _ _ hI.out)
              obtain ⟨A', cm', hA, hm⟩ := hI.out.cell
              injection hA with hA1 _ hA2; subst hA1; subst hA2
              by_cases hj2 : jj < T.length
              · obtain ⟨b2, rfl, hm2⟩ := hm jj hj2
                go_wp2_with fail
                have hxj : (jj : Int) < (T.length : Int) := by omega
                have hxk : (k : Int) < (l.length : Int) := by omega
                by_cases he : T[jj] = s
                · have hq := str_eq he
                  go_quiet (fail)
                  go_wp2
                  exact ⟨⟨jj + 1, by omega, by simp [atOf, List.getElem?_eq_getElem hj2, he], by go_num, hI.out.drewN _⟩, by simp [intOf]; omega⟩
                · have hq := str_ne he
                  go_quiet (fail)
                  go_wp2
                  exact ⟨⟨jj + 1, by omega, by simp [atOf, List.getElem?_eq_getElem hj2, he], by go_num, hI.out.drewN _⟩, by simp [intOf]; omega⟩
              · clear hm
                obtain rfl : jj = T.length := by omega
                rw [hat]
                have hT' : (T.length : Int) ≤ 100 := by omega
                have hI' := hI.out.alloc (.cells #[.string s] 9)
                obtain ⟨i0, hi0, hz0, hz1, hz2⟩ := info_parts info9
                obtain ⟨F, j1, j2, j3, j4, j5⟩ := id hI'
                go_wp2_with (at_builtin; refine wpList_append_own_at _ rfl (.tmp 84) (.tmp 89) 22 rfl w1.heap.size 9 i0 (.string ⟨#[]⟩) 1 16 Try.underlying22 hi0 hz0 hz1 hz2 rfl (by decide) _ T.length _ rfl j3 ⟨wr.heap.size, 0, none⟩ 1 1 [.string s] rfl rfl ?c1 ?c2 ?c3 ?c4 ?c5 ?_)
                case c2 => rfl
                case c3 => unfold maxLen; omega
                case c4 => omega
                case c5 => simpa using j5.size
                intro v' w5 hown hgr hnil hloc
                have h5 := hI'.grown hown hgr (by simpa using hloc)
                clear j1 j2 j3 j4 j5 hI' hown hgr hnil hloc F
                obtain ⟨A5, c5, hA5⟩ := h5.slice
                subst hA5
                have hs5 := HS.out _ (BI.out _ _ _ _ h5)
                have H5 := Lib.hid h5; clear h5
                clear hs hi0
                go_wp2_with fail
                refine (tab_find _ _ _ s _ H5.out.tab).mono ?_
                rw [q4]
                rintro e w6 ⟨rfl, rfl⟩
                go_wp2_with fail
                exact ⟨⟨k + 1, by omega, by go_num, by rw [ht'.out]; have e : (T ++ [s]).length = T.length + 1 := (by simp); rw [← e]; exact H5⟩, by simp [intOf]; omega⟩
          · obtain ⟨q1, q2, q3⟩ := round_old hg hyes
            rw [q1] at ht'
            go_wp2_with fail
            refine (inv_intern _ _ _ _ _ s _ hI.out).mono ?_
            rw [q1, q2, q3]
            rintro e w3 ⟨rfl, h3⟩
            have hs3 := HS.out _ (BI.out _ _ _ _ h3)
            have H3 := Lib.hid h3; clear h3
            clear hs hI hm q1 q2 q3
            go_wp2_with (first | (go_at_call 10; refine (good_c _ _).mono ?_; rw [hg]; rintro e w6 ⟨rfl, rfl⟩) | (go_at_call 9; refine (rgood_c _ _).mono ?_; rw [hg]; rintro e w6 ⟨rfl, rfl⟩))
            clear hs3
            go_loopw [11, 12] (fun a j wr' => ∃ jj : Nat, jj ≤ T.length ∧ a = .int .i64 (atOf T s jj : Nat) ∧ j = .int .i64 jj ∧ Hid (Inv w1 g T T (.slice A T.length cm) wr')) (fun _ j _ => T.length - (intOf j).toNat)
            case atStart => exact ⟨0, by omega, rfl, rfl, H3⟩
            case round =>
              obtain ⟨jj, hjj, rfl, rfl, hI⟩ := hrel
              have hs := HS.out _ (BI.out _ _ _ _ hI.out)
              obtain ⟨A', cm', hA, hm⟩ := hI.out.cell
              injection hA with hA1 _ hA2; subst hA1; subst hA2
              by_cases hj2 : jj < T.length
              · obtain ⟨b2, rfl, hm2⟩ := hm jj hj2
                go_wp2_with fail
                have hxj : (jj : Int) < (T.length : Int) := by omega
                have hxk : (k : Int) < (l.length : Int) := by omega
                by_cases he : T[jj] = s
                · have hq := str_eq he
                  go_quiet (fail)
                  go_wp2
                  exact ⟨⟨jj + 1, by omega, by simp [atOf, List.getElem?_eq_getElem hj2, he], by go_num, hI.out.drewN _⟩, by simp [intOf]; omega⟩
                · have hq := str_ne he
                  go_quiet (fail)
                  go_wp2
                  exact ⟨⟨jj + 1, by omega, by simp [atOf, List.getElem?_eq_getElem hj2, he], by go_num, hI.out.drewN _⟩, by simp [intOf]; omega⟩
              · clear hm
                obtain rfl : jj = T.length := by omega
                rw [hat]
                have hT' : (T.length : Int) ≤ 100 := by omega
                have hn0 : (((i + 1 : Nat) : Int) == 0) = false := beq_eq_false_iff_ne.2 (by omega)
                have hn1 : (((i + 1 : Nat) : Int)) = (i : Int) + 1 := by omega
                rw [hn1] at hn0 ⊢
                go_wp2_with fail
                refine (tab_find _ _ _ s _ hI.out.tab).mono ?_
                rw [hyes]
                rintro e w6 ⟨rfl, rfl⟩
                go_wp2_with fail
                exact ⟨⟨k + 1, by omega, by go_num, by rw [ht'.out]; exact hI⟩, by simp [intOf]; omega⟩
    · obtain rfl : k = l.length := by omega
      rw [List.take_length] at hI hm hT hN ⊢
      generalize tabOf l = T at *
      have hT' : (T.length : Int) ≤ 100 := by omega
      by_cases hin : n < 1 ∨ (T.length : Int) < n
      · clear hm
        go_wp2_with fail
        obtain ⟨F, hIt, _⟩ := id hI.out.tab
        refine (name_no F _ _ _ n _ hIt hin).mono ?_
        clear hIt
        rintro e w4 ⟨rfl, q, rfl⟩
        have H4 := Lib.hid (hI.out.drewN q)
        by_cases hin1 : n < 1
        · go_wp2_with (go_at_call 13; refine (tab_len _ _ _ _ H4.out.tab).mono ?_; rintro e w5 ⟨rfl, rfl⟩)
          go_ret
          exact ⟨ret_bool (by simp), BI.out _ _ _ _ H4.out⟩
        · have hin2 : (T.length : Int) < n := by omega
          go_wp2_with (go_at_call 13; refine (tab_len _ _ _ _ H4.out.tab).mono ?_; rintro e w5 ⟨rfl, rfl⟩)
          go_ret
          exact ⟨ret_bool (by simp), BI.out _ _ _ _ H4.out⟩
      · obtain ⟨i, rfl⟩ : ∃ i : Nat, n = (i : Int) + 1 := ⟨(n - 1).toNat, by omega⟩
        have hi : i < T.length := by omega
        go_wp2_with fail
        refine (tab_name _ _ _ i _ _ hI.out.tab hi rfl).mono ?_
        rintro e w4 ⟨rfl, q, rfl⟩
        have H4 := Lib.hid (hI.out.drewN q)
        obtain ⟨b2, rfl, hm2⟩ := hm i hi
        clear hm
        go_wp2_with (go_at_call 13; refine (tab_len _ _ _ _ H4.out.tab).mono ?_; rintro e w5 ⟨rfl, rfl⟩)
        go_ret
        exact ⟨ret_bool (by simp), BI.out _ _ _ _ H4.out⟩

set_option maxHeartbeats 1000000 in
theorem plays_long (m : Nat) (n : Int) (A0 : Option Addr) (c : Nat) (w : World) (h1 : 100 < m) :
    Calls Try.prog 3 #[.slice A0 m c, .int .i64 n] w fun e w' => e = .returned (.bool true) ∧ Below w.heap.size w w' := by
  go_enter Try.func3, Try.ntmps3
  go_wp2_with fail
  refine (known_any _).mono ?_
  rintro e w1 ⟨rfl, b1⟩
  have B1 := Lib.hid b1; clear b1
  go_wp2
  go_ret
  exact ⟨rfl, B1.out⟩

theorem symbolPlays_any (A0 : Option Addr) (c : Nat) (l : List ByteArray) (n : Int) (w : World) (hcell : RowAt w Value.string A0 l) (_ : (Lit.int .i64 n).wf = true) :
    Calls Try.prog 3 #[.slice A0 l.length c, .int .i64 n] w fun e w' => e = .returned (.bool true) ∧ Below w.heap.size w w' := by
  by_cases h : l.length ≤ 100
  · exact plays_loop l n A0 c w h hcell
  · exact plays_long _ n A0 c w (by omega)
end Go.Proofs.YtlbmahlgbfakeaaRR
