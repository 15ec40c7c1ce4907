/- The reference's texts of values; rows of values in memory; built.join. -/
import Derived.Test.YtmadnehipagakaaGreatDoorTa
namespace Go.Proofs.YtmadnehipagakaaGreatDoor
open Go.RowKit Go.Lib Go.Sort KP
def plainS (v : Vl) : ByteArray := if v.1 = 3 then v.2.2 else textS v
theorem plain3 {v : Vl} (h : v.1 = 3) : plainS v = v.2.2 := if_pos h
theorem plainN {v : Vl} (h : v.1 ≠ 3) : plainS v = textS v := if_neg h
theorem rtext_c (v : Vl) (h3 : v.1 ≠ 3) (ho : okI v.2.1) (w : World) : Calls Tryz.prog 84 #[v.val] w fun e w' => e = .returned (.string (textS v)) ∧ Below w.heap.size w w' := by
  obtain ⟨a, b, s⟩ := v
  have hB := one_box w (a, b, s) 26
  dsimp only at hB h3 ho
  have E2 := Lib.hid hB.2.1
  have HO := Lib.hid ho
  clear hB ho
  by_cases h1 : a = 1
  · subst h1
    go_enter Tryz.func84, Tryz.ntmps84
    go_wp2_with fail
    refine (rnumText_c b HO.out _).mono ?_
    rintro e w1 ⟨rfl, b1⟩
    have E3 := Lib.hid (E2.out.trans (b1.mono E2.out.size)); clear b1
    go_wp2_with fail
    go_ret
    exact ⟨rfl, E3.out⟩
  have e1 : (a == 1) = false := by simp [h1]
  have e3 : (a == 3) = false := by simp [h3]
  have H : Hid (textS (a, b, s) = s) := Lib.hid (by simp [textS, h1])
  clear h1 h3
  go_enter Tryz.func84, Tryz.ntmps84
  go_wp2_with fail
  go_ret
  exact ⟨ret_str H.out.symm, E2.out⟩
theorem plain_c (v : Vl) (ho : okI v.2.1) (w : World) : Calls Tryz.prog 55 #[v.val] w fun e w' => e = .returned (.string (plainS v)) ∧ Below w.heap.size w w' := by
  obtain ⟨a, b, s⟩ := v
  have hB := one_box w (a, b, s) 26
  dsimp only at hB ho
  have E2 := Lib.hid hB.2.1
  have HO := Lib.hid ho
  clear hB ho
  by_cases h3 : a = 3
  · subst h3
    go_enter Tryz.func55, Tryz.ntmps55
    go_wp2_with fail
    go_ret
    exact ⟨rfl, E2.out⟩
  have e3 : (a == 3) = false := by simp [h3]
  have H : Hid (plainS (a, b, s) = textS (a, b, s)) := Lib.hid (plainN h3)
  have RT := Lib.hid (fun w => rtext_c (a, b, s) h3 HO.out w)
  clear h3
  go_enter Tryz.func55, Tryz.ntmps55
  go_wp2_with fail
  refine (RT.out _).mono ?_
  rintro e w1 ⟨rfl, b1⟩
  have E3 := Lib.hid (E2.out.trans (b1.mono E2.out.size)); clear b1
  go_wp2_with fail
  go_ret
  exact ⟨ret_str H.out.symm, E3.out⟩
/-- A row of values in memory. -/
def ValsAt (W : World) (A : Option Addr) (ls : List Vl) : Prop := ∀ k (h : k < ls.length), ∃ ad, A = some ad ∧ ∀ j v, ls[k].cs[j]? = some v → W.cell? ((ad.add (k * 3)).add j) = some v
theorem ValsAt.below {W W' : World} {A : Option Addr} {ls : List Vl} (h : ValsAt W A ls) (hb : Below W.heap.size W W') : ValsAt W' A ls := by
  intro k hk
  obtain ⟨ad, e, hc⟩ := h k hk
  exact ⟨ad, e, fun j v hv => (Below.cell hb (World.block_lt_of_cell? _ _ (hc j v hv))).trans (hc j v hv)⟩
theorem ValsAt.at {W : World} {A : Option Addr} {ls : List Vl} (h : ValsAt W A ls) {k : Nat} (hk : k < ls.length) : ∃ ad, A = some ad ∧ W.cell? (ad.add (k * 3)) = some (.int .i64 ls[k].1) ∧ W.cell? ⟨(ad.add (k * 3)).block, (ad.add (k * 3)).off + 1, none⟩ = some (.int .i64 ls[k].2.1) ∧ W.cell? ⟨(ad.add (k * 3)).block, (ad.add (k * 3)).off + 2, none⟩ = some (.string ls[k].2.2) := by
  obtain ⟨ad, e, hc⟩ := h k hk
  refine ⟨ad, e, ?_, hc 1 _ rfl, hc 2 _ rfl⟩
  have := hc 0 _ rfl
  simpa [Addr.add] using this
structure okV (v : Vl) : Prop where
  k : okI v.1
  n : okI v.2.1
  s : v.2.2.size ≤ 140737488351232
def cat : List Vl → ByteArray
  | [] => ⟨#[]⟩
  | v :: l => plainS v ++ cat l
theorem cat_list (l : List Vl) : (cat l).data.toList = l.flatMap fun v => (plainS v).data.toList := by
  induction l with
  | nil => rfl
  | cons v l ih => rw [cat, ba_app, ih]; rfl
theorem cat_snoc (l : List Vl) (v : Vl) : cat (l ++ [v]) = cat l ++ plainS v := by
  apply ba_ext
  rw [ba_app, cat_list, cat_list, List.flatMap_append]; simp
theorem cat_take_le (l : List Vl) (k : Nat) : (cat (l.take k)).size ≤ (cat l).size := by
  rw [← ba_size, ← ba_size, cat_list, cat_list]
  conv => rhs; rw [← List.take_append_drop k l, List.flatMap_append, List.length_append]
  omega
def joinO (l : List Vl) (most : Nat) : ByteArray × Int := if (cat l).size ≤ most then (cat l, 0) else (⟨#[]⟩, 4)
theorem join_no {l : List Vl} {most : Nat} {k : Nat} (h : most < (cat (l.take k)).size) : Ending.returned (.tuple #[.string ⟨#[]⟩, .int .i64 4]) = .returned (.tuple #[.string (joinO l most).1, .int .i64 (joinO l most).2]) := by
  have := cat_take_le l k
  unfold joinO
  rw [if_neg (by omega)]
theorem join_yes {l : List Vl} {most : Nat} (h : (cat l).size ≤ most) : Ending.returned (.tuple #[.string (cat l), .int .i64 0]) = .returned (.tuple #[.string (joinO l most).1, .int .i64 (joinO l most).2]) := by
  unfold joinO
  rw [if_pos h]
theorem plain_size (v : Vl) (h : okV v) : (plainS v).size ≤ 140737488351232 := by
  unfold plainS textS
  split
  · exact h.s
  · split
    · unfold itoaB
      have := itoa_length_le v.2.1 h.n.1 h.n.2
      show (itoa v.2.1).toArray.size ≤ _
      simp; omega
    · exact h.s
set_option maxHeartbeats 2000000 in
theorem join_c (A : Option Addr) (c : Nat) (l : List Vl) (most : Nat) (hm : most ≤ 1000000) (w : World) (ht : Tab w) (hv : ValsAt w A l) (hk : ∀ v ∈ l, okV v) (hl : l.length ≤ 1000000) :
    Calls Tryz.prog 45 #[.slice A l.length c, .int .i64 most] w fun e w' => e = .returned (.tuple #[.string (joinO l most).1, .int .i64 (joinO l most).2]) ∧ Below w.heap.size w w' := by
  have T := Lib.hid (fun W (h : Below w.heap.size w W) => ht.b h)
  have V := Lib.hid (fun W (h : Below w.heap.size w W) => hv.below h)
  have K := Lib.hid hk
  clear ht hv hk
  have hmI : (most : Int) ≤ 1000000 := by omega
  have hlI : (l.length : Int) ≤ 1000000 := by omega
  go_enter Tryz.func45, Tryz.ntmps45
  go_wp2_with fail
  go_loopw [6, 12] (fun o i wr => ∃ k : Nat, k ≤ l.length ∧ i = .int .i64 k ∧ ∃ S : ByteArray, o = .string S ∧ S.size ≤ most ∧ Hid (S = cat (l.take k)) ∧ Hid (Below w.heap.size w wr)) (fun _ i _ => l.length - (intOf i).toNat)
  case atStart => exact ⟨0, by omega, rfl, _, rfl, Nat.zero_le _, Lib.hid rfl, Lib.hid (Below.refl _ _)⟩
  case round =>
    obtain ⟨k, hk, rfl, S, rfl, hS, hC, hB⟩ := hrel
    have hSI : (S.size : Int) ≤ (most : Int) := by omega
    by_cases hlt : k < l.length
    · have hltI : (k : Int) < (l.length : Int) := by omega
      obtain ⟨ad, rfl, c0, c1, c2⟩ := (V.out _ hB.out).at hlt
      have hN := Lib.hid (show cat (l.take (k + 1)) = cat (l.take k) ++ plainS l[k] by rw [List.take_succ_eq_append_getElem hlt, cat_snoc])
      have hO := Lib.hid (K.out l[k] (List.getElem_mem hlt))
      have hP := Lib.hid (plain_size l[k] hO.out)
      generalize l[k] = v at *
      obtain ⟨a, b, s⟩ := v
      dsimp only at c0 c1 c2
      by_cases h3 : a = 3
      · subst h3
        have hPS := Lib.hid (plain3 (v := (3, b, s)) rfl)
        have hs : (s.size : Int) ≤ 140737488351232 := by have := hO.out.s; simp at this; omega
        have hB2 := Lib.hid (hB.out.alloc hB.out.size (.cells #[.int .i64 3, .int .i64 b, .string s] 26))
        by_cases hbig : (most : Int) - (S.size : Int) < (s.size : Int)
        · have HN := Lib.hid (join_no (l := l) (most := most) (k := k + 1) (by rw [hN.out, hPS.out, ← hC.out, ByteArray.size_append]; show most < S.size + s.size; omega))
          go_wp2_with fail
          go_ret2
          exact ⟨HN.out, hB2.out⟩
        · have hS2 : S.size + s.size ≤ most := by omega
          have hq : Hid (S ++ s = cat (l.take (k + 1))) := Lib.hid (by rw [hN.out, hPS.out, ← hC.out])
          go_wp2_with fail
          exact ⟨⟨k + 1, by omega, by go_num, _, rfl, by rw [ByteArray.size_append]; exact hS2, hq, hB2⟩, by simp [intOf]; omega⟩
      · have hPS := Lib.hid (plainN (v := (a, b, s)) h3)
        have e3 : (a != 3) = true := by simp [h3]
        have hB2 := Lib.hid (hB.out.alloc hB.out.size (.cells #[.int .i64 a, .int .i64 b, .string s] 26))
        have TX := Lib.hid (fun W (h : Below w.heap.size w W) => text_c (a, b, s) h3 hO.out.n hO.out.s W (T.out W h))
        clear h3
        generalize textS (a, b, s) = x at *
        have hx : (x.size : Int) ≤ 140737488351232 := by have := hP.out; rw [hPS.out] at this; omega
        go_wp2_with fail
        refine (TX.out _ hB2.out).mono ?_
        rintro e w3 ⟨rfl, b3⟩
        have hB3 := Lib.hid (hB2.out.trans (b3.mono hB2.out.size)); clear b3
        by_cases hbig : (most : Int) - (S.size : Int) < (x.size : Int)
        · have HN := Lib.hid (join_no (l := l) (most := most) (k := k + 1) (by rw [hN.out, hPS.out, ← hC.out, ByteArray.size_append]; omega))
          go_wp2_with fail
          go_ret2
          exact ⟨HN.out, hB3.out⟩
        · have hS2 : S.size + x.size ≤ most := by omega
          have hq : Hid (S ++ x = cat (l.take (k + 1))) := Lib.hid (by rw [hN.out, hPS.out, ← hC.out])
          go_wp2_with fail
          exact ⟨⟨k + 1, by omega, by go_num, _, rfl, by rw [ByteArray.size_append]; exact hS2, hq, hB3⟩, by simp [intOf]; omega⟩
    · obtain rfl : k = l.length := by omega
      have HY := Lib.hid (join_yes (l := l) (most := most) (by rw [List.take_length] at hC; rw [← hC.out]; exact hS))
      have HC : Hid (S = cat l) := Lib.hid (by rw [List.take_length] at hC; exact hC.out)
      go_wp2_with fail
      go_ret2
      exact ⟨HC.out ▸ HY.out, hB.out⟩
end Go.Proofs.YtmadnehipagakaaGreatDoor
