/- slices.DeleteFunc at a row of numbers, by Cut's own function: the whole. -/
import Derived.Test.YtonflknnlfffhaaFn
namespace Go.Proofs.Ytonflknnlfffhaa
open Go.RowKit Go.Lib Go.Maps Go.Sort Go.Shelf KP MR RW
def zI : Value := .int .i64 0
theorem infoI : (Try.prog.info? 3).map (fun i => (i.zero, i.size, i.bytes)) = some (some zI, 1, 8) := by kernel_rfl
theorem zeroI (w : World) : (zeroValue 3).run Try.prog w = .ok zI w := by kernel_rfl
theorem zI_flat : ∀ u ∈ zI.cells, u.oneCell' = true := by
  intro u hu
  have : u ∈ ([.int .i64 0] : List Value) := by simpa [zI, Value.cells] using hu
  simp at this
  subst this
  rfl
theorem ret_slice {a : Option Addr} {n n' c c' : Nat} (h : n = n') (h2 : c = c') : Ending.returned (.slice a n c) = .returned (.slice a n' c') := by rw [h, h2]
section
variable {W : World} {B g cap : Nat} {L : List Int}
theorem OwnI.at (h : OwnI W B (.slice (some ⟨g, 0, none⟩) L.length cap) L) {k : Nat} (hk : k < L.length) : W.cell? ⟨g, k, none⟩ = some (.int .i64 L[k]) ∧ W.frozen? ⟨g, k, none⟩ = false ∧ L.length ≤ cap ∧ cap ≤ 9223372036854775807 := by
  rcases h.2 with ⟨e, _⟩ | ⟨g', cap', cur, e, a2, a3, a4, a5, a6, a7⟩
  · cases e
  · injection e with e1 _ e3
    injection e1 with e1
    injection e1 with e1
    subst e1 e3
    rw [Nat.mul_one, flat_ints] at a7
    refine ⟨block_cell a3 ?_, block_free a3, a4, by unfold maxLen at a5; omega⟩
    have h1 : (cur.toList.take L.length)[k]? = (L.map encZ)[k]? := by rw [a7]
    rw [List.getElem?_take_of_lt hk, Array.getElem?_toList] at h1
    rw [h1]
    simp [hk]
theorem OwnI.setAt (h : OwnI W B (.slice (some ⟨g, 0, none⟩) L.length cap) L) (k : Nat) (x : Int) : OwnI (W.setCell ⟨g, k, none⟩ (.int .i64 x)) B (.slice (some ⟨g, 0, none⟩) L.length cap) (L.set k x) := by
  have h0 := h
  rcases h.2 with ⟨e, _⟩ | ⟨g', cap', cur, e, a2, a3, a4, a5, a6, a7⟩
  · cases e
  · injection e with e1 _ e3
    injection e1 with e1
    injection e1 with e1
    subst e1 e3
    rw [Nat.mul_one, flat_ints] at a7
    refine h0.set a3 (block_set a3 _) (by simp) (by simp) ?_
    rw [Array.toList_setIfInBounds, List.length_set, List.take_set, a7, List.map_set]
/-- One fewer at the end. -/
theorem OwnI.less {l : List Int} {x : Int} (h : OwnI W B (.slice (some ⟨g, 0, none⟩) (l ++ [x]).length cap) (l ++ [x])) : OwnI W B (.slice (some ⟨g, 0, none⟩) l.length cap) l := by
  rcases h.2 with ⟨e, _⟩ | ⟨g', cap', cur, e, a2, a3, a4, a5, a6, a7⟩
  · cases e
  · injection e with e1 _ e3
    injection e1 with e1
    injection e1 with e1
    subst e1 e3
    rw [Nat.mul_one, flat_ints] at a7
    refine ⟨by rw [flat_len intc_len], .inr ⟨g, cap, cur, rfl, a2, a3, by simp at a4; omega, a5, a6, ?_⟩⟩
    rw [Nat.mul_one, flat_ints]
    have := congrArg (List.take l.length) a7
    rw [List.take_take, List.length_append, Nat.min_eq_left (by simp), List.map_append] at this
    rw [this]
    have e : l.length = (l.map encZ).length := by simp
    rw [e, List.take_left]
end
theorem set_mid (a b : List Int) (x y : Int) : (a ++ x :: b).set a.length y = a ++ y :: b := by simp
theorem mid_step (pre post : List Int) (x : Int) (k : Nat) (hk : k < post.length) : (pre ++ (post.take k ++ x :: post.drop k)).set (pre.length + k) post[k] = pre ++ (post.take (k + 1) ++ post[k] :: post.drop (k + 1)) := by
  have e : pre.length + k = (pre ++ post.take k).length := by simp [Nat.min_eq_left (Nat.le_of_lt hk)]
  rw [← List.append_assoc, e, set_mid, List.take_succ_eq_append_getElem hk]
  conv => lhs; rw [List.drop_eq_getElem_cons hk]
  simp only [List.append_assoc, List.cons_append, List.nil_append]
theorem mid_get (pre post : List Int) (x : Int) (k : Nat) (hk : k < post.length) (h : pre.length + 1 + k < (pre ++ (post.take k ++ x :: post.drop k)).length) : (pre ++ (post.take k ++ x :: post.drop k))[pre.length + 1 + k] = post[k] := by
  have h2 : (pre ++ (post.take k ++ x :: post.drop k))[pre.length + 1 + k]? = some post[k] := by
    rw [List.getElem?_append_right (by omega), List.getElem?_append_right (by simp; omega)]
    have : pre.length + 1 + k - pre.length - (post.take k).length = 1 := by simp [Nat.min_eq_left (Nat.le_of_lt hk)]; omega
    rw [this]
    simp [hk]
  rw [List.getElem?_eq_getElem h] at h2
  injection h2
set_option maxRecDepth 100000 in
set_option maxHeartbeats 2000000 in
theorem del_c (B g cap b : Nat) (id : Int) (pre post : List Int) (W : World) (hO : OwnI W B (.slice (some ⟨g, 0, none⟩) (pre ++ id :: post).length cap) (pre ++ id :: post)) (hp : id ∉ pre) (hq : id ∉ post) (hl : (pre ++ id :: post).length ≤ 1000000) (hb : W.cell? ⟨b, 0, none⟩ = some (.int .i64 id)) (hbg : b ≠ g) :
    Calls Try.prog 39 #[.slice (some ⟨g, 0, none⟩) (pre ++ id :: post).length cap, .func (.func 40) #[] #[.pointer (some ⟨b, 0, none⟩)]] W fun e w' => e = .returned (.slice (some ⟨g, 0, none⟩) (pre ++ post).length cap) ∧ OwnI w' B (.slice (some ⟨g, 0, none⟩) (pre ++ post).length cap) (pre ++ post) ∧ Keep (fun k => k = g) W w' := by
  obtain ⟨A, c, ev, hr, -⟩ := OwnW.rows (N := fun _ => False) intc_len (by decide) hO (fun _ _ h => h)
  injection ev with ev1 _ ev2
  subst ev1 ev2
  have HX := Lib.hid (index_c _ cap b id pre post W hr hp hl hb)
  have HQ := Lib.hid hq
  have hlen : (pre ++ id :: post).length = pre.length + post.length + 1 := by simp; omega
  have hlen2 : pre.length + post.length = (pre ++ post).length := by simp
  obtain ⟨n, hn⟩ : ∃ n : Nat, Hid (n = pre.length + post.length + 1) := ⟨_, Lib.hid rfl⟩
  rw [hlen, ← hn.out] at HX hl hO ⊢
  have hL : ∀ k x, k ≤ post.length → (pre ++ (post.take k ++ x :: post.drop k)).length = n := fun k x hk => by rw [hn.out]; simp; omega
  have HO := Lib.hid (show ∃ x, OwnI W B (.slice (some ⟨g, 0, none⟩) (pre ++ (post.take 0 ++ x :: post.drop 0)).length cap) (pre ++ (post.take 0 ++ x :: post.drop 0)) from ⟨id, by rw [hL 0 id (by omega)]; simpa [hlen, hn.out] using hO⟩)
  have hcap : n ≤ cap ∧ cap ≤ 9223372036854775807 := by
    rcases hO.2 with ⟨e, _⟩ | ⟨_, _, _, e, _, _, h, h2, _⟩
    · cases e
    · injection e with _ _ e; subst e; unfold maxLen at h2; rw [hn.out, ← hlen]; exact ⟨h, by omega⟩
  obtain ⟨hc1, hc2⟩ := hcap
  have HL := Lib.hid hL
  have HLL := Lib.hid hlen2
  have hp1 : pre.length + 1 ≤ n := by rw [hn.out]; omega
  have ne1 : ((pre.length : Int) == -1) = false := by simp
  have hnI : (n : Int) ≤ 1000000 := by omega
  have h2 : (n : Int) ≤ (cap : Int) := by omega
  have h4 : (cap : Int) ≤ 9223372036854775807 := by omega
  have hpI : (pre.length : Int) + 1 ≤ (n : Int) := by omega
  clear hO hr hp hq hlen hlen2 hL
  go_enter Try.func39, Try.ntmps39
  go_wp2_with fail
  refine HX.out.mono ?_
  rintro e w1 ⟨rfl, rfl⟩
  clear HX
  go_wp2_with fail
  go_loopw [5, 6] (fun i j wr => ∃ k p q : Nat, k ≤ post.length ∧ i = .int .i64 p ∧ j = .int .i64 q ∧ Hid (p = pre.length + k) ∧ Hid (q = p + 1) ∧ q ≤ n ∧ Hid (∃ x, OwnI wr B (.slice (some ⟨g, 0, none⟩) (pre ++ (post.take k ++ x :: post.drop k)).length cap) (pre ++ (post.take k ++ x :: post.drop k))) ∧ Hid (Keep (fun k => k = g) W wr)) (fun i _ _ => n - (RowKit.intOf i).toNat)
  case atStart => exact ⟨0, pre.length, pre.length + 1, by omega, rfl, by go_num, Lib.hid rfl, Lib.hid rfl, hp1, HO, Lib.hid (Keep.refl _ _)⟩
  case round =>
    obtain ⟨k, p, q, hk, rfl, rfl, hp, hq, hqn, hX, hK⟩ := hrel
    clear ne1 hp1 hpI HO
    obtain ⟨x, hO⟩ := hX.out
    have hqI : (q : Int) ≤ (n : Int) := by omega
    by_cases hlt : k < post.length
    · have hqn2 : q < n := by rw [hq.out, hp.out, hn.out]; omega
      have hpq : p < n := by rw [hq.out] at hqn2; omega
      have hqI : (q : Int) < (n : Int) := by omega
      have hpI : (p : Int) < (n : Int) := by omega
      have c0 := (hO.at (k := pre.length + 1 + k) (by rw [HL.out k x hk, hn.out]; omega)).1
      rw [mid_get pre post x k hlt, show pre.length + 1 + k = q by rw [hq.out, hp.out]; omega] at c0
      have f0 := (hO.at (k := pre.length + k) (by rw [HL.out k x hk, hn.out]; omega)).2.1
      have d0 := (hO.at (k := pre.length + k) (by rw [HL.out k x hk, hn.out]; omega)).1
      generalize (pre ++ (post.take k ++ x :: post.drop k))[pre.length + k]'(by rw [HL.out k x hk, hn.out]; omega) = x0 at d0
      have hy : post[k] ≠ id := fun e => HQ.out (e ▸ List.getElem_mem hlt)
      have O2 := Lib.hid (hO.setAt (pre.length + k) post[k])
      rw [mid_step pre post x k hlt, HL.out k x hk, ← HL.out (k + 1) post[k] hlt] at O2
      rw [← hp.out] at f0 d0 O2
      have HC := fun w' (h : w'.cell? ⟨b, 0, none⟩ = some (.int .i64 id)) => cut1_no b post[k] id w' h hy
      have HB := hK.out.cell hb hbg
      have HC := Lib.hid (HC _ HB)
      have HE : Hid (Keep (fun k => k = g) W (wr.setCell ⟨g, p, none⟩ (.int .i64 post[k]))) := Lib.hid (hK.out.setCell (.inl rfl) _)
      clear hO hX hy HB hb
      generalize post[k] = y at *
      go_wp2_with fail
      refine HC.out.mono ?_
      rintro e w2 ⟨rfl, rfl⟩
      go_wp2_with fail
      go_roundw
      case rel => exact ⟨k + 1, p + 1, q + 1, by omega, by go_num, by go_num, Lib.hid (by rw [hp.out]; omega), Lib.hid (by rw [hq.out]), by omega, Lib.hid ⟨y, O2.out⟩, HE⟩
      case measure => first | (simp [RowKit.intOf]; done) | (simp [RowKit.intOf]; omega)
    · obtain rfl : k = post.length := by omega
      have hpn : p = (pre ++ post).length := by rw [hp.out, HLL.out]
      have hqn2 : q = n := by rw [hq.out, hp.out, hn.out]
      have hnp : n = p + 1 := by rw [← hqn2, hq.out]
      rw [show pre ++ (post.take post.length ++ x :: post.drop post.length) = (pre ++ post) ++ [x] by simp] at hO
      have O2 := OwnI.less hO
      obtain ⟨w2, hrun2, ho2, hg2, hs2⟩ := run_clearW (P := Try.prog) wr (f := intc) (m := 1) 35 0 B 3 zI Try.underlying35 zeroI rfl zI_flat g cap (pre ++ post).length (pre ++ post) ⟨g, (pre ++ post).length, none⟩ (by simp) O2 (by rw [← hpn]; omega)
      have HK := Lib.hid (hK.out.grown hg2 (fun j hj => .inl (by injection hj with hj; exact hj.symm)))
      have HR2 := Lib.hid hrun2
      rw [← hpn] at HR2 ho2
      have HPN := Lib.hid hpn
      have HO2 := Lib.hid ho2
      subst hnp
      subst hqn2
      have hcp : (p : Int) + 1 ≤ (cap : Int) := by omega
      have hcp2 : (p : Int) < (cap : Int) := by omega
      have hne : (cap == p) = false := by simp; omega
      clear hO hX hp hq hqn hlt hpn O2 hrun2 ho2 hg2 hs2 hK HL HLL hn hb HQ
      go_wp2_with fail
      all_goals
        rw [HR2.out]
        simp only [Result.andThen]
        rw [Oper.upon_value]
        go_wp2_with fail
        go_ret
        exact ⟨ret_slice HPN.out rfl, by unfold OwnI; rw [← HPN.out]; exact HO2.out, HK.out⟩
end Go.Proofs.Ytonflknnlfffhaa
