/- eval.Put, Glob, SetGlob: rows of binds made, cut, searched. -/
import Derived.Test.YtmadnehipagakaaGreatDoorGa
import Derived.Laws.OwnMore
import Derived.Deep.Onto
namespace Go.Proofs.YtmadnehipagakaaGreatDoor
open Go.RowKit Go.Lib Go.Sort Go.Shelf KP
section
variable {α : Type} {f : α → List Value} {m : Nat}
theorem flat_len (hm : ∀ x, (f x).length = m) (l : List α) : (l.flatMap f).length = l.length * m := by
  induction l with
  | nil => simp
  | cons x l ih => rw [List.flatMap_cons, List.length_append, ih, hm, List.length_cons, Nat.succ_mul]; omega
theorem flat_at (hm : ∀ x, (f x).length = m) : ∀ (l : List α) (k : Nat) (h : k < l.length) (j : Nat) (_ : j < m), (l.flatMap f)[k * m + j]? = (f l[k])[j]?
  | [], k, h, _, _ => by simp at h
  | x :: l, 0, _, j, hj => by
    rw [List.flatMap_cons, Nat.zero_mul, Nat.zero_add, List.getElem?_append_left (by rw [hm]; exact hj)]
    rfl
  | x :: l, k + 1, h, j, hj => by
    rw [List.flatMap_cons, List.getElem?_append_right (by rw [hm, Nat.succ_mul]; omega), hm, show (k + 1) * m + j - m = k * m + j by rw [Nat.succ_mul]; omega]
    exact flat_at hm l k (by simpa using h) j hj
end
abbrev b4 (b : Bd) : List Value := [.string b.1, .int .i64 b.2.1, .int .i64 b.2.2.1, .string b.2.2.2]
theorem b4_len (b : Bd) : (b4 b).length = 4 := rfl
theorem b4_flat (l : List Bd) : ∀ u ∈ l.flatMap b4, u.oneCell' = true := by
  intro u hu
  obtain ⟨b, _, h⟩ := List.mem_flatMap.1 hu
  simp at h
  rcases h with rfl | rfl | rfl | rfl <;> rfl
theorem addr_flat (g k j m : Nat) : ((⟨g, 0, none⟩ : Addr).add (k * m)).add j = ⟨g, k * m + j, none⟩ := by
  simp [Addr.add]
  split <;> split <;> simp_all
theorem binds_own {W : World} {g n : Nat} {cur : Array Value} {l : List Bd} {T : TypeId} {fr : Nat × Nat} {N : Nat → Prop} (hg : W.heap[g]? = some (.cells cur T fr)) (hc : cur.toList.take (n * 4) = l.flatMap b4) (hN : ¬ N g) : BindsAt N W (some ⟨g, 0, none⟩) l := by
  intro k hk
  refine ⟨_, rfl, hN, fun j v hv => ?_⟩
  have hj : j < 4 := by
    rcases Nat.lt_or_ge j 4 with h | h
    · exact h
    · rw [Array.getElem?_eq_none (by simpa using h)] at hv; cases hv
  rw [addr_flat]
  refine block_cell hg ?_
  have h1 := flat_at b4_len l k hk j hj
  rw [← hc, List.getElem?_take] at h1
  split at h1
  · have h2 : cur[k * 4 + j]? = (b4 l[k])[j]? := by simpa using h1
    rw [h2]
    simpa using hv
  · have h2 : (b4 l[k])[j]? = some v := by simpa using hv
    rw [h2] at h1
    cases h1
theorem binds_news {N : Nat → Prop} {W : World} {ad : Addr} {l : List Bd} (h : BindsAt N W (some ad) l) : ∀ j u, (l.flatMap b4)[j]? = some u → W.cell? (ad.add j) = some u := by
  intro j u hu
  have hlen := flat_len b4_len l
  have hj : j < l.length * 4 := by have := (List.getElem?_eq_some_iff.1 hu).1; omega
  have hk : j / 4 < l.length := by omega
  obtain ⟨ad', e, _, hc⟩ := h (j / 4) hk
  obtain rfl := Option.some.inj e
  have h1 := flat_at b4_len l (j / 4) hk (j % 4) (by omega)
  rw [show j / 4 * 4 + j % 4 = j by omega, hu] at h1
  have h2 := hc (j % 4) u (by simpa using h1.symm)
  have e2 : (ad.add (j / 4 * 4)).add (j % 4) = ad.add j := by
    have : j / 4 * 4 + j % 4 = j := by omega
    generalize j / 4 * 4 = p at *
    generalize j % 4 = q at *
    subst this
    unfold Addr.add
    split <;> split <;> (try split) <;> simp_all <;> omega
  rwa [e2] at h2
def zB : Value := .agg #[.string ⟨#[]⟩, .int .i64 0, .int .i64 0, .string ⟨#[]⟩]
theorem infoB : (Tryz.prog.info? 73).map (fun i => (i.zero, i.size, i.bytes)) = some (some zB, 4, 48) := by kernel_rfl
/-- A row of its own as binds. -/
theorem owns_binds {W : World} {B n : Nat} {v : Value} {l : List Bd} {T : TypeId} {N : Nat → Prop} (h : W.ownsRow B T 4 v n (l.flatMap b4)) (hN : ∀ k, N k → k < B) : ∃ A c, v = .slice A l.length c ∧ BindsAt N W A l ∧ l.length = n ∧ l.length ≤ c ∧ (A = none → c = 0) := by
  have hn : l.length = n := by have := h.1; rw [flat_len b4_len] at this; omega
  rcases h.2 with ⟨e1, e2⟩ | ⟨g1, cap, cur, e1, hB, hg1, hc1, hc2, hc3, hc4⟩
  · have : l = [] := List.eq_nil_of_length_eq_zero (by omega)
    subst this
    exact ⟨none, 0, e1, BindsAt.nil _ _ _, hn, Nat.le_refl _, fun _ => rfl⟩
  · exact ⟨_, cap, by rw [hn]; exact e1, binds_own hg1 hc4 (fun h => by have := hN _ h; omega), hn, by omega, fun h => by cases h⟩
set_option maxHeartbeats 1000000 in
theorem cloneB_c (A : Option Addr) (c : Nat) (l : List Bd) (w : World) (hA : A = none → c = 0) (hI : BindsAt (fun _ => False) w A l) (hl : l.length ≤ 1000000) :
    Calls Tryz.prog 63 #[.slice A l.length c] w fun e w' => ∃ v, e = .returned v ∧ w'.ownsRow w.heap.size 73 4 v l.length (l.flatMap b4) ∧ Below w.heap.size w w' := by
  obtain ⟨i0, hi, hz0, hz1, hz2⟩ := info_parts infoB
  cases A with
  | none =>
    obtain rfl : l = [] := by
      cases l with
      | nil => rfl
      | cons b l => obtain ⟨ad, e, _⟩ := hI 0 (by simp); cases e
    obtain rfl := hA rfl
    have heq := fun w => Lib.run_eql_slice_nil (P := Tryz.prog) w 38 73 none 0 0 0 0 Tryz.underlying38
    clear hI hA hl
    go_enter Tryz.func63, Tryz.ntmps63
    go_wp2
    go_ret
    exact ⟨_, rfl, World.ownsRow_nil _ _ _ _, Below.refl _ _⟩
  | some ad =>
    have heq := fun w => Lib.run_eql_slice_nil (P := Tryz.prog) w 38 73 (some ad) l.length c 0 0 Tryz.underlying38
    have H0 := Lib.hid (World.ownsRow_made w #[] (e := 73) (size := 4) (base := w.heap.size) 0 (Nat.le_refl _) (by unfold maxLen; omega) rfl)
    have HN := Lib.hid (binds_news (hI.below ((Below.refl _ w).alloc (Nat.le_refl _) (.cells #[] 73))))
    clear hI
    go_enter Tryz.func63, Tryz.ntmps63
    go_wp2_with (at_builtin; refine wpList_append_own _ rfl (.tmp 5) (.tmp 6) 38 rfl w.heap.size 73 i0 zB 4 48 Tryz.underlying38 hi hz0 hz1 hz2 rfl (by decide) _ 0 [] rfl H0.out ad l.length c (l.flatMap b4) rfl (flat_len b4_len l) HN.out (b4_flat l) (by unfold maxLen; omega) (by omega) (by simp) ?_)
    intro v' w1 hown hg hnil
    have hbel : Below w.heap.size w w1 := ((Below.refl _ _).alloc (Nat.le_refl _) _).grown hg (by simp) (fun k h => by simp [Value.ownBlock] at h; omega)
    have HO := Lib.hid hown
    have HB := Lib.hid hbel
    clear hown hbel hnil hg
    go_wp2
    go_ret
    exact ⟨_, rfl, by simpa using HO.out, HB.out⟩
set_option maxHeartbeats 400000 in
theorem clipB_c (A : Option Addr) (n c : Nat) (w : World) (hn : n ≤ c) :
    Calls Tryz.prog 66 #[.slice A n c] w fun e w' => e = .returned (.slice A n n) ∧ w = w' := by
  go_enter Tryz.func66, Tryz.ntmps66
  go_wp2
  go_ret
  exact ⟨rfl, rfl⟩
theorem named_c (s : ByteArray) (w : World) : Calls Tryz.prog 65 #[.string s] w fun e w' => e = .returned (.func (.func 103) #[] #[.pointer (some ⟨w.heap.size, 0, none⟩)]) ∧ w' = w.alloc (.cells #[.string s] 9) := by
  go_enter Tryz.func65, Tryz.ntmps65
  go_wp2
  go_ret
  exact ⟨rfl, rfl⟩
theorem named1_c (b : Bd) (nb : Nat) (s : ByteArray) (w : World) (hc : w.cell? ⟨nb, 0, none⟩ = some (.string s)) : Calls Tryz.prog 103 #[b.val, .pointer (some ⟨nb, 0, none⟩)] w fun e w' => e = .returned (.bool (decide (b.1 = s))) ∧ Below w.heap.size w w' := by
  obtain ⟨b1, b2, b3, b4⟩ := b
  have hnb := World.block_lt_of_cell? _ _ hc
  have E1 := Lib.hid ((Below.refl w.heap.size w).alloc (Nat.le_refl _) (.cells #[.string b1, .int .i64 b2, .int .i64 b3, .string b4] 73))
  have hc2 := (E1.out.cell hnb).trans hc
  clear hc hnb
  by_cases h : b1 = s
  · have hq := str_eq h
    have HD : Hid (true = decide (b1 = s)) := Lib.hid (by simp [h])
    clear h
    go_enter Tryz.func103, Tryz.ntmps103
    go_wp2
    go_ret
    exact ⟨ret_bool HD.out, E1.out⟩
  · have hq := str_ne h
    have HD : Hid (false = decide (b1 = s)) := Lib.hid (by simp [h])
    clear h
    go_enter Tryz.func103, Tryz.ntmps103
    go_wp2
    go_ret
    exact ⟨ret_bool HD.out, E1.out⟩
/-- The first bind of a name. -/
def idxO (l : List Bd) (s : ByteArray) : Option Nat := l.findIdx? (fun b => decide (b.1 = s))
def idxI (l : List Bd) (s : ByteArray) : Int := match idxO l s with
  | some k => k
  | none => -1
theorem idx_some {l : List Bd} {s : ByteArray} {k : Nat} (hk : k < l.length) (h : l[k].1 = s) (hb : ∀ j (hj : j < l.length), j < k → l[j].1 ≠ s) : idxO l s = some k := by
  unfold idxO
  rw [List.findIdx?_eq_some_iff_getElem]
  exact ⟨hk, by simpa using h, fun j hj => by simpa using hb j (by omega) hj⟩
theorem idx_none {l : List Bd} {s : ByteArray} (hb : ∀ j (hj : j < l.length), l[j].1 ≠ s) : idxO l s = none := by
  unfold idxO
  rw [List.findIdx?_eq_none_iff]
  intro b hm
  obtain ⟨j, hj, rfl⟩ := List.getElem_of_mem hm
  simpa using hb j hj
set_option maxHeartbeats 2000000 in
theorem indexB_c (A : Option Addr) (c : Nat) (l : List Bd) (nb : Nat) (s : ByteArray) (w : World) (hc : w.cell? ⟨nb, 0, none⟩ = some (.string s)) (hI : BindsAt (fun _ => False) w A l) (hl : l.length ≤ 1000000) :
    Calls Tryz.prog 64 #[.slice A l.length c, .func (.func 103) #[] #[.pointer (some ⟨nb, 0, none⟩)]] w fun e w' => e = .returned (.int .i64 (idxI l s)) ∧ Below w.heap.size w w' := by
  have hnb := World.block_lt_of_cell? _ _ hc
  have V := Lib.hid (fun W (h : Below w.heap.size w W) => hI.below h)
  have HC := Lib.hid (fun W (h : Below w.heap.size w W) (b : Bd) => named1_c b nb s W ((h.cell hnb).trans hc))
  have hlI : (l.length : Int) ≤ 1000000 := by omega
  clear hI hc hnb
  go_enter Tryz.func64, Tryz.ntmps64
  go_wp2_with fail
  go_loopw [8] (fun i wr => ∃ k : Nat, k ≤ l.length ∧ i = .int .i64 k ∧ Hid (Below w.heap.size w wr) ∧ Hid (∀ j (hj : j < l.length), j < k → l[j].1 ≠ s)) (fun i _ => l.length - (intOf i).toNat)
  case atStart => exact ⟨0, by omega, rfl, Lib.hid (Below.refl _ _), Lib.hid (fun _ _ h => by omega)⟩
  case round =>
    obtain ⟨k, hk, rfl, hB, hJ⟩ := hrel
    by_cases hlt : k < l.length
    · have hltI : (k : Int) < (l.length : Int) := by omega
      obtain ⟨ad, rfl, _, c0, c1, c2, c3⟩ := (V.out _ hB.out).at hlt
      have HK := Lib.hid (HC.out _ hB.out l[k])
      by_cases h : l[k].1 = s
      · have HD : Hid (decide (l[k].1 = s) = true) := Lib.hid (by simp [h])
        have HR : Hid ((k : Int) = idxI l s) := Lib.hid (by unfold idxI; rw [idx_some hlt h hJ.out])
        rw [HD.out] at HK
        clear h HD
        generalize l[k] = b at *
        obtain ⟨b1, b2, b3, b4⟩ := b
        dsimp only at c0 c1 c2 c3
        go_wp2_with fail
        refine HK.out.mono ?_
        rintro e w2 ⟨rfl, q2⟩
        have E2 := Lib.hid (hB.out.trans (q2.mono hB.out.size))
        clear q2 c0 c1 c2 c3
        go_wp2_with fail
        go_ret
        exact ⟨ret_int HR.out, E2.out⟩
      · have HD : Hid (decide (l[k].1 = s) = false) := Lib.hid (by simp [h])
        have hJ2 : Hid (∀ j (hj : j < l.length), j < k + 1 → l[j].1 ≠ s) := Lib.hid (fun j hj hjk => by
          by_cases e : j = k
          · subst e; exact h
          · exact hJ.out j hj (by omega))
        rw [HD.out] at HK
        clear h HD
        generalize hb : l[k] = b at *
        obtain ⟨b1, b2, b3, b4⟩ := b
        dsimp only at c0 c1 c2 c3
        clear hb
        go_wp2_with fail
        refine HK.out.mono ?_
        rintro e w2 ⟨rfl, q2⟩
        have E2 := Lib.hid (hB.out.trans (q2.mono hB.out.size))
        clear q2 c0 c1 c2 c3
        go_wp2_with fail
        exact ⟨⟨k + 1, by omega, by go_num, E2, hJ2⟩, by simp [intOf]; omega⟩
    · obtain rfl : k = l.length := by omega
      have HR : Hid (-1 = idxI l s) := Lib.hid (by unfold idxI; rw [idx_none (fun j hj => hJ.out j hj hj)])
      go_wp2_with fail
      go_ret
      exact ⟨ret_int HR.out, hB.out⟩
/-- Binds with another value of a name. -/
def putO (l : List Bd) (s : ByteArray) (v : Vl) : List Bd := match idxO l s with
  | some k => l.set k (s, v)
  | none => l ++ [(s, v)]
theorem idx_lt {l : List Bd} {s : ByteArray} {k : Nat} (h : idxO l s = some k) : ∃ hk : k < l.length, l[k].1 = s := by
  unfold idxO at h
  rw [List.findIdx?_eq_some_iff_getElem] at h
  obtain ⟨hk, h1, _⟩ := h
  exact ⟨hk, by simpa using h1⟩
theorem binds_set {W : World} {g n : Nat} {cur : Array Value} {l : List Bd} {T : TypeId} {N : Nat → Prop} (hg : W.heap[g]? = some (.cells cur T (0, 0))) (hc : cur.toList.take (n * 4) = l.flatMap b4) (hn : l.length = n) (p : Nat) (hp : p < l.length) (s : ByteArray) (hs : l[p].1 = s) (v : Vl) (hN : ¬ N g) :
    BindsAt N (((W.setCell ⟨g, p * 4 + 1, none⟩ (.int .i64 v.1)).setCell ⟨g, p * 4 + 1 + 1, none⟩ (.int .i64 v.2.1)).setCell ⟨g, p * 4 + 1 + 2, none⟩ (.string v.2.2)) (some ⟨g, 0, none⟩) (l.set p (s, v)) := by
  have h1 := block_set (block_set (block_set hg (j := p * 4 + 1) (.int .i64 v.1)) (j := p * 4 + 2) (.int .i64 v.2.1)) (j := p * 4 + 3) (.string v.2.2)
  have hsz : n * 4 ≤ cur.size := by
    have e := congrArg List.length hc
    rw [flat_len b4_len, List.length_take, hn] at e
    simp at e
    omega
  intro k hk
  have hk' : k < l.length := by simpa using hk
  refine ⟨_, rfl, hN, fun j u hu => ?_⟩
  rw [addr_flat]
  refine block_cell h1 ?_
  have hj : j < 4 := by
    rcases Nat.lt_or_ge j 4 with h | h
    · exact h
    · rw [Array.getElem?_eq_none (by simpa using h)] at hu; cases hu
  have h2 := flat_at b4_len l k hk' j hj
  rw [← hc, List.getElem?_take] at h2
  have h3 : cur[k * 4 + j]? = (b4 l[k])[j]? := by
    split at h2
    · simpa using h2
    · exfalso
      have : (b4 l[k])[j]? ≠ none := by rw [ne_eq, List.getElem?_eq_none_iff]; rw [b4_len]; omega
      exact this h2.symm
  by_cases e : k = p
  · subst e
    rw [List.getElem_set_self] at hu
    match j, hj with
    | 0, _ =>
      rw [Array.getElem?_setIfInBounds_ne (by omega), Array.getElem?_setIfInBounds_ne (by omega), Array.getElem?_setIfInBounds_ne (by omega), h3]
      rw [← hs] at hu
      exact hu
    | 1, _ =>
      rw [Array.getElem?_setIfInBounds_ne (by omega), Array.getElem?_setIfInBounds_ne (by omega), Array.getElem?_setIfInBounds_self_of_lt (by omega)]
      exact hu
    | 2, _ =>
      rw [Array.getElem?_setIfInBounds_ne (by omega), Array.getElem?_setIfInBounds_self_of_lt (by simp; omega)]
      exact hu
    | 3, _ =>
      rw [Array.getElem?_setIfInBounds_self_of_lt (by simp; omega)]
      exact hu
  · rw [List.getElem_set_ne (by omega)] at hu
    rw [Array.getElem?_setIfInBounds_ne (by omega), Array.getElem?_setIfInBounds_ne (by omega), Array.getElem?_setIfInBounds_ne (by omega), h3]
    simpa using hu
theorem idx_c (l : List Bd) (s : ByteArray) (A : Option Addr) (c : Nat) (r : Int) (hr : idxI l s = r) (nb : Nat) (w : World) (hc : w.cell? ⟨nb, 0, none⟩ = some (.string s)) (hI : BindsAt (fun _ => False) w A l) (hl : l.length ≤ 1000000) :
    Calls Tryz.prog 64 #[.slice A l.length c, .func (.func 103) #[] #[.pointer (some ⟨nb, 0, none⟩)]] w fun e w' => e = .returned (.int .i64 r) ∧ Below w.heap.size w w' := by
  rw [← hr]; exact indexB_c A c l nb s w hc hI hl
set_option maxHeartbeats 2000000 in
theorem put_set (A : Option Addr) (c : Nat) (l : List Bd) (s : ByteArray) (v : Vl) (k : Nat) (hk : idxO l s = some k) (w : World) (hA : A = none → c = 0) (hI : BindsAt (fun _ => False) w A l) (hl : l.length ≤ 900000) :
    Calls Tryz.prog 29 #[.slice A l.length c, .string s, v.val] w fun e w' => ∃ A', e = .returned (.slice A' (putO l s v).length (putO l s v).length) ∧ BindsAt (fun k => k < w.heap.size) w' A' (putO l s v) ∧ (A' = none → False) ∧ Below w.heap.size w w' := by
  obtain ⟨hkl, hks⟩ := idx_lt hk
  have hP : putO l s v = l.set k (s, v) := by unfold putO; rw [hk]
  have hX : idxI l s = k := by unfold idxI; rw [hk]
  rw [hP, List.length_set]
  clear hP hk
  obtain ⟨v1, v2, v3⟩ := v
  have hkI : (k : Int) < (l.length : Int) := by omega
  have hlI : (l.length : Int) ≤ 900000 := by omega
  have hV := one_box w (v1, v2, v3) 26
  dsimp only at hV
  obtain ⟨⟨c0, c1, c2⟩, hB, hz⟩ := hV
  have E0 := Lib.hid hB
  have CL := Lib.hid (cloneB_c A c l _ hA (hI.below hB) (by omega))
  have HX := Lib.hid hX
  have HKS := Lib.hid (show ∃ h : k < l.length, l[k].1 = s from ⟨hkl, hks⟩)
  clear hI hB hX hks hA
  go_enter Tryz.func29, Tryz.ntmps29
  go_wp2_with fail
  generalize w.alloc (.cells #[.int .i64 v1, .int .i64 v2, .string v3] 26) = wb at *
  refine CL.out.mono ?_
  rintro e w1 ⟨x, rfl, hO, q1⟩
  have E1 := Lib.hid q1
  rcases hO.2 with ⟨_, e2⟩ | ⟨g, cap, cur, rfl, hBg, hg, hc1, hc2, hc3, hc4⟩
  · exfalso; omega
  have G1 := Lib.hid (show w1.heap[g]? = some (.cells cur 73 (0, 0)) from hg)
  have HC := Lib.hid hc4
  have HBg := Lib.hid hBg
  clear hO q1 hg hc4 hBg
  go_wp2_with fail
  refine (named_c s _).mono ?_
  rintro e w2 ⟨rfl, rfl⟩
  go_wp2_with fail
  have G2 := Lib.hid ((Below.heap_alloc w1 (.cells #[.string s] 9) g (Array.getElem?_eq_some_iff.1 G1.out).1).trans G1.out)
  refine (idx_c l s (some ⟨g, 0, none⟩) cap k HX.out w1.heap.size _ (block_cell (heap_alloc_new w1 _) rfl) (binds_own G2.out HC.out (fun h => h)) (by omega)).mono ?_
  rintro e w3 ⟨rfl, q3⟩
  have E3 := Lib.hid (show Below wb.heap.size wb w3 from (E1.out.alloc E1.out.size _).trans (q3.mono (E1.out.alloc E1.out.size _).size))
  have G3 := Lib.hid (keepB G2.out q3)
  clear q3
  have c0' := (E3.out.cell (p := ⟨w.heap.size, 0, none⟩) (by show w.heap.size < _; omega)).trans c0
  have c1' := (E3.out.cell (p := ⟨w.heap.size, 1, none⟩) (by show w.heap.size < _; omega)).trans c1
  have c2' := (E3.out.cell (p := ⟨w.heap.size, 2, none⟩) (by show w.heap.size < _; omega)).trans c2
  clear c0 c1 c2
  have hcur : ∀ j, j < 4 → cur[k * 4 + j]? = (b4 l[k])[j]? := fun j hj => by
    have h2 := flat_at b4_len l k hkl j hj
    rw [← HC.out, List.getElem?_take] at h2
    split at h2
    · simpa using h2
    · exact absurd h2.symm (by rw [List.getElem?_eq_none_iff, b4_len]; omega)
  have d1 := block_cell (w := w3) (j := k * 4 + 1) G3.out (hcur 1 (by omega))
  have d2 := block_cell (w := w3) (j := k * 4 + 1 + 1) G3.out (hcur 2 (by omega))
  have d3 := block_cell (w := w3) (j := k * 4 + 1 + 2) G3.out (hcur 3 (by omega))
  have f1 := block_free (j := k * 4 + 1) G3.out
  have f2 := block_free (j := k * 4 + 1 + 1) G3.out
  have f3 := block_free (j := k * 4 + 1 + 2) G3.out
  have R3 := Lib.hid (fun N (hN : ¬ N g) => binds_set (N := N) G3.out HC.out rfl k hkl s HKS.out.2 (v1, v2, v3) hN)
  have B3 := Lib.hid (show Below wb.heap.size wb (((w3.setCell ⟨g, k * 4 + 1, none⟩ (.int .i64 v1)).setCell ⟨g, k * 4 + 1 + 1, none⟩ (.int .i64 v2)).setCell ⟨g, k * 4 + 1 + 2, none⟩ (.string v3)) from ((E3.out.setCell HBg.out _).setCell HBg.out _).setCell HBg.out _)
  clear hcur
  go_wp2_with fail
  refine (clipB_c _ _ _ _ (by omega)).mono ?_
  rintro e w4 ⟨rfl, rfl⟩
  go_wp2_with fail
  go_ret
  refine ⟨_, rfl, R3.out _ (by have := HBg.out; omega), by simp, E0.out.trans (B3.out.mono E0.out.size)⟩
set_option maxHeartbeats 2000000 in
theorem put_new (A : Option Addr) (c : Nat) (l : List Bd) (s : ByteArray) (v : Vl) (hk : idxO l s = none) (w : World) (hA : A = none → c = 0) (hI : BindsAt (fun _ => False) w A l) (hl : l.length ≤ 900000) :
    Calls Tryz.prog 29 #[.slice A l.length c, .string s, v.val] w fun e w' => ∃ A', e = .returned (.slice A' (putO l s v).length (putO l s v).length) ∧ BindsAt (fun k => k < w.heap.size) w' A' (putO l s v) ∧ (A' = none → False) ∧ Below w.heap.size w w' := by
  have hP : putO l s v = l ++ [(s, v)] := by unfold putO; rw [hk]
  have hX : idxI l s = -1 := by unfold idxI; rw [hk]
  rw [hP]
  clear hP hk
  obtain ⟨i0, hi, hz0, hz1, hz2⟩ := info_parts infoB
  obtain ⟨v1, v2, v3⟩ := v
  have hlI : (l.length : Int) ≤ 900000 := by omega
  have hV := one_box w (v1, v2, v3) 26
  dsimp only at hV
  obtain ⟨⟨c0, c1, c2⟩, hB, hz⟩ := hV
  have E0 := Lib.hid hB
  have CL := Lib.hid (cloneB_c A c l _ hA (hI.below hB) (by omega))
  have HX := Lib.hid hX
  clear hI hB hX hA
  go_enter Tryz.func29, Tryz.ntmps29
  go_wp2_with fail
  generalize w.alloc (.cells #[.int .i64 v1, .int .i64 v2, .string v3] 26) = wb at *
  refine CL.out.mono ?_
  rintro e w1 ⟨x, rfl, hO, q1⟩
  have E1 := Lib.hid q1
  have hO0 := hO
  obtain ⟨A1, c1n, hx, hbi, _, hle, hAc⟩ := owns_binds (N := fun _ => False) hO0 (fun _ h => h.elim)
  subst hx
  have O1 := Lib.hid hO
  have BI := Lib.hid hbi
  clear hO hO0 q1 hbi
  go_wp2_with fail
  refine (named_c s _).mono ?_
  rintro e w2 ⟨rfl, rfl⟩
  go_wp2_with fail
  refine (idx_c l s A1 c1n (-1) HX.out w1.heap.size _ (block_cell (heap_alloc_new w1 _) rfl) (BI.out.below ((Below.refl _ w1).alloc (Nat.le_refl _) _)) (by omega)).mono ?_
  rintro e w3 ⟨rfl, q3⟩
  have F3 := ((Below.refl w1.heap.size w1).alloc (Nat.le_refl _) (.cells #[.string s] 9)).trans (q3.mono (by simp))
  have E3 := Lib.hid (show Below wb.heap.size wb w3 from E1.out.trans (F3.mono E1.out.size))
  have O3 := Lib.hid (show w3.ownsRow wb.heap.size 73 4 (.slice A1 l.length c1n) l.length (l.flatMap b4) from ownsRow_keep O1.out (Keep.of_below F3 (fun _ => False)) (fun _ _ h => h))
  clear q3 F3
  have c0' := (E3.out.cell (p := ⟨w.heap.size, 0, none⟩) (by show w.heap.size < _; omega)).trans c0
  have c1' := (E3.out.cell (p := ⟨w.heap.size, 1, none⟩) (by show w.heap.size < _; omega)).trans c1
  have c2' := (E3.out.cell (p := ⟨w.heap.size, 2, none⟩) (by show w.heap.size < _; omega)).trans c2
  have N3 : Hid (∀ j u, (b4 (s, v1, v2, v3))[j]? = some u → (w3.alloc (.cells #[.string s, .int .i64 v1, .int .i64 v2, .string v3] 73)).cell? ((⟨w3.heap.size, 0, none⟩ : Addr).add j) = some u) := Lib.hid (fun j u hu => by
    rw [show (⟨w3.heap.size, 0, none⟩ : Addr).add j = ⟨w3.heap.size, j, none⟩ by simp [Addr.add]; omega]
    exact block_cell (heap_alloc_new w3 _) (by simpa using hu))
  have B4 := Lib.hid (E3.out.alloc E3.out.size (.cells #[.string s, .int .i64 v1, .int .i64 v2, .string v3] 73))
  have O4 := Lib.hid (O3.out.alloc (.cells #[.string s, .int .i64 v1, .int .i64 v2, .string v3] 73))
  clear c0 c1 c2
  go_wp2_with (at_builtin; refine wpList_append_own _ rfl (.tmp 24) (.tmp 28) 38 rfl wb.heap.size 73 i0 zB 4 48 Tryz.underlying38 hi hz0 hz1 hz2 rfl (by decide) _ l.length _ rfl O4.out ⟨w3.heap.size, 0, none⟩ 1 1 (b4 (s, v1, v2, v3)) rfl rfl N3.out (by have := b4_flat [(s, v1, v2, v3)]; simpa using this) (by unfold maxLen; omega) (by omega) B4.out.size ?_)
  intro v' w5 hown hg hnil
  have hown2 : w5.ownsRow wb.heap.size 73 4 v' (l ++ [(s, v1, v2, v3)]).length ((l ++ [(s, v1, v2, v3)]).flatMap b4) := by simpa using hown
  have hB5 := Lib.hid (B4.out.grown hg B4.out.size (fun q hq => (O4.out.lt q hq).1))
  obtain ⟨A5, c5, hv5, hbi5, hl5, hle5, hA5⟩ := owns_binds (N := fun k => k < wb.heap.size) hown2 (fun _ h => h)
  subst hv5
  have BI5 := Lib.hid (hbi5.mono (M := fun k => k < w.heap.size) (fun k h => by omega))
  have HN : Hid (A5 = none → False) := Lib.hid (by
    rintro rfl
    obtain ⟨ad, e, _⟩ := hbi5 0 (by simp)
    cases e)
  clear hown hown2 hg hnil hbi5 hl5 hA5
  rw [show (l ++ [(s, v1, v2, v3)]).length = l.length + 1 by simp]
  go_wp2_with fail
  refine (clipB_c A5 (l.length + 1) c5 _ (by simpa using hle5)).mono ?_
  rintro e w6 ⟨rfl, rfl⟩
  go_wp2_with fail
  go_ret
  refine ⟨A5, ?_, BI5.out, HN.out, E0.out.trans (hB5.out.mono E0.out.size)⟩
  rw [show (l ++ [(s, v1, v2, v3)]).length = l.length + 1 by simp]
  rfl
theorem put_c (A : Option Addr) (c : Nat) (l : List Bd) (s : ByteArray) (v : Vl) (w : World) (hA : A = none → c = 0) (hI : BindsAt (fun _ => False) w A l) (hl : l.length ≤ 900000) :
    Calls Tryz.prog 29 #[.slice A l.length c, .string s, v.val] w fun e w' => ∃ A', e = .returned (.slice A' (putO l s v).length (putO l s v).length) ∧ BindsAt (fun k => k < w.heap.size) w' A' (putO l s v) ∧ (A' = none → False) ∧ Below w.heap.size w w' := by
  cases h : idxO l s with
  | none => exact put_new A c l s v h w hA hI hl
  | some k => exact put_set A c l s v k h w hA hI hl
end Go.Proofs.YtmadnehipagakaaGreatDoor
