/- TokenChains. -/
import Derived.Test.YtonflknnlfffhaaLb
namespace Go.Proofs.Ytonflknnlfffhaa
open Go.RowKit Go.Lib KP MR RW
/-- Tokens in one another. -/
def chain (m : Nat) : List Tk := (List.range m).map fun i : Nat => ((i : Int) + 1, (i : Int), 100 + (i : Int))
def upL : Nat → List Int
  | 0 => []
  | k + 1 => (100 + (k : Int)) :: upL k
theorem chain_len (m : Nat) : (chain m).length = m := by simp [chain]
theorem chain_succ (m : Nat) : chain (m + 1) = chain m ++ [((m : Int) + 1, (m : Int), 100 + (m : Int))] := by
  unfold chain
  rw [List.range_succ, List.map_append]
  rfl
theorem mem_chain {m : Nat} {t : Tk} : t ∈ chain m ↔ ∃ i : Nat, i < m ∧ t = ((i : Int) + 1, (i : Int), 100 + (i : Int)) := by
  unfold chain
  rw [List.mem_map]
  constructor
  · rintro ⟨i, hi, rfl⟩
    exact ⟨i, List.mem_range.1 hi, rfl⟩
  · rintro ⟨i, hi, rfl⟩
    exact ⟨i, List.mem_range.2 hi, rfl⟩
theorem chain_par (k : Nat) : (k : Int) = 0 ∨ ∃ t ∈ chain k, t.1 = (k : Int) := by
  cases k with
  | zero => exact .inl rfl
  | succ k => exact .inr ⟨_, mem_chain.2 ⟨k, Nat.lt_succ_self k, rfl⟩, by simp⟩
theorem up_chain (m : Nat) : ∀ k : Nat, k ≤ m → Up (chain m) k (upL k)
  | 0, _ => .root
  | k + 1, h => by
    have h1 := up_chain m k (by omega)
    exact .node ((k : Int) + 1, (k : Int), 100 + (k : Int)) (upL k) (mem_chain.2 ⟨k, by omega, rfl⟩) h1
theorem upL_len : ∀ k, (upL k).length = k
  | 0 => rfl
  | k + 1 => by rw [upL, List.length_cons, upL_len k]
theorem upL_rev : ∀ k, (upL k).reverse = (List.range k).map fun i : Nat => 100 + (i : Int)
  | 0 => rfl
  | k + 1 => by rw [upL, List.reverse_cons, upL_rev k, List.range_succ, List.map_append]; rfl
theorem cl_chain {m k : Nat} (hk : k < m) {t : Tk} (ht : t ∈ chain m) : Cl (chain m) (factIds (chain m) (100 + (k : Int))) t.1 ↔ (k : Int) + 1 ≤ t.1 := by
  constructor
  · intro hc
    refine hc.least (S := fun y => (k : Int) + 1 ≤ y) (fun x hx => ?_) (fun t ht hy => ?_)
    · obtain ⟨u, hu, rfl, e⟩ := mem_factIds.1 hx
      obtain ⟨i, _, rfl⟩ := mem_chain.1 hu
      simp at e ⊢
      omega
    · obtain ⟨i, _, rfl⟩ := mem_chain.1 ht
      simp at hy ⊢
      omega
  · obtain ⟨i, hi, rfl⟩ := mem_chain.1 ht
    intro h
    have hki : k ≤ i := by simp at h; omega
    clear ht h
    induction i with
    | zero =>
      obtain rfl : k = 0 := by omega
      exact .base _ (mem_factIds.2 ⟨_, mem_chain.2 ⟨0, hi, rfl⟩, rfl, rfl⟩)
    | succ i ih =>
      by_cases e : k = i + 1
      · subst e
        exact .base _ (mem_factIds.2 ⟨_, mem_chain.2 ⟨i + 1, hi, rfl⟩, rfl, rfl⟩)
      · have := ih (by omega) (by omega)
        exact .step (((i + 1 : Nat) : Int) + 1, ((i + 1 : Nat) : Int), 100 + ((i + 1 : Nat) : Int)) (mem_chain.2 ⟨i + 1, hi, rfl⟩) (by simpa using this)
theorem chain_filter (k : Nat) : ∀ m : Nat, k ≤ m → (chain m).filter (fun t => decide (t.1 ≤ (k : Int))) = chain k
  | 0, h => by obtain rfl : k = 0 := by omega
               rfl
  | m + 1, h => by
    by_cases e : k = m + 1
    · subst e
      rw [List.filter_eq_self]
      intro t ht
      obtain ⟨i, hi, rfl⟩ := mem_chain.1 ht
      simp; omega
    · rw [chain_succ, List.filter_append, chain_filter k m (by omega), List.filter_cons_of_neg (by simp; omega)]
      simp
theorem stay_chain {m k : Nat} (hw : WF (chain m)) (hk : k < m) : stay (chain m) (factIds (chain m) (100 + (k : Int))) = chain k := by
  rw [← chain_filter k m (by omega)]
  unfold stay
  refine List.filter_congr (fun t ht => ?_)
  rw [decide_eq_decide, mem_rem hw, cl_chain hk ht]
  omega
theorem goes_len (T : List Tk) (G : List Int) : (goes T G).length + (stay T G).length = T.length := by
  unfold goes stay
  rw [List.length_map]
  have h3 := List.length_eq_countP_add_countP (l := T) (fun t => decide (t.1 ∈ rem G T))
  rw [List.countP_eq_length_filter, List.countP_eq_length_filter] at h3
  have e : T.filter (fun t => decide (t.1 ∉ rem G T)) = T.filter (fun t => decide (¬ decide (t.1 ∈ rem G T) = true)) := List.filter_congr (fun t _ => by simp)
  rw [e]
  omega
theorem factIds_chain (k : Nat) : factIds (chain k) (100 + (k : Int)) = [] := by
  refine List.eq_nil_iff_forall_not_mem.2 (fun x hx => ?_)
  obtain ⟨u, hu, _, e⟩ := mem_factIds.1 hx
  obtain ⟨i, hi, rfl⟩ := mem_chain.1 hu
  simp at e
  omega
theorem goes_chain0 (k : Nat) (hw : WF (chain k)) : goes (chain k) (factIds (chain k) (100 + (k : Int))) = [] := by
  rw [factIds_chain]
  refine List.eq_nil_iff_forall_not_mem.2 (fun x hx => ?_)
  exact ((mem_goes hw).1 hx).2.least (S := fun _ => False) (fun x hx => by cases hx) (fun _ _ h => h)
set_option maxRecDepth 100000 in
set_option maxHeartbeats 4000000 in
theorem tokenChains_any (n a : Int) (w : World) (hn : (Lit.int .u8 n).wf = true) (ha : (Lit.int .u8 a).wf = true) : Calls Try.prog 4 #[.int .u8 n, .int .u8 a] w fun e w' => e = .returned (.bool true) ∧ Below w.heap.size w w' := by
  have hn : 0 ≤ n ∧ n ≤ 255 := by
    have := hn
    simp only [Lit.wf, Bool.and_eq_true, decide_eq_true_eq] at this
    exact this
  have ha : 0 ≤ a ∧ a ≤ 255 := by
    have := ha
    simp only [Lit.wf, Bool.and_eq_true, decide_eq_true_eq] at this
    exact this
  obtain ⟨hn1, hn2⟩ := hn
  obtain ⟨ha1, ha2⟩ := ha
  have hm1 : 0 ≤ n % 100 := by omega
  have hm2 : n % 100 ≤ 99 := by omega
  have hm3 : ¬ (1 + n % 100 = 0) := by omega
  go_enter Try.func4, Try.ntmps4
  go_wp2_with fail
  refine (known_c w).mono ?_
  rintro e w1 ⟨rfl, b1⟩
  have E1 := Lib.hid b1; clear b1
  go_wp2_with fail
  obtain ⟨m, hm⟩ : ∃ m : Nat, 1 + n % 100 = (m : Int) := ⟨(1 + n % 100).toNat, by omega⟩
  rw [hm]
  obtain ⟨k, hk⟩ : ∃ k : Nat, a % (m : Int) = (k : Int) := ⟨(a % (m : Int)).toNat, by have := Int.emod_nonneg a (b := (m : Int)) (by omega); omega⟩
  rw [hk]
  have hkm : k < m := by have := Int.emod_lt_of_pos a (b := (m : Int)) (by omega); omega
  have hm100 : m ≤ 100 := by omega
  clear hm hk hm1 hm2 hm3 hn ha hn1 hn2 ha1 ha2
  refine (new_t w1).mono ?_
  rintro e w2 ⟨g, F2, rfl, t2, _⟩
  have T2 := Lib.hid (show ∃ F, TreeT w1.heap.size w1 F g (chain 0) (((0 : Nat) : Int) + 1) w2 from ⟨F2, t2⟩)
  have hmI : (m : Int) ≤ 100 := by omega
  have hkI : (k : Int) < (m : Int) := by omega
  have hm1 : 1 ≤ m := by omega
  have hm1I : 1 ≤ (m : Int) := by omega
  clear t2
  go_wp2_with fail
  go_loopw [8, 9] (fun v i wr => ∃ j : Nat, j ≤ m ∧ v = .int .i64 j ∧ i = .int .i64 j ∧ Hid (∃ F, TreeT w1.heap.size w1 F g (chain j) ((j : Int) + 1) wr)) (fun _ i _ => (m - (RowKit.intOf i).toNat))
  case atStart => exact ⟨0, by omega, rfl, rfl, T2⟩
  case round =>
    obtain ⟨j, hj, rfl, rfl, hT⟩ := hrel
    clear T2
    obtain ⟨F, t3⟩ := hT.out
    have T3 := Lib.hid t3
    clear t3 hT
    by_cases hlt : j < m
    · have hjI : (j : Int) < (m : Int) := by omega
      go_wp2_with fail
      refine (add_t T3.out (j : Int) (100 + (j : Int)) (chain_par j) (by rw [chain_len]; omega) (by omega)).mono ?_
      rintro e w4 ⟨rfl, F4, t4, _, _, _⟩
      have T4 := Lib.hid (show ∃ F, TreeT w1.heap.size w1 F g (chain (j + 1)) (((j + 1 : Nat) : Int) + 1) w4 from ⟨F4, by rw [chain_succ]; exact t4⟩)
      clear t4
      go_wp2_with fail
      go_roundw
      case rel => exact ⟨j + 1, by omega, by go_num, by go_num, T4⟩
      case measure => first | (simp [RowKit.intOf]; done) | (simp [RowKit.intOf]; omega)
    · obtain rfl : j = m := by omega
      clear hlt
      go_wp2_with fail
      refine (path_yes T3.out (j : Int) (chain_par j) (up_chain j j (Nat.le_refl _)) (by rw [upL_len]; omega)).mono ?_
      rintro e w4 ⟨v4, rfl, o4, b4⟩
      rw [upL_rev] at o4
      have hl4 : ((List.range j).map fun i : Nat => 100 + (i : Int)).length = j := by simp
      have T4 := Lib.hid (T3.out.grow b4)
      rcases o4.2 with ⟨_, h0⟩ | ⟨g4, c4, cur, rfl, -, -, -, -, -, -⟩
      · rw [hl4] at h0; omega
      have c0 := (OwnI.at o4 (k := 0) (by rw [hl4]; omega)).1
      have c1 := (OwnI.at o4 (k := j - 1) (by rw [hl4]; omega)).1
      have g0 : ((List.range j).map fun i : Nat => 100 + (i : Int))[0]'(by rw [hl4]; omega) = 100 := by simp
      have g1 : ((List.range j).map fun i : Nat => 100 + (i : Int))[j - 1]'(by rw [hl4]; omega) = 99 + (j : Int) := by simp; omega
      rw [g0] at c0
      rw [g1] at c1
      rw [hl4]
      clear o4 b4 hl4 g0 g1 T3
      obtain ⟨q, rfl⟩ : ∃ q, j = q + 1 := ⟨j - 1, by omega⟩
      rw [Nat.add_sub_cancel] at c1
      have c1' : w4.cell? ⟨g4, q, none⟩ = some (.int .i64 (99 + ((q : Int) + 1))) := by simpa using c1
      clear c1
      have hwf : WF (chain (q + 1)) := T4.out.wf
      obtain ⟨d, hd⟩ : ∃ d : Nat, q + 1 = k + d := ⟨q + 1 - k, by omega⟩
      have hdb : ((d : Int) == (q : Int) + 1 - (k : Int)) = true := by simp; omega
      have HGL := Lib.hid (show (goes (chain (q + 1)) (factIds (chain (q + 1)) (100 + (k : Int)))).length = d by
        have h1 := goes_len (chain (q + 1)) (factIds (chain (q + 1)) (100 + (k : Int)))
        rw [stay_chain hwf hkm, chain_len, chain_len] at h1
        omega)
      have HST := Lib.hid (stay_chain hwf hkm)
      clear hwf hd
      go_wp2_with fail
      refine (drop_t T4.out (by rw [chain_len]; omega) (100 + (k : Int))).mono ?_
      rintro e w5 ⟨v5, rfl, o5, t5, _⟩
      rw [HST.out] at t5
      obtain ⟨A5, c5, rfl, -, -, -⟩ := o5.row
      rw [HGL.out]
      have T5 := Lib.hid t5
      clear o5 t5 c0 c1'
      go_wp2_with fail
      refine (len_t T5.out).mono ?_
      rintro e w6 ⟨rfl, rfl⟩
      rw [chain_len]
      go_wp2_with fail
      refine (drop_t T5.out (by rw [chain_len]; omega) (100 + (k : Int))).mono ?_
      rintro e w7 ⟨v7, rfl, o7, t7, _⟩
      rw [goes_chain0 k T5.out.wf] at o7
      obtain ⟨A7, c7, rfl, -, -, -⟩ := o7.row
      have B7 := Lib.hid (E1.out.trans (t7.below.mono E1.out.size))
      clear o7 t7
      go_wp2_with fail
      go_ret
      exact ⟨by simp, B7.out⟩
end Go.Proofs.Ytonflknnlfffhaa
