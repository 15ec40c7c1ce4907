/- The names of SymbolFull, plainly. -/
import Derived.Test.YtlbmahlgbfakeaaRRGg
import Derived.Laws.BytesArg
namespace Go.Proofs.YtlbmahlgbfakeaaRR
open Go.RowKit MR KP

/-- The i-th name. -/
def nm (k : Nat) : ByteArray := { data := #[110] } ++ strOfNums [97 + (k : Int) / 676 % 26, 97 + (k : Int) / 26 % 26, 97 + (k : Int) % 26]
def nms (i : Nat) : List ByteArray := (List.range (min i 4096)).map nm

theorem lkf_none {s : ByteArray} : ∀ (l : List ByteArray) (k : Nat), s ∉ l → lk (pairsFrom k l) s = none
  | [], _, _ => rfl
  | x :: l, k, h => by
    have h1 : x ≠ s := fun e => h (e ▸ .head _)
    have := lkf_none l (k + 1) (fun h2 => h (.tail _ h2))
    simp only [lk, pairsFrom] at this ⊢
    rw [List.find?_cons_of_neg (by simp [h1])]
    exact this
theorem lk_pairs_none {l : List ByteArray} {s : ByteArray} (h : s ∉ l) : lk (pairs l) s = none := lkf_none l 0 h
theorem lkf_head (l : List ByteArray) (s : ByteArray) (k : Nat) : lk (pairsFrom k (s :: l)) s = some ((k + 1 : Nat) : Int) := by simp [lk, pairsFrom]

theorem nm_list (k : Nat) : (nm k).data.toList = [110, UInt8.ofNat (97 + k / 676 % 26), UInt8.ofNat (97 + k / 26 % 26), UInt8.ofNat (97 + k % 26)] := by
  have e1 : (97 + (k : Int) / 676 % 26).toNat = 97 + k / 676 % 26 := by omega
  have e2 : (97 + (k : Int) / 26 % 26).toNat = 97 + k / 26 % 26 := by omega
  have e3 : (97 + (k : Int) % 26).toNat = 97 + k % 26 := by omega
  show (({ data := #[110] } : ByteArray) ++ strOfNums _).data.toList = _
  rw [ByteArray.data_append]
  simp only [strOfNums, List.map_cons, List.map_nil, e1, e2, e3]
  simp
theorem byte_of {n : Nat} (h : n < 26) : (UInt8.ofNat (97 + n)).toNat = 97 + n := by
  rw [UInt8.toNat_ofNat']; omega
theorem nm_good (k : Nat) : goodB (nm k) = true := by
  have hs : (nm k).size = 4 := by
    have : (nm k).data.toList.length = 4 := by rw [nm_list]; rfl
    simpa using this
  have a := byte_of (Nat.mod_lt (k / 676) (show 0 < 26 by omega))
  have b := byte_of (Nat.mod_lt (k / 26) (show 0 < 26 by omega))
  have c := byte_of (Nat.mod_lt k (show 0 < 26 by omega))
  have ha := Nat.mod_lt (k / 676) (show 0 < 26 by omega)
  have hb := Nat.mod_lt (k / 26) (show 0 < 26 by omega)
  have hc := Nat.mod_lt k (show 0 < 26 by omega)
  unfold goodB
  rw [nm_list, hs]
  simp only [List.headD_cons, List.all_cons, List.all_nil, a, b, c]
  simp [isLetter, isPart]
  omega
theorem nm_inj {i j : Nat} (hi : i < 17576) (hj : j < 17576) (h : nm i = nm j) : i = j := by
  have h1 : (nm i).data.toList = (nm j).data.toList := by rw [h]
  rw [nm_list, nm_list] at h1
  injection h1 with _ h1
  injection h1 with h2 h1
  injection h1 with h3 h1
  injection h1 with h4 _
  have e2 := congrArg UInt8.toNat h2
  have e3 := congrArg UInt8.toNat h3
  have e4 := congrArg UInt8.toNat h4
  rw [byte_of (Nat.mod_lt _ (by omega)), byte_of (Nat.mod_lt _ (by omega))] at e2 e3 e4
  omega
theorem nm_new {k : Nat} (hk : k < 4116) : nm k ∉ nms k ∨ False := by
  left
  intro h
  obtain ⟨j, hj, e⟩ := List.mem_map.1 h
  have := List.mem_range.1 hj
  have := nm_inj (by omega) (by omega) e
  omega
theorem nms_len (k : Nat) : (nms k).length = min k 4096 := by simp [nms]
theorem step_less {k : Nat} (hk : k < 4096) : inTab (nms k) (nm k) = nms (k + 1) ∧ inNum (nms k) (nm k) = (k : Int) + 1 ∧ inErr (nms k) (nm k) = 0 := by
  have h1 := lk_pairs_none ((nm_new (k := k) (by omega)).resolve_right id)
  have h2 : (nms k).length = k := by rw [nms_len]; omega
  have h3 : ¬ 4096 ≤ (nms k).length := by omega
  unfold inTab inNum inErr
  rw [nm_good, h1]
  simp only [Bool.true_eq_false, if_false]
  rw [if_neg h3, if_neg h3, if_neg h3, h2]
  refine ⟨?_, rfl, rfl⟩
  unfold nms
  rw [show min k 4096 = k by omega, show min (k + 1) 4096 = k + 1 by omega, List.range_succ, List.map_append]
  rfl
theorem step_more {k : Nat} (hk : 4096 ≤ k) (hk2 : k < 4116) : inTab (nms k) (nm k) = nms (k + 1) ∧ inNum (nms k) (nm k) = 0 ∧ inErr (nms k) (nm k) = 10 := by
  have h1 := lk_pairs_none ((nm_new (k := k) hk2).resolve_right id)
  have h2 : (nms k).length = 4096 := by rw [nms_len]; omega
  have h3 : 4096 ≤ (nms k).length := by omega
  unfold inTab inNum inErr
  rw [nm_good, h1]
  simp only [Bool.true_eq_false, if_false]
  rw [if_pos h3, if_pos h3, if_pos h3]
  refine ⟨?_, rfl, rfl⟩
  unfold nms
  rw [show min k 4096 = 4096 by omega, show min (k + 1) 4096 = 4096 by omega]
theorem last_is : nm 0 = { data := #[110, 97, 97, 97] } := by
  have h := nm_list 0
  cases hn : nm 0 with
  | mk d =>
    rw [hn] at h
    have : d.toList = #[110, 97, 97, 97].toList := h.trans rfl
    rw [Array.toList_inj.1 this]
theorem step_last {k : Nat} (hk : 4096 ≤ k) : inTab (nms k) { data := #[110, 97, 97, 97] } = nms k ∧ inNum (nms k) { data := #[110, 97, 97, 97] } = 1 ∧ inErr (nms k) { data := #[110, 97, 97, 97] } = 0 := by
  rw [← last_is]
  have h1 : lk (pairs (nms k)) (nm 0) = some 1 := by
    unfold nms pairs
    rw [show min k 4096 = 4095 + 1 by omega, List.range_succ_eq_map, List.map_cons, lkf_head]
    rfl
  unfold inTab inNum inErr
  rw [nm_good, h1]
  exact ⟨rfl, rfl, rfl⟩
end Go.Proofs.YtlbmahlgbfakeaaRR
