/- slices.Sorted(maps.Keys(m)) at maps from numbers: the numbers, rising. -/
import Derived.Test.YtonflknnlfffhaaFk
import Derived.Test.YtonflknnlfffhaaMi
import Derived.Test.YtonflknnlfffhaaOw
namespace Go.Proofs.Ytonflknnlfffhaa
open Go.RowKit Go.Lib Go.Maps Go.Sort Go.Shelf KP MR RW
/-- The rising order. -/
abbrev rise (l : List Int) : List Int := l.mergeSort fun x y => decide (x ≤ y)
section
variable {V : Type} {eV : V → Value} {m : Nat} {N : List (Int × V)} {w : World}
theorem owns_keys {P : Program} {k : TypeId} (hk : P.underlying k = some (.int .i64)) (h : IsMap w m (Value.int .i64) eV N) (hwf : ∀ p ∈ N, (Lit.int .i64 p.1).wf = true) (hl : N.length ≤ maxLen) :
    ∃ D : DataW Unit, w.ownsMap P k (fun _ => some (.nil, [])) m N.length D ∧ (intKeys D).Perm (N.map (·.1)) ∧ Maps.size D = N.length := by
  obtain ⟨es, clock, hb, hs, he⟩ := h
  have hlen : es.size = N.length := by have := congrArg List.length he; simpa using this
  have hrd : ∀ x ∈ es.toList, ∃ z : Int, x.key = .int .i64 z ∧ (Lit.int .i64 z).wf = true := by
    intro x hx
    have : (x.key, x.val) ∈ es.toList.map (fun e => (e.key, e.val)) := List.mem_map.2 ⟨x, hx, rfl⟩
    rw [he] at this
    obtain ⟨p, hp, e⟩ := List.mem_map.1 this
    injection e with e1 e2
    exact ⟨p.1, e1.symm, hwf p hp⟩
  have hrd2 : ∀ x ∈ es.toList, WideElems.rd (H := Unit) P k (fun _ => some (.nil, [])) x = some (.int .i64 (match x.key with | .int _ z => z | _ => 0), .nil) := by
    intro x hx
    obtain ⟨z, hz, hw⟩ := hrd x hx
    unfold WideElems.rd
    rw [hz, keyOf_int_mk hk hw]
    rfl
  refine ⟨_, ⟨es, clock, hb, ⟨by omega, hs, fun x hx => ⟨_, hrd2 x hx⟩⟩, by omega, rfl⟩, ?_, ?_⟩
  · change (((es.toList.map (WideElems.rg (H := Unit) P k fun _ => some (.nil, []))).foldr DataW.insert []).map fun p : Lit × DataW Unit => Go.intOf p.1).Perm _
    refine ((WideShapes.sorted_perm _).map _).trans ?_
    rw [List.map_map]
    have e2 : es.toList.map ((fun p : Lit × DataW Unit => Go.intOf p.1) ∘ WideElems.rg P k fun _ => some (.nil, [])) = (es.toList.map (fun e => (e.key, e.val))).map (fun q : Value × Value => match q.1 with | .int _ z => z | _ => 0) := by
      rw [List.map_map]
      refine List.map_congr_left (fun x hx => ?_)
      simp only [Function.comp_apply]
      rw [WideElems.rg_of (hrd2 x hx)]
      rfl
    rw [e2, he, List.map_map]
    exact List.Perm.refl _
  · change ((es.toList.map (WideElems.rg (H := Unit) P k fun _ => some (.nil, []))).foldr DataW.insert []).length = _
    rw [(WideShapes.sorted_perm _).length_eq, List.length_map, Array.length_toList, hlen]
theorem sorts (m : Nat) : AnyZI.SortsIn Try.prog sortedL_ren Fence.wide m :=
  ⟨fun blk off cap ss W hH hblk hsz => callsIn_wide.2 (AnyM.slices_Sort_int laysSlM5_f36 blk off cap ss W hH hblk hsz),
   fun p cap W => callsIn_wide.2 (AnyM.slices_Sort_int_none laysSlM5_f36 p cap W)⟩
end
section
variable {V : Type} {eV : V → Value} {m : Nat} {N : List (Int × V)} {w : World}
theorem keysNode_c (mb : Option Nat) (w : World) : Calls Try.prog 35 #[.map mb] w fun e w' => e = .returned (.func (.func 54) #[] #[.pointer (some ⟨w.heap.size, 0, none⟩)]) ∧ w' = w.alloc (.cells #[.map mb] 75) :=
  (callsIn_wide (n := 5)).1 (AnyZI.keys_in keysL Fence.wide 5 trivial rfl mb w)
set_option maxHeartbeats 1000000 in
theorem sortedNode_c (h : IsMap w m (Value.int .i64) eV N) (hwf : ∀ p ∈ N, (Lit.int .i64 p.1).wf = true) (hl : N.length ≤ 1000000) :
    Calls Try.prog 34 #[.func (.func 54) #[] #[.pointer (some ⟨w.heap.size, 0, none⟩)]] (w.alloc (.cells #[.map (some m)] 75)) fun e w' => ∃ v, e = .returned v ∧ w'.ownsRow w.heap.size 3 1 v (rise (N.map (·.1))).length ((rise (N.map (·.1))).map encZ) ∧ Below w.heap.size w w' := by
  obtain ⟨D, hown, hperm, hsz⟩ := owns_keys (P := Try.prog) Try.underlying3 h hwf (by unfold maxLen; omega)
  have hbl := hown.lt
  have hseq : SeqGives Fence.wide 2 Try.prog 54 #[.pointer (some ⟨w.heap.size, 0, none⟩)] encZ (fun ss => ss.Perm (intKeys D)) (Maps.size D) (w.alloc (.cells #[.map (some m)] 75)) :=
    AnyZI.keys_gives (ρ := keysL_ren) { keysL with } Fence.wide _ trivial rfl (by omega) w.heap.size m N.length D _ (by simp) (by simp) (by
      obtain ⟨es, clock, hb, Ft, hs, hD⟩ := hown
      exact ⟨es, clock, (Below.heap_alloc _ _ m hbl).trans hb, Ft, hs, hD⟩)
  have cS := AnyZI.sorted_in sortedL Fence.wide 5 trivial trivial trivial trivial rfl (by omega) (sorts _) (enters_of Try.func36 (by kernel_rfl) rfl) 54 #[.pointer (some ⟨w.heap.size, 0, none⟩)] trivial (enters_of Try.func54 (by kernel_rfl) rfl) _ _ (by rw [hsz]; unfold maxLen; omega) (by rw [hsz]; omega) _ hseq
  change CallsIn _ _ Try.prog 34 _ _ _ at cS
  refine ((callsIn_wide (n := 5)).1 cS).mono ?_
  rintro e w' ⟨v, ss, rfl, hS, hrow, _, hb⟩
  have e3 : ss.mergeSort (fun x y => decide (x ≤ y)) = rise (N.map (·.1)) := mergeSort_of_perm_i (hS.trans hperm)
  have e4 : ss.length = (rise (N.map (·.1))).length := by rw [← e3, List.length_mergeSort]
  rw [e3, e4] at hrow
  exact ⟨v, rfl, ownsRow_base_a hrow (by simp), ((Below.refl _ w).alloc (Nat.le_refl _) _).trans (hb.mono (by simp))⟩
end
section
variable {V : Type} {eV : V → Value} {m : Nat} {N : List (Int × V)} {w : World}
theorem keysRow_c (mb : Option Nat) (w : World) : Calls Try.prog 51 #[.map mb] w fun e w' => e = .returned (.func (.func 63) #[] #[.pointer (some ⟨w.heap.size, 0, none⟩)]) ∧ w' = w.alloc (.cells #[.map mb] 85) :=
  (callsIn_wide (n := 5)).1 (AnyZI.keys_in keysT Fence.wide 5 trivial rfl mb w)
set_option maxHeartbeats 1000000 in
theorem sortedRow_c (h : IsMap w m (Value.int .i64) eV N) (hwf : ∀ p ∈ N, (Lit.int .i64 p.1).wf = true) (hl : N.length ≤ 1000000) :
    Calls Try.prog 34 #[.func (.func 63) #[] #[.pointer (some ⟨w.heap.size, 0, none⟩)]] (w.alloc (.cells #[.map (some m)] 85)) fun e w' => ∃ v, e = .returned v ∧ w'.ownsRow w.heap.size 3 1 v (rise (N.map (·.1))).length ((rise (N.map (·.1))).map encZ) ∧ Below w.heap.size w w' := by
  obtain ⟨D, hown, hperm, hsz⟩ := owns_keys (P := Try.prog) Try.underlying3 h hwf (by unfold maxLen; omega)
  have hbl := hown.lt
  have hseq : SeqGives Fence.wide 2 Try.prog 63 #[.pointer (some ⟨w.heap.size, 0, none⟩)] encZ (fun ss => ss.Perm (intKeys D)) (Maps.size D) (w.alloc (.cells #[.map (some m)] 85)) :=
    AnyZI.keys_gives (ρ := keysT_ren) { keysT with } Fence.wide _ trivial rfl (by omega) w.heap.size m N.length D _ (by simp) (by simp) (by
      obtain ⟨es, clock, hb, Ft, hs, hD⟩ := hown
      exact ⟨es, clock, (Below.heap_alloc _ _ m hbl).trans hb, Ft, hs, hD⟩)
  have cS := AnyZI.sorted_in sortedL Fence.wide 5 trivial trivial trivial trivial rfl (by omega) (sorts _) (enters_of Try.func36 (by kernel_rfl) rfl) 63 #[.pointer (some ⟨w.heap.size, 0, none⟩)] trivial (enters_of Try.func63 (by kernel_rfl) rfl) _ _ (by rw [hsz]; unfold maxLen; omega) (by rw [hsz]; omega) _ hseq
  change CallsIn _ _ Try.prog 34 _ _ _ at cS
  refine ((callsIn_wide (n := 5)).1 cS).mono ?_
  rintro e w' ⟨v, ss, rfl, hS, hrow, _, hb⟩
  have e3 : ss.mergeSort (fun x y => decide (x ≤ y)) = rise (N.map (·.1)) := mergeSort_of_perm_i (hS.trans hperm)
  have e4 : ss.length = (rise (N.map (·.1))).length := by rw [← e3, List.length_mergeSort]
  rw [e3, e4] at hrow
  exact ⟨v, rfl, ownsRow_base_a hrow (by simp), ((Below.refl _ w).alloc (Nat.le_refl _) _).trans (hb.mono (by simp))⟩
end
end Go.Proofs.Ytonflknnlfffhaa
