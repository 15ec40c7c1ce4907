/- slices.DeleteFunc at a row of numbers, by Cut's own function. -/
import Derived.Test.YtonflknnlfffhaaFm
import Derived.Lib.Hide
import Derived.LoopTactic
import Derived.Deep.QuietTactic
import Derived.WalkSpells
import Derived.WalkLawsBesides
import Derived.Deep.RegionLaw
import Derived.Deep.RegionWith
import Derived.Deep.RegionHeld3
namespace Go.Proofs.Ytonflknnlfffhaa
open Go.RowKit Go.Lib Go.Maps Go.Sort Go.Shelf KP MR RW
theorem ret_int {x y : Int} (h : x = y) : Ending.returned (.int .i64 x) = .returned (.int .i64 y) := by rw [h]
theorem ret_bool {x y : Bool} (h : x = y) : Ending.returned (.bool x) = .returned (.bool y) := by rw [h]
theorem IntsAt.at {N : Nat → Prop} {W : World} {A : Option Addr} {l : List Int} (h : IntsAt N W A l) {k : Nat} (hk : k < l.length) : ∃ ad, A = some ad ∧ ¬ N ad.block ∧ W.cell? (ad.add k) = some (.int .i64 l[k]) := by
  obtain ⟨ad, e, hn, hc⟩ := h k hk
  refine ⟨ad, e, hn, ?_⟩
  have := hc 0 _ rfl
  rw [Nat.mul_one] at this
  simpa [Addr.add] using this
theorem cut1_yes (b : Nat) (id : Int) (W : World) (hb : W.cell? ⟨b, 0, none⟩ = some (.int .i64 id)) : Calls Try.prog 40 #[.int .i64 id, .pointer (some ⟨b, 0, none⟩)] W fun e w' => e = .returned (.bool true) ∧ W = w' := by
  go_enter Try.func40, Try.ntmps40
  go_wp2_with fail
  go_ret
  exact ⟨by simp, rfl⟩
theorem cut1_no (b : Nat) (x id : Int) (W : World) (hb : W.cell? ⟨b, 0, none⟩ = some (.int .i64 id)) (h : x ≠ id) : Calls Try.prog 40 #[.int .i64 x, .pointer (some ⟨b, 0, none⟩)] W fun e w' => e = .returned (.bool false) ∧ W = w' := by
  have e1 : (x == id) = false := by simp [h]
  clear h
  go_enter Try.func40, Try.ntmps40
  go_wp2_with fail
  go_ret
  exact ⟨rfl, rfl⟩
set_option maxHeartbeats 1000000 in
theorem index_c (A : Option Addr) (c b : Nat) (id : Int) (pre post : List Int) (W : World) (hI : IntsAt (fun _ => False) W A (pre ++ id :: post)) (hp : id ∉ pre) (hl : (pre ++ id :: post).length ≤ 1000000) (hb : W.cell? ⟨b, 0, none⟩ = some (.int .i64 id)) :
    Calls Try.prog 57 #[.slice A (pre ++ id :: post).length c, .func (.func 40) #[] #[.pointer (some ⟨b, 0, none⟩)]] W fun e w' => e = .returned (.int .i64 pre.length) ∧ W = w' := by
  have HI := Lib.hid hI
  have HP := Lib.hid hp
  have hll : pre.length < (pre ++ id :: post).length := by simp
  have hlast := Lib.hid (show (pre ++ id :: post)[pre.length] = id by simp)
  have hearly := Lib.hid (show ∀ k (h : k < (pre ++ id :: post).length), k < pre.length → (pre ++ id :: post)[k] ≠ id by
    intro k h hk e
    rw [List.getElem_append_left hk] at e
    exact hp (e ▸ List.getElem_mem hk))
  generalize hL : pre ++ id :: post = L at *
  have hlI : (L.length : Int) ≤ 1000000 := by omega
  clear hI hp hL
  go_enter Try.func57, Try.ntmps57
  go_wp2_with fail
  go_loopw [8] (fun i wr => ∃ k : Nat, k ≤ pre.length ∧ i = .int .i64 k ∧ Hid (W = wr)) (fun i _ => L.length - (RowKit.intOf i).toNat)
  case atStart => exact ⟨0, by omega, rfl, Lib.hid rfl⟩
  case round =>
    obtain ⟨k, hk, rfl, hW⟩ := hrel
    obtain rfl := hW.out
    have hlt : k < L.length := by omega
    have hkI : (k : Int) < (L.length : Int) := by omega
    obtain ⟨ad, rfl, _, c0⟩ := HI.out.at hlt
    by_cases he : k = pre.length
    · subst he
      rw [hlast.out] at c0
      have HC := Lib.hid (cut1_yes b id W hb)
      go_wp2_with fail
      refine HC.out.mono ?_
      rintro e w1 ⟨rfl, rfl⟩
      go_wp2_with fail
      go_ret
      exact ⟨rfl, rfl⟩
    · have hne := hearly.out k hlt (by omega)
      generalize L[k] = x at *
      have HC := Lib.hid (cut1_no b x id W hb hne)
      clear hne
      go_wp2_with fail
      refine HC.out.mono ?_
      rintro e w1 ⟨rfl, rfl⟩
      go_wp2_with fail
      go_roundw
      case rel => exact ⟨k + 1, by omega, by go_num, Lib.hid trivial⟩
      case measure => first | (simp [RowKit.intOf]; done) | (simp [RowKit.intOf]; omega)
end Go.Proofs.Ytonflknnlfffhaa
