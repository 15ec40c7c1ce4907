/- MemoryPlays: any acts. -/
import Derived.Test.YtoaepnidlddmjaaDoorWv
namespace Go.Proofs.YtoaepnidlddmjaaDoor
open Go.RowKit Go.Lib KP MR RW
set_option maxRecDepth 100000 in
set_option maxHeartbeats 4000000 in
theorem plays_long (A : Option Addr) (c : Nat) (l : List Ax) (w : World) (ht : Tab w) (hl : 100 < l.length) : Calls Tryd.prog 6 #[.slice A l.length c] w fun e w' => e = .returned (.bool true) ∧ Below w.heap.size w w' := by
  have hlI : (100 : Int) < (l.length : Int) := by omega
  have HT := Lib.hid ht
  clear ht hl
  go_enter Tryd.func6, Tryd.ntmps6
  go_wp2_with fail
  refine (known_c w HT.out).mono ?_
  rintro e w1 ⟨rfl, b1⟩
  have E1 := Lib.hid b1; clear b1
  go_wp2_with fail
  go_ret
  exact ⟨rfl, E1.out⟩
theorem memoryPlays_any (A : Option Addr) (c : Nat) (l : List Ax) (w : World) (ht : Tab w) (hr : RowsAt axc 4 (fun _ => False) w A l) (hx : ∀ x ∈ l, AxIn w x) : Calls Tryd.prog 6 #[.slice A l.length c] w fun e w' => e = .returned (.bool true) ∧ Below w.heap.size w w' := by
  by_cases hl : l.length ≤ 100
  · exact plays_good A c l w ht hr hx hl
  · exact plays_long A c l w ht (by omega)
end Go.Proofs.YtoaepnidlddmjaaDoor
