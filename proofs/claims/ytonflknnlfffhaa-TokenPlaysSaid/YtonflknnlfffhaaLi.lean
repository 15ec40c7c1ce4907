/- TokenPlays: any acts. -/
import Derived.Test.YtonflknnlfffhaaLg
namespace Go.Proofs.Ytonflknnlfffhaa
open Go.RowKit Go.Lib KP MR RW
set_option maxRecDepth 100000 in
set_option maxHeartbeats 4000000 in
theorem tokenPlays_any (A : Option Addr) (c : Nat) (l : List Tk) (w : World) (hT : ToksAt (fun _ => False) w A l) : Calls Try.prog 3 #[.slice A l.length c] w fun e w' => e = .returned (.bool true) ∧ Below w.heap.size w w' := by
  by_cases hl : l.length ≤ 80
  · exact tokenPlays_good A c l w hT hl
  · have hlI : (80 : Int) < (l.length : Int) := by omega
    clear hT hl
    go_enter Try.func3, Try.ntmps3
    go_wp2_with fail
    refine (known_c w).mono ?_
    rintro e w1 ⟨rfl, b1⟩
    have E1 := Lib.hid b1; clear b1
    go_wp2_with fail
    go_ret
    exact ⟨rfl, E1.out⟩
end Go.Proofs.Ytonflknnlfffhaa
