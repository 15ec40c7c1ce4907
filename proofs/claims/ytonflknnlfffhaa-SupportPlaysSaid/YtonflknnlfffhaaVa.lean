/- SupportPlays: any acts. -/
import Derived.Test.YtonflknnlfffhaaUz
namespace Go.Proofs.Ytonflknnlfffhaa
open Go.RowKit Go.Lib KP MR RW
set_option maxRecDepth 100000 in
set_option maxHeartbeats 4000000 in
theorem supportPlays_any (A : Option Addr) (c : Nat) (l : List Af) (w : World) (hT : ActsIn w A l) : Calls Try.prog 6 #[.slice A l.length c] w fun e w' => e = .returned (.bool true) ∧ Below w.heap.size w w' := by
  by_cases hl : l.length ≤ 80
  · exact plays_good A c l w hT hl
  · have hlI : (80 : Int) < (l.length : Int) := by omega
    clear hT hl
    go_enter Try.func6, Try.ntmps6
    go_wp2_with fail
    refine (known_c w).mono ?_
    rintro e w1 ⟨rfl, b1⟩
    have E1 := Lib.hid b1; clear b1
    go_wp2_with fail
    go_ret
    exact ⟨rfl, E1.out⟩
end Go.Proofs.Ytonflknnlfffhaa
