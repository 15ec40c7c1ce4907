/-
  No cell of these rows narrows 'for every input' (looked for: loops, veiled, ifaces, maps, wideKeys, modest, calm, conditions, laid).
  DERIVED. THE GIVEN ROWS OF THIS SEAT. 7 by the template 'for every input the law returns true; each argument reads behind the call as it read before'; 0 by the template 'total and deterministic' (their statements: YtbogjhgnnmgiaaaTotals.lean).
  GIVEN WITH THE SEED: the statements are not yours to turn. If you find one false, say at which input.
  Laid BY PROGRAM, IN A SANDBOX (cutbox-rows.mjs): the forced cells as the released guide's own fill.sh prints them over the translation 35fdf576089d4e22… (all of the seat's roots in one cut). By AI agents, Wed Nov 11 2026. No macro, syntax, notation, axiom, sorry.
-/
import Derived.Test.YtbogjhgnnmgiaaaChecked
import GoSem.Claim
import GoSem.ClaimJoined
import GoSem.ClaimMapViews
import Derived.JoinedTies
import Derived.KernelRfl
namespace Go.Proofs.Ytbogjhgnnmgiaaa
/- THE CELL 'sum', in the pinned program and in every row, IS THE sha256 OF THE DUMP (.gsa) THAT YtbogjhgnnmgiaaaProg.lean LOADS. Nothing in Lean hashes anything: it is a label: what it is worth is what the hold of that sum in a sandbox is worth. -/
noncomputable def Try.pinned : Pinned := { name := "ytbogjhgnnmgiaaa", sum := "35fdf576089d4e229b8c945ef877d58a0731b195bfda46de769abfb01d88c087", checked := Try.checked }
namespace Rows
def none {H : Type} : Left H := { results := [], args := [] }

/-- 'whelklaw21.StratTwo': WHATEVER THE INPUT: true; the input reads as it did. -/
def stratTwoSpec : ChangeSpec := { name := "stratTwo", fn := fun _ => fun
  | [d1, d2, d3] => { results := [.lit (.bool true)], args := [d1, d2, d3] }
  | _ => none }
def stratTwoRow : OpenClaim := { program := "ytbogjhgnnmgiaaa", sum := "35fdf576089d4e229b8c945ef877d58a0731b195bfda46de769abfb01d88c087", func := "whelk/whelklaw21.StratTwo", spec := "stratTwo", unfollowed := true, recurses := true, apart := false }
def StratTwoSaid : Prop := stratTwoRow.holds Try.pinned (OpenSpec.ofChange stratTwoSpec)

/-- ITS FALSE NEIGHBOUR: 'it returns false'. Refute it at one input. -/
def stratTwoWrong : ChangeSpec := { name := "stratTwo", fn := fun _ => fun
  | [d1, d2, d3] => { results := [.lit (.bool false)], args := [d1, d2, d3] }
  | _ => none }
def StratTwoWrongFalsely : Prop := stratTwoRow.holds Try.pinned (OpenSpec.ofChange stratTwoWrong)

/-- 'whelklaw21.StratThree': WHATEVER THE INPUT: true; the input reads as it did. -/
def stratThreeSpec : ChangeSpec := { name := "stratThree", fn := fun _ => fun
  | [d1, d2, d3, d4] => { results := [.lit (.bool true)], args := [d1, d2, d3, d4] }
  | _ => none }
def stratThreeRow : OpenClaim := { program := "ytbogjhgnnmgiaaa", sum := "35fdf576089d4e229b8c945ef877d58a0731b195bfda46de769abfb01d88c087", func := "whelk/whelklaw21.StratThree", spec := "stratThree", unfollowed := true, recurses := true, apart := false }
def StratThreeSaid : Prop := stratThreeRow.holds Try.pinned (OpenSpec.ofChange stratThreeSpec)

/-- ITS FALSE NEIGHBOUR: 'it returns false'. Refute it at one input. -/
def stratThreeWrong : ChangeSpec := { name := "stratThree", fn := fun _ => fun
  | [d1, d2, d3, d4] => { results := [.lit (.bool false)], args := [d1, d2, d3, d4] }
  | _ => none }
def StratThreeWrongFalsely : Prop := stratThreeRow.holds Try.pinned (OpenSpec.ofChange stratThreeWrong)

/-- 'whelklaw21.StratSalience': WHATEVER THE INPUT: true; the input reads as it did. -/
def stratSalienceSpec : ChangeSpec := { name := "stratSalience", fn := fun _ => fun
  | [d1, d2, d3] => { results := [.lit (.bool true)], args := [d1, d2, d3] }
  | _ => none }
def stratSalienceRow : OpenClaim := { program := "ytbogjhgnnmgiaaa", sum := "35fdf576089d4e229b8c945ef877d58a0731b195bfda46de769abfb01d88c087", func := "whelk/whelklaw21.StratSalience", spec := "stratSalience", unfollowed := true, recurses := true, apart := false }
def StratSalienceSaid : Prop := stratSalienceRow.holds Try.pinned (OpenSpec.ofChange stratSalienceSpec)

/-- ITS FALSE NEIGHBOUR: 'it returns false'. Refute it at one input. -/
def stratSalienceWrong : ChangeSpec := { name := "stratSalience", fn := fun _ => fun
  | [d1, d2, d3] => { results := [.lit (.bool false)], args := [d1, d2, d3] }
  | _ => none }
def StratSalienceWrongFalsely : Prop := stratSalienceRow.holds Try.pinned (OpenSpec.ofChange stratSalienceWrong)

/-- 'whelklaw21.StratNames': WHATEVER THE INPUT: true; the input reads as it did. -/
def stratNamesSpec : ChangeSpec := { name := "stratNames", fn := fun _ => fun
  | [d1, d2] => { results := [.lit (.bool true)], args := [d1, d2] }
  | _ => none }
def stratNamesRow : OpenClaim := { program := "ytbogjhgnnmgiaaa", sum := "35fdf576089d4e229b8c945ef877d58a0731b195bfda46de769abfb01d88c087", func := "whelk/whelklaw21.StratNames", spec := "stratNames", unfollowed := true, recurses := true, apart := false }
def StratNamesSaid : Prop := stratNamesRow.holds Try.pinned (OpenSpec.ofChange stratNamesSpec)

/-- ITS FALSE NEIGHBOUR: 'it returns false'. Refute it at one input. -/
def stratNamesWrong : ChangeSpec := { name := "stratNames", fn := fun _ => fun
  | [d1, d2] => { results := [.lit (.bool false)], args := [d1, d2] }
  | _ => none }
def StratNamesWrongFalsely : Prop := stratNamesRow.holds Try.pinned (OpenSpec.ofChange stratNamesWrong)

/-- 'whelklaw21.StratFalls': WHATEVER THE INPUT: true; the input reads as it did. -/
def stratFallsSpec : ChangeSpec := { name := "stratFalls", fn := fun _ => fun
  | [d] => { results := [.lit (.bool true)], args := [d] }
  | _ => none }
def stratFallsRow : OpenClaim := { program := "ytbogjhgnnmgiaaa", sum := "35fdf576089d4e229b8c945ef877d58a0731b195bfda46de769abfb01d88c087", func := "whelk/whelklaw21.StratFalls", spec := "stratFalls", unfollowed := true, recurses := true, apart := false }
def StratFallsSaid : Prop := stratFallsRow.holds Try.pinned (OpenSpec.ofChange stratFallsSpec)

/-- ITS FALSE NEIGHBOUR: 'it returns false'. Refute it at one input. -/
def stratFallsWrong : ChangeSpec := { name := "stratFalls", fn := fun _ => fun
  | [d] => { results := [.lit (.bool false)], args := [d] }
  | _ => none }
def StratFallsWrongFalsely : Prop := stratFallsRow.holds Try.pinned (OpenSpec.ofChange stratFallsWrong)

/-- 'whelklaw21.StratBorn': WHATEVER THE INPUT: true; the input reads as it did. -/
def stratBornSpec : ChangeSpec := { name := "stratBorn", fn := fun _ => fun
  | [d1, d2, d3] => { results := [.lit (.bool true)], args := [d1, d2, d3] }
  | _ => none }
def stratBornRow : OpenClaim := { program := "ytbogjhgnnmgiaaa", sum := "35fdf576089d4e229b8c945ef877d58a0731b195bfda46de769abfb01d88c087", func := "whelk/whelklaw21.StratBorn", spec := "stratBorn", unfollowed := true, recurses := true, apart := false }
def StratBornSaid : Prop := stratBornRow.holds Try.pinned (OpenSpec.ofChange stratBornSpec)

/-- ITS FALSE NEIGHBOUR: 'it returns false'. Refute it at one input. -/
def stratBornWrong : ChangeSpec := { name := "stratBorn", fn := fun _ => fun
  | [d1, d2, d3] => { results := [.lit (.bool false)], args := [d1, d2, d3] }
  | _ => none }
def StratBornWrongFalsely : Prop := stratBornRow.holds Try.pinned (OpenSpec.ofChange stratBornWrong)

/-- 'whelklaw21.StratRecent': WHATEVER THE INPUT: true; the input reads as it did. -/
def stratRecentSpec : ChangeSpec := { name := "stratRecent", fn := fun _ => fun
  | [d1, d2] => { results := [.lit (.bool true)], args := [d1, d2] }
  | _ => none }
def stratRecentRow : OpenClaim := { program := "ytbogjhgnnmgiaaa", sum := "35fdf576089d4e229b8c945ef877d58a0731b195bfda46de769abfb01d88c087", func := "whelk/whelklaw21.StratRecent", spec := "stratRecent", unfollowed := true, recurses := true, apart := false }
def StratRecentSaid : Prop := stratRecentRow.holds Try.pinned (OpenSpec.ofChange stratRecentSpec)

/-- ITS FALSE NEIGHBOUR: 'it returns false'. Refute it at one input. -/
def stratRecentWrong : ChangeSpec := { name := "stratRecent", fn := fun _ => fun
  | [d1, d2] => { results := [.lit (.bool false)], args := [d1, d2] }
  | _ => none }
def StratRecentWrongFalsely : Prop := stratRecentRow.holds Try.pinned (OpenSpec.ofChange stratRecentWrong)

/- THE SECOND FORM. 'bulk': how many values and letters a reading holds, each counted each time it is reached (what is shared counts as often as it is met; a slice's spare places count too). A statement '..UptoSaid' is the law's where the arguments, and the package variables that the reading takes, are together of bulk at most 1048576: NARROWER than '..Said'. Prove '..Said' where nothing that the law and all that it calls make is longer than what came in: it says more and counts as full. Else prove '..UptoSaid'. A law counts once. -/
mutual
def uptoBulk {H : Type} : DataW H → Nat
  | .lit (.string bytes) => bytes.length + 1
  | .lit _ => 1
  | .nil => 1
  | .ptr d => uptoBulk d + 1
  | .slice elems spare => uptoBulkAll elems + uptoBulkAll spare + 1
  | .agg parts => uptoBulkAll parts + 1
  | .iface _ d => uptoBulk d + 1
  | .map entries => uptoBulkEntries entries + 1
  | .held _ => 1
def uptoBulkAll {H : Type} : List (DataW H) → Nat
  | [] => 0
  | d :: r => uptoBulk d + uptoBulkAll r
def uptoBulkEntries {H : Type} : List (Lit × DataW H) → Nat
  | [] => 0
  | x :: r => uptoBulkEntry x + uptoBulkEntries r
def uptoBulkEntry {H : Type} : Lit × DataW H → Nat
  | (.string bytes, d) => bytes.length + uptoBulk d + 1
  | (_, d) => uptoBulk d + 1
 end
def uptoSmall : (H : Type) → List (DataW H) → Bool := fun _ ds => decide (uptoBulkAll ds ≤ 1048576)
def OpenSpec.upto (s : _root_.Go.ChangeSpec) : _root_.Go.OpenSpec := { _root_.Go.OpenSpec.ofChange s with cond := some uptoSmall }

/-- 'whelklaw21.StratTwo', WHERE WHAT IT READS IS OF BULK AT MOST 1048576: true; the input reads as it did. -/
def stratTwoUptoRow : OpenClaim := { program := "ytbogjhgnnmgiaaa", sum := "35fdf576089d4e229b8c945ef877d58a0731b195bfda46de769abfb01d88c087", func := "whelk/whelklaw21.StratTwo", spec := "stratTwo", unfollowed := true, recurses := true, apart := false, narrowed := true }
def StratTwoUptoSaid : Prop := stratTwoUptoRow.holds Try.pinned (OpenSpec.upto stratTwoSpec)

/-- 'whelklaw21.StratThree', WHERE WHAT IT READS IS OF BULK AT MOST 1048576: true; the input reads as it did. -/
def stratThreeUptoRow : OpenClaim := { program := "ytbogjhgnnmgiaaa", sum := "35fdf576089d4e229b8c945ef877d58a0731b195bfda46de769abfb01d88c087", func := "whelk/whelklaw21.StratThree", spec := "stratThree", unfollowed := true, recurses := true, apart := false, narrowed := true }
def StratThreeUptoSaid : Prop := stratThreeUptoRow.holds Try.pinned (OpenSpec.upto stratThreeSpec)

/-- 'whelklaw21.StratSalience', WHERE WHAT IT READS IS OF BULK AT MOST 1048576: true; the input reads as it did. -/
def stratSalienceUptoRow : OpenClaim := { program := "ytbogjhgnnmgiaaa", sum := "35fdf576089d4e229b8c945ef877d58a0731b195bfda46de769abfb01d88c087", func := "whelk/whelklaw21.StratSalience", spec := "stratSalience", unfollowed := true, recurses := true, apart := false, narrowed := true }
def StratSalienceUptoSaid : Prop := stratSalienceUptoRow.holds Try.pinned (OpenSpec.upto stratSalienceSpec)

/-- 'whelklaw21.StratNames', WHERE WHAT IT READS IS OF BULK AT MOST 1048576: true; the input reads as it did. -/
def stratNamesUptoRow : OpenClaim := { program := "ytbogjhgnnmgiaaa", sum := "35fdf576089d4e229b8c945ef877d58a0731b195bfda46de769abfb01d88c087", func := "whelk/whelklaw21.StratNames", spec := "stratNames", unfollowed := true, recurses := true, apart := false, narrowed := true }
def StratNamesUptoSaid : Prop := stratNamesUptoRow.holds Try.pinned (OpenSpec.upto stratNamesSpec)

/-- 'whelklaw21.StratFalls', WHERE WHAT IT READS IS OF BULK AT MOST 1048576: true; the input reads as it did. -/
def stratFallsUptoRow : OpenClaim := { program := "ytbogjhgnnmgiaaa", sum := "35fdf576089d4e229b8c945ef877d58a0731b195bfda46de769abfb01d88c087", func := "whelk/whelklaw21.StratFalls", spec := "stratFalls", unfollowed := true, recurses := true, apart := false, narrowed := true }
def StratFallsUptoSaid : Prop := stratFallsUptoRow.holds Try.pinned (OpenSpec.upto stratFallsSpec)

/-- 'whelklaw21.StratBorn', WHERE WHAT IT READS IS OF BULK AT MOST 1048576: true; the input reads as it did. -/
def stratBornUptoRow : OpenClaim := { program := "ytbogjhgnnmgiaaa", sum := "35fdf576089d4e229b8c945ef877d58a0731b195bfda46de769abfb01d88c087", func := "whelk/whelklaw21.StratBorn", spec := "stratBorn", unfollowed := true, recurses := true, apart := false, narrowed := true }
def StratBornUptoSaid : Prop := stratBornUptoRow.holds Try.pinned (OpenSpec.upto stratBornSpec)

/-- 'whelklaw21.StratRecent', WHERE WHAT IT READS IS OF BULK AT MOST 1048576: true; the input reads as it did. -/
def stratRecentUptoRow : OpenClaim := { program := "ytbogjhgnnmgiaaa", sum := "35fdf576089d4e229b8c945ef877d58a0731b195bfda46de769abfb01d88c087", func := "whelk/whelklaw21.StratRecent", spec := "stratRecent", unfollowed := true, recurses := true, apart := false, narrowed := true }
def StratRecentUptoSaid : Prop := stratRecentUptoRow.holds Try.pinned (OpenSpec.upto stratRecentSpec)

end Rows
end Go.Proofs.Ytbogjhgnnmgiaaa
