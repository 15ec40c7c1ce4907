/-
  No cell of these rows narrows 'for every input' (looked for: loops, veiled, ifaces, maps, wideKeys, modest, calm, conditions, laid).
  DERIVED. THE GIVEN ROWS OF THIS SEAT. 4 by the template 'for every input the law returns true; each argument reads behind the call as it read before'; 0 by the template 'total and deterministic' (their statements: YtonflknnlfffhaaTotals.lean).
  GIVEN WITH THE SEED: the statements are not yours to turn. If you find one false, say at which input.
  Laid BY PROGRAM, IN A SANDBOX (cutbox-rows.mjs): the forced cells as the released guide's own fill.sh prints them over the translation d8b675b4bbe139f1… (all of the seat's roots in one cut). By AI agents, Wed Nov 11 2026. No macro, syntax, notation, axiom, sorry.
-/
import Derived.Test.YtonflknnlfffhaaChecked
import GoSem.Claim
import GoSem.ClaimJoined
import GoSem.ClaimMapViews
import Derived.JoinedTies
import Derived.KernelRfl
namespace Go.Proofs.Ytonflknnlfffhaa
/- THE CELL 'sum', in the pinned program and in every row, IS THE sha256 OF THE DUMP (.gsa) THAT YtonflknnlfffhaaProg.lean LOADS. Nothing in Lean hashes anything: it is a label: what it is worth is what the hold of that sum in a sandbox is worth. -/
noncomputable def Try.pinned : Pinned := { name := "ytonflknnlfffhaa", sum := "d8b675b4bbe139f165dfd077bb85bf3e0fe3f201145f0c7b8d9199349224c183", checked := Try.checked }
namespace Rows
def none {H : Type} : Left H := { results := [], args := [] }

/-- 'whelklaw17.TokenPlays': WHATEVER THE INPUT: true; the input reads as it did. -/
def tokenPlaysSpec : ChangeSpec := { name := "tokenPlays", fn := fun _ => fun
  | [d] => { results := [.lit (.bool true)], args := [d] }
  | _ => none }
def tokenPlaysRow : OpenClaim := { program := "ytonflknnlfffhaa", sum := "d8b675b4bbe139f165dfd077bb85bf3e0fe3f201145f0c7b8d9199349224c183", func := "whelk/whelklaw17.TokenPlays", spec := "tokenPlays", unfollowed := true, recurses := true, apart := false }
def TokenPlaysSaid : Prop := tokenPlaysRow.holds Try.pinned (OpenSpec.ofChange tokenPlaysSpec)

/-- ITS FALSE NEIGHBOUR: 'it returns false'. Refute it at one input. -/
def tokenPlaysWrong : ChangeSpec := { name := "tokenPlays", fn := fun _ => fun
  | [d] => { results := [.lit (.bool false)], args := [d] }
  | _ => none }
def TokenPlaysWrongFalsely : Prop := tokenPlaysRow.holds Try.pinned (OpenSpec.ofChange tokenPlaysWrong)

/-- 'whelklaw17.TokenChains': WHATEVER THE INPUT: true; the input reads as it did. -/
def tokenChainsSpec : ChangeSpec := { name := "tokenChains", fn := fun _ => fun
  | [d1, d2] => { results := [.lit (.bool true)], args := [d1, d2] }
  | _ => none }
def tokenChainsRow : OpenClaim := { program := "ytonflknnlfffhaa", sum := "d8b675b4bbe139f165dfd077bb85bf3e0fe3f201145f0c7b8d9199349224c183", func := "whelk/whelklaw17.TokenChains", spec := "tokenChains", unfollowed := true, recurses := true, apart := false }
def TokenChainsSaid : Prop := tokenChainsRow.holds Try.pinned (OpenSpec.ofChange tokenChainsSpec)

/-- ITS FALSE NEIGHBOUR: 'it returns false'. Refute it at one input. -/
def tokenChainsWrong : ChangeSpec := { name := "tokenChains", fn := fun _ => fun
  | [d1, d2] => { results := [.lit (.bool false)], args := [d1, d2] }
  | _ => none }
def TokenChainsWrongFalsely : Prop := tokenChainsRow.holds Try.pinned (OpenSpec.ofChange tokenChainsWrong)

/-- 'whelklaw23.SupportOrder': WHATEVER THE INPUT: true; the input reads as it did. -/
def supportOrderSpec : ChangeSpec := { name := "supportOrder", fn := fun _ => fun
  | [d] => { results := [.lit (.bool true)], args := [d] }
  | _ => none }
def supportOrderRow : OpenClaim := { program := "ytonflknnlfffhaa", sum := "d8b675b4bbe139f165dfd077bb85bf3e0fe3f201145f0c7b8d9199349224c183", func := "whelk/whelklaw23.SupportOrder", spec := "supportOrder", unfollowed := true, recurses := true, apart := false }
def SupportOrderSaid : Prop := supportOrderRow.holds Try.pinned (OpenSpec.ofChange supportOrderSpec)

/-- ITS FALSE NEIGHBOUR: 'it returns false'. Refute it at one input. -/
def supportOrderWrong : ChangeSpec := { name := "supportOrder", fn := fun _ => fun
  | [d] => { results := [.lit (.bool false)], args := [d] }
  | _ => none }
def SupportOrderWrongFalsely : Prop := supportOrderRow.holds Try.pinned (OpenSpec.ofChange supportOrderWrong)

/-- 'whelklaw23.SupportPlays': WHATEVER THE INPUT: true; the input reads as it did. -/
def supportPlaysSpec : ChangeSpec := { name := "supportPlays", fn := fun _ => fun
  | [d] => { results := [.lit (.bool true)], args := [d] }
  | _ => none }
def supportPlaysRow : OpenClaim := { program := "ytonflknnlfffhaa", sum := "d8b675b4bbe139f165dfd077bb85bf3e0fe3f201145f0c7b8d9199349224c183", func := "whelk/whelklaw23.SupportPlays", spec := "supportPlays", unfollowed := true, recurses := true, apart := false }
def SupportPlaysSaid : Prop := supportPlaysRow.holds Try.pinned (OpenSpec.ofChange supportPlaysSpec)

/-- ITS FALSE NEIGHBOUR: 'it returns false'. Refute it at one input. -/
def supportPlaysWrong : ChangeSpec := { name := "supportPlays", fn := fun _ => fun
  | [d] => { results := [.lit (.bool false)], args := [d] }
  | _ => none }
def SupportPlaysWrongFalsely : Prop := supportPlaysRow.holds Try.pinned (OpenSpec.ofChange supportPlaysWrong)

/- THE SECOND FORM. 'bulk': how many values and letters a reading holds, each counted each time it is reached (what is shared counts as often as it is met; a slice's spare places count too). A statement '..UptoSaid' is the law's where the arguments, and the package variables that the reading takes, are together of bulk at most 1048576: NARROWER than '..Said'. Prove '..Said' where nothing that the law and all that it calls make is longer than what came in: it says more and counts as full. Else prove '..UptoSaid'. A law counts once. -/
mutual
def uptoBulk {H : Type} : DataW H → Nat
  | .lit (.string bytes) => bytes.length + 1
  | .lit _ => 1
  | .nil => 1
  | .ptr d => uptoBulk d + 1
  | .slice elems spare => uptoBulkAll elems + uptoBulkAll spare + 1
  | .agg parts => uptoBulkAll parts + 1
  | .iface _ d => uptoBulk d + 1
  | .map entries => uptoBulkEntries entries + 1
  | .held _ => 1
def uptoBulkAll {H : Type} : List (DataW H) → Nat
  | [] => 0
  | d :: r => uptoBulk d + uptoBulkAll r
def uptoBulkEntries {H : Type} : List (Lit × DataW H) → Nat
  | [] => 0
  | x :: r => uptoBulkEntry x + uptoBulkEntries r
def uptoBulkEntry {H : Type} : Lit × DataW H → Nat
  | (.string bytes, d) => bytes.length + uptoBulk d + 1
  | (_, d) => uptoBulk d + 1
 end
def uptoSmall : (H : Type) → List (DataW H) → Bool := fun _ ds => decide (uptoBulkAll ds ≤ 1048576)
def OpenSpec.upto (s : _root_.Go.ChangeSpec) : _root_.Go.OpenSpec := { _root_.Go.OpenSpec.ofChange s with cond := some uptoSmall }

/-- 'whelklaw17.TokenPlays', WHERE WHAT IT READS IS OF BULK AT MOST 1048576: true; the input reads as it did. -/
def tokenPlaysUptoRow : OpenClaim := { program := "ytonflknnlfffhaa", sum := "d8b675b4bbe139f165dfd077bb85bf3e0fe3f201145f0c7b8d9199349224c183", func := "whelk/whelklaw17.TokenPlays", spec := "tokenPlays", unfollowed := true, recurses := true, apart := false, narrowed := true }
def TokenPlaysUptoSaid : Prop := tokenPlaysUptoRow.holds Try.pinned (OpenSpec.upto tokenPlaysSpec)

/-- 'whelklaw17.TokenChains', WHERE WHAT IT READS IS OF BULK AT MOST 1048576: true; the input reads as it did. -/
def tokenChainsUptoRow : OpenClaim := { program := "ytonflknnlfffhaa", sum := "d8b675b4bbe139f165dfd077bb85bf3e0fe3f201145f0c7b8d9199349224c183", func := "whelk/whelklaw17.TokenChains", spec := "tokenChains", unfollowed := true, recurses := true, apart := false, narrowed := true }
def TokenChainsUptoSaid : Prop := tokenChainsUptoRow.holds Try.pinned (OpenSpec.upto tokenChainsSpec)

/-- 'whelklaw23.SupportOrder', WHERE WHAT IT READS IS OF BULK AT MOST 1048576: true; the input reads as it did. -/
def supportOrderUptoRow : OpenClaim := { program := "ytonflknnlfffhaa", sum := "d8b675b4bbe139f165dfd077bb85bf3e0fe3f201145f0c7b8d9199349224c183", func := "whelk/whelklaw23.SupportOrder", spec := "supportOrder", unfollowed := true, recurses := true, apart := false, narrowed := true }
def SupportOrderUptoSaid : Prop := supportOrderUptoRow.holds Try.pinned (OpenSpec.upto supportOrderSpec)

/-- 'whelklaw23.SupportPlays', WHERE WHAT IT READS IS OF BULK AT MOST 1048576: true; the input reads as it did. -/
def supportPlaysUptoRow : OpenClaim := { program := "ytonflknnlfffhaa", sum := "d8b675b4bbe139f165dfd077bb85bf3e0fe3f201145f0c7b8d9199349224c183", func := "whelk/whelklaw23.SupportPlays", spec := "supportPlays", unfollowed := true, recurses := true, apart := false, narrowed := true }
def SupportPlaysUptoSaid : Prop := supportPlaysUptoRow.holds Try.pinned (OpenSpec.upto supportPlaysSpec)

end Rows
end Go.Proofs.Ytonflknnlfffhaa
