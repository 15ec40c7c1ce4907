/-
  DERIVED. GIVEN WITH THE SEED: THE CARDS: each row of YtcffphojpnbcbaaDoorRows.lean that lists a variable, with what it lists TIED to the program's text (the seventh form; the later family's looks); each row that meets fmt, with fmt's text TOLD by the authors' own Lean function (tested against real Go, not proved from fmt's source: count such statements apart). THE CARD IS WHAT COUNTS. Prove the row's statement (the work); the ties are given (YtcffphojpnbcbaaDoorTie.lean); close each card by the builder's one call (the guide's Derived/Test/ToyasCard.lean, 'card_holds'). Laid BY PROGRAM, IN A SANDBOX (cutbox-door.mjs). By AI agents, Wed Nov 11 2026. No macro, syntax, notation, axiom, sorry.
-/
import Derived.Test.YtcffphojpnbcbaaDoorRows
import GoSem.ClaimSeven
namespace Go.Proofs.YtcffphojpnbcbaaDoor
namespace Rows

/-- THE TIED CARD OF 'whelklaw20.FiredRules'. -/
def firedRulesCard : Claim7 := { stood := { row := firedRulesRow, standIns := [], harness := (true, "77d4b58370cdeb83b33a90012f37f4c602f035d1209c7760c3a8a69d61f804bd"), looks := true }, kinds := [], alts := [], laidByText := true, laidKinds := [.data, .data, .data], laidTests := true, laidLooks := .later }
def FiredRulesCardSaid : Prop := Claim7.holds Tryd.pinned (.plain (OpenSpec.ofChange firedRulesSpec)) firedRulesCard

/-- THE TIED CARD OF 'whelklaw20.FiredPlays'. -/
def firedPlaysCard : Claim7 := { stood := { row := firedPlaysRow, standIns := [], harness := (true, "77d4b58370cdeb83b33a90012f37f4c602f035d1209c7760c3a8a69d61f804bd"), looks := true }, kinds := [], alts := [], laidByText := true, laidKinds := [.data, .data, .data], laidTests := true, laidLooks := .later }
def FiredPlaysCardSaid : Prop := Claim7.holds Tryd.pinned (.plain (OpenSpec.ofChange firedPlaysSpec)) firedPlaysCard

/-- THE SECOND FORM's CARD OF 'whelklaw20.FiredRules'. -/
def firedRulesUptoCard : Claim7 := { stood := { row := firedRulesUptoRow, standIns := [], harness := (true, "77d4b58370cdeb83b33a90012f37f4c602f035d1209c7760c3a8a69d61f804bd"), looks := true }, kinds := [], alts := [], laidByText := true, laidKinds := [.data, .data, .data], laidTests := true, laidLooks := .later }
def FiredRulesUptoCardSaid : Prop := Claim7.holds Tryd.pinned (.plain (OpenSpec.upto firedRulesSpec)) firedRulesUptoCard

/-- THE SECOND FORM's CARD OF 'whelklaw20.FiredPlays'. -/
def firedPlaysUptoCard : Claim7 := { stood := { row := firedPlaysUptoRow, standIns := [], harness := (true, "77d4b58370cdeb83b33a90012f37f4c602f035d1209c7760c3a8a69d61f804bd"), looks := true }, kinds := [], alts := [], laidByText := true, laidKinds := [.data, .data, .data], laidTests := true, laidLooks := .later }
def FiredPlaysUptoCardSaid : Prop := Claim7.holds Tryd.pinned (.plain (OpenSpec.upto firedPlaysSpec)) firedPlaysUptoCard
end Rows
end Go.Proofs.YtcffphojpnbcbaaDoor
