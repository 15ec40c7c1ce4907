/-
  DERIVED. GIVEN WITH THE SEED: THE CARDS: each row of YtmadnehipagakaaGreatDoorRows.lean that lists a variable, with what it lists TIED to the program's text (the seventh form; the later family's looks); each row that meets fmt, with fmt's text TOLD by the authors' own Lean function (tested against real Go, not proved from fmt's source: count such statements apart). THE CARD IS WHAT COUNTS. Prove the row's statement (the work); the ties are given (YtmadnehipagakaaGreatDoorTie.lean); close each card by the builder's one call (the guide's Derived/Test/ToyasCard.lean, 'card_holds'). Laid BY PROGRAM, IN A SANDBOX (cutbox-door.mjs). By AI agents, Wed Nov 11 2026. No macro, syntax, notation, axiom, sorry.
-/
import Derived.Test.YtmadnehipagakaaGreatDoorRows
import GoSem.ClaimSeven
namespace Go.Proofs.YtmadnehipagakaaGreatDoor
namespace Rows

/-- THE TIED CARD OF 'whelklaw6.BuiltAny'. -/
def builtAnyCard : Claim7 := { stood := { row := builtAnyRow, standIns := [], harness := (true, "23439b203549fe83be4ca24b8edaef5675629cc3f3917b17eb2220d8c2db650f"), looks := false }, kinds := [], alts := [], laidByText := true, laidKinds := [.data, .data, .data], laidTests := true, laidLooks := .later }
def BuiltAnyCardSaid : Prop := Claim7.holds Tryz.pinned (.plain (OpenSpec.ofChange builtAnySpec)) builtAnyCard

/-- THE TIED CARD OF 'whelklaw8.EvalAny'. -/
def evalAnyCard : Claim7 := { stood := { row := evalAnyRow, standIns := [], harness := (true, "23439b203549fe83be4ca24b8edaef5675629cc3f3917b17eb2220d8c2db650f"), looks := false }, kinds := [], alts := [], laidByText := true, laidKinds := [.data, .data, .data], laidTests := true, laidLooks := .later }
def EvalAnyCardSaid : Prop := Claim7.holds Tryz.pinned (.plain (OpenSpec.ofChange evalAnySpec)) evalAnyCard

/-- THE TIED CARD OF 'whelklaw8.EvalBinds'. -/
def evalBindsCard : Claim7 := { stood := { row := evalBindsRow, standIns := [], harness := (true, "23439b203549fe83be4ca24b8edaef5675629cc3f3917b17eb2220d8c2db650f"), looks := false }, kinds := [], alts := [], laidByText := true, laidKinds := [.data, .data, .data], laidTests := true, laidLooks := .later }
def EvalBindsCardSaid : Prop := Claim7.holds Tryz.pinned (.plain (OpenSpec.ofChange evalBindsSpec)) evalBindsCard

/-- THE TIED CARD OF 'whelklaw8.EvalFuel'. -/
def evalFuelCard : Claim7 := { stood := { row := evalFuelRow, standIns := [], harness := (true, "23439b203549fe83be4ca24b8edaef5675629cc3f3917b17eb2220d8c2db650f"), looks := false }, kinds := [], alts := [], laidByText := true, laidKinds := [.data, .data, .data], laidTests := true, laidLooks := .later }
def EvalFuelCardSaid : Prop := Claim7.holds Tryz.pinned (.plain (OpenSpec.ofChange evalFuelSpec)) evalFuelCard

/-- THE TIED CARD OF 'whelklaw8.EvalShort'. -/
def evalShortCard : Claim7 := { stood := { row := evalShortRow, standIns := [], harness := (true, "23439b203549fe83be4ca24b8edaef5675629cc3f3917b17eb2220d8c2db650f"), looks := false }, kinds := [], alts := [], laidByText := true, laidKinds := [.data, .data, .data], laidTests := true, laidLooks := .later }
def EvalShortCardSaid : Prop := Claim7.holds Tryz.pinned (.plain (OpenSpec.ofChange evalShortSpec)) evalShortCard

/-- THE TIED CARD OF 'whelklaw8.EvalGlobs'. -/
def evalGlobsCard : Claim7 := { stood := { row := evalGlobsRow, standIns := [], harness := (true, "23439b203549fe83be4ca24b8edaef5675629cc3f3917b17eb2220d8c2db650f"), looks := false }, kinds := [], alts := [], laidByText := true, laidKinds := [.data, .data, .data], laidTests := true, laidLooks := .later }
def EvalGlobsCardSaid : Prop := Claim7.holds Tryz.pinned (.plain (OpenSpec.ofChange evalGlobsSpec)) evalGlobsCard

/-- THE TIED CARD OF 'whelklaw8.EvalCalls'. -/
def evalCallsCard : Claim7 := { stood := { row := evalCallsRow, standIns := [], harness := (true, "23439b203549fe83be4ca24b8edaef5675629cc3f3917b17eb2220d8c2db650f"), looks := false }, kinds := [], alts := [], laidByText := true, laidKinds := [.data, .data, .data], laidTests := true, laidLooks := .later }
def EvalCallsCardSaid : Prop := Claim7.holds Tryz.pinned (.plain (OpenSpec.ofChange evalCallsSpec)) evalCallsCard

/-- THE TIED CARD OF 'whelklaw8.EvalDeep'. -/
def evalDeepCard : Claim7 := { stood := { row := evalDeepRow, standIns := [], harness := (true, "23439b203549fe83be4ca24b8edaef5675629cc3f3917b17eb2220d8c2db650f"), looks := false }, kinds := [], alts := [], laidByText := true, laidKinds := [.data, .data, .data], laidTests := true, laidLooks := .later }
def EvalDeepCardSaid : Prop := Claim7.holds Tryz.pinned (.plain (OpenSpec.ofChange evalDeepSpec)) evalDeepCard

/-- THE SECOND FORM's CARD OF 'whelklaw6.BuiltAny'. -/
def builtAnyUptoCard : Claim7 := { stood := { row := builtAnyUptoRow, standIns := [], harness := (true, "23439b203549fe83be4ca24b8edaef5675629cc3f3917b17eb2220d8c2db650f"), looks := false }, kinds := [], alts := [], laidByText := true, laidKinds := [.data, .data, .data], laidTests := true, laidLooks := .later }
def BuiltAnyUptoCardSaid : Prop := Claim7.holds Tryz.pinned (.plain (OpenSpec.upto builtAnySpec)) builtAnyUptoCard

/-- THE SECOND FORM's CARD OF 'whelklaw8.EvalAny'. -/
def evalAnyUptoCard : Claim7 := { stood := { row := evalAnyUptoRow, standIns := [], harness := (true, "23439b203549fe83be4ca24b8edaef5675629cc3f3917b17eb2220d8c2db650f"), looks := false }, kinds := [], alts := [], laidByText := true, laidKinds := [.data, .data, .data], laidTests := true, laidLooks := .later }
def EvalAnyUptoCardSaid : Prop := Claim7.holds Tryz.pinned (.plain (OpenSpec.upto evalAnySpec)) evalAnyUptoCard

/-- THE SECOND FORM's CARD OF 'whelklaw8.EvalBinds'. -/
def evalBindsUptoCard : Claim7 := { stood := { row := evalBindsUptoRow, standIns := [], harness := (true, "23439b203549fe83be4ca24b8edaef5675629cc3f3917b17eb2220d8c2db650f"), looks := false }, kinds := [], alts := [], laidByText := true, laidKinds := [.data, .data, .data], laidTests := true, laidLooks := .later }
def EvalBindsUptoCardSaid : Prop := Claim7.holds Tryz.pinned (.plain (OpenSpec.upto evalBindsSpec)) evalBindsUptoCard

/-- THE SECOND FORM's CARD OF 'whelklaw8.EvalFuel'. -/
def evalFuelUptoCard : Claim7 := { stood := { row := evalFuelUptoRow, standIns := [], harness := (true, "23439b203549fe83be4ca24b8edaef5675629cc3f3917b17eb2220d8c2db650f"), looks := false }, kinds := [], alts := [], laidByText := true, laidKinds := [.data, .data, .data], laidTests := true, laidLooks := .later }
def EvalFuelUptoCardSaid : Prop := Claim7.holds Tryz.pinned (.plain (OpenSpec.upto evalFuelSpec)) evalFuelUptoCard

/-- THE SECOND FORM's CARD OF 'whelklaw8.EvalShort'. -/
def evalShortUptoCard : Claim7 := { stood := { row := evalShortUptoRow, standIns := [], harness := (true, "23439b203549fe83be4ca24b8edaef5675629cc3f3917b17eb2220d8c2db650f"), looks := false }, kinds := [], alts := [], laidByText := true, laidKinds := [.data, .data, .data], laidTests := true, laidLooks := .later }
def EvalShortUptoCardSaid : Prop := Claim7.holds Tryz.pinned (.plain (OpenSpec.upto evalShortSpec)) evalShortUptoCard

/-- THE SECOND FORM's CARD OF 'whelklaw8.EvalGlobs'. -/
def evalGlobsUptoCard : Claim7 := { stood := { row := evalGlobsUptoRow, standIns := [], harness := (true, "23439b203549fe83be4ca24b8edaef5675629cc3f3917b17eb2220d8c2db650f"), looks := false }, kinds := [], alts := [], laidByText := true, laidKinds := [.data, .data, .data], laidTests := true, laidLooks := .later }
def EvalGlobsUptoCardSaid : Prop := Claim7.holds Tryz.pinned (.plain (OpenSpec.upto evalGlobsSpec)) evalGlobsUptoCard

/-- THE SECOND FORM's CARD OF 'whelklaw8.EvalCalls'. -/
def evalCallsUptoCard : Claim7 := { stood := { row := evalCallsUptoRow, standIns := [], harness := (true, "23439b203549fe83be4ca24b8edaef5675629cc3f3917b17eb2220d8c2db650f"), looks := false }, kinds := [], alts := [], laidByText := true, laidKinds := [.data, .data, .data], laidTests := true, laidLooks := .later }
def EvalCallsUptoCardSaid : Prop := Claim7.holds Tryz.pinned (.plain (OpenSpec.upto evalCallsSpec)) evalCallsUptoCard

/-- THE SECOND FORM's CARD OF 'whelklaw8.EvalDeep'. -/
def evalDeepUptoCard : Claim7 := { stood := { row := evalDeepUptoRow, standIns := [], harness := (true, "23439b203549fe83be4ca24b8edaef5675629cc3f3917b17eb2220d8c2db650f"), looks := false }, kinds := [], alts := [], laidByText := true, laidKinds := [.data, .data, .data], laidTests := true, laidLooks := .later }
def EvalDeepUptoCardSaid : Prop := Claim7.holds Tryz.pinned (.plain (OpenSpec.upto evalDeepSpec)) evalDeepUptoCard
end Rows
end Go.Proofs.YtmadnehipagakaaGreatDoor
