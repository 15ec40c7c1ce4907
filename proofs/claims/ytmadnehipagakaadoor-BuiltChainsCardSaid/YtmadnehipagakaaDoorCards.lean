/-
  DERIVED. GIVEN WITH THE SEED: THE CARDS: each row of YtmadnehipagakaaDoorRows.lean that lists a variable, with what it lists TIED to the program's text (the seventh form; the later family's looks); each row that meets fmt, with fmt's text TOLD by the authors' own Lean function (tested against real Go, not proved from fmt's source: count such statements apart). THE CARD IS WHAT COUNTS. Prove the row's statement (the work); the ties are given (YtmadnehipagakaaDoorTie.lean); close each card by the builder's one call (the guide's Derived/Test/ToyasCard.lean, 'card_holds'). Laid BY PROGRAM, IN A SANDBOX (cutbox-door.mjs). By AI agents, Wed Nov 11 2026. No macro, syntax, notation, axiom, sorry.
-/
import Derived.Test.YtmadnehipagakaaDoorRows
import GoSem.ClaimSeven
namespace Go.Proofs.YtmadnehipagakaaDoor
namespace Rows

/-- THE TIED CARD OF 'whelklaw6.BuiltNames'. -/
def builtNamesCard : Claim7 := { stood := { row := builtNamesRow, standIns := [], harness := (true, "4b2bd8f36041fea67fe0f59c10e63fb3d0b096918b85dbe988eaed75bb088221"), looks := false }, kinds := [], alts := [], laidByText := true, laidKinds := [.data, .data, .data], laidTests := true, laidLooks := .later }
def BuiltNamesCardSaid : Prop := Claim7.holds Tryd.pinned (.plain (OpenSpec.ofChange builtNamesSpec)) builtNamesCard

/-- THE TIED CARD OF 'whelklaw6.BuiltChains'. -/
def builtChainsCard : Claim7 := { stood := { row := builtChainsRow, standIns := [], harness := (true, "4b2bd8f36041fea67fe0f59c10e63fb3d0b096918b85dbe988eaed75bb088221"), looks := false }, kinds := [], alts := [], laidByText := true, laidKinds := [.data, .data, .data], laidTests := true, laidLooks := .later }
def BuiltChainsCardSaid : Prop := Claim7.holds Tryd.pinned (.plain (OpenSpec.ofChange builtChainsSpec)) builtChainsCard

/-- THE TIED CARD OF 'whelklaw6.BuiltTypes'. -/
def builtTypesCard : Claim7 := { stood := { row := builtTypesRow, standIns := [], harness := (true, "4b2bd8f36041fea67fe0f59c10e63fb3d0b096918b85dbe988eaed75bb088221"), looks := false }, kinds := [], alts := [], laidByText := true, laidKinds := [.data, .data, .data], laidTests := true, laidLooks := .later }
def BuiltTypesCardSaid : Prop := Claim7.holds Tryd.pinned (.plain (OpenSpec.ofChange builtTypesSpec)) builtTypesCard

/-- THE TIED CARD OF 'whelklaw6.BuiltTexts'. -/
def builtTextsCard : Claim7 := { stood := { row := builtTextsRow, standIns := [], harness := (true, "4b2bd8f36041fea67fe0f59c10e63fb3d0b096918b85dbe988eaed75bb088221"), looks := false }, kinds := [], alts := [], laidByText := true, laidKinds := [.data, .data, .data], laidTests := true, laidLooks := .later }
def BuiltTextsCardSaid : Prop := Claim7.holds Tryd.pinned (.plain (OpenSpec.ofChange builtTextsSpec)) builtTextsCard

/-- THE TIED CARD OF 'whelklaw6.BuiltSames'. -/
def builtSamesCard : Claim7 := { stood := { row := builtSamesRow, standIns := [], harness := (true, "4b2bd8f36041fea67fe0f59c10e63fb3d0b096918b85dbe988eaed75bb088221"), looks := false }, kinds := [], alts := [], laidByText := true, laidKinds := [.data, .data, .data], laidTests := true, laidLooks := .later }
def BuiltSamesCardSaid : Prop := Claim7.holds Tryd.pinned (.plain (OpenSpec.ofChange builtSamesSpec)) builtSamesCard

/-- THE SECOND FORM's CARD OF 'whelklaw6.BuiltNames'. -/
def builtNamesUptoCard : Claim7 := { stood := { row := builtNamesUptoRow, standIns := [], harness := (true, "4b2bd8f36041fea67fe0f59c10e63fb3d0b096918b85dbe988eaed75bb088221"), looks := false }, kinds := [], alts := [], laidByText := true, laidKinds := [.data, .data, .data], laidTests := true, laidLooks := .later }
def BuiltNamesUptoCardSaid : Prop := Claim7.holds Tryd.pinned (.plain (OpenSpec.upto builtNamesSpec)) builtNamesUptoCard

/-- THE SECOND FORM's CARD OF 'whelklaw6.BuiltChains'. -/
def builtChainsUptoCard : Claim7 := { stood := { row := builtChainsUptoRow, standIns := [], harness := (true, "4b2bd8f36041fea67fe0f59c10e63fb3d0b096918b85dbe988eaed75bb088221"), looks := false }, kinds := [], alts := [], laidByText := true, laidKinds := [.data, .data, .data], laidTests := true, laidLooks := .later }
def BuiltChainsUptoCardSaid : Prop := Claim7.holds Tryd.pinned (.plain (OpenSpec.upto builtChainsSpec)) builtChainsUptoCard

/-- THE SECOND FORM's CARD OF 'whelklaw6.BuiltTypes'. -/
def builtTypesUptoCard : Claim7 := { stood := { row := builtTypesUptoRow, standIns := [], harness := (true, "4b2bd8f36041fea67fe0f59c10e63fb3d0b096918b85dbe988eaed75bb088221"), looks := false }, kinds := [], alts := [], laidByText := true, laidKinds := [.data, .data, .data], laidTests := true, laidLooks := .later }
def BuiltTypesUptoCardSaid : Prop := Claim7.holds Tryd.pinned (.plain (OpenSpec.upto builtTypesSpec)) builtTypesUptoCard

/-- THE SECOND FORM's CARD OF 'whelklaw6.BuiltTexts'. -/
def builtTextsUptoCard : Claim7 := { stood := { row := builtTextsUptoRow, standIns := [], harness := (true, "4b2bd8f36041fea67fe0f59c10e63fb3d0b096918b85dbe988eaed75bb088221"), looks := false }, kinds := [], alts := [], laidByText := true, laidKinds := [.data, .data, .data], laidTests := true, laidLooks := .later }
def BuiltTextsUptoCardSaid : Prop := Claim7.holds Tryd.pinned (.plain (OpenSpec.upto builtTextsSpec)) builtTextsUptoCard

/-- THE SECOND FORM's CARD OF 'whelklaw6.BuiltSames'. -/
def builtSamesUptoCard : Claim7 := { stood := { row := builtSamesUptoRow, standIns := [], harness := (true, "4b2bd8f36041fea67fe0f59c10e63fb3d0b096918b85dbe988eaed75bb088221"), looks := false }, kinds := [], alts := [], laidByText := true, laidKinds := [.data, .data, .data], laidTests := true, laidLooks := .later }
def BuiltSamesUptoCardSaid : Prop := Claim7.holds Tryd.pinned (.plain (OpenSpec.upto builtSamesSpec)) builtSamesUptoCard
end Rows
end Go.Proofs.YtmadnehipagakaaDoor
