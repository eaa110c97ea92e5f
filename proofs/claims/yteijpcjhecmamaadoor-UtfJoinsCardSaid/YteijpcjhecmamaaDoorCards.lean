/-
  DERIVED. GIVEN WITH THE SEED: THE CARDS: each row of YteijpcjhecmamaaDoorRows.lean that lists a variable, with what it lists TIED to the program's text (the seventh form; the later family's looks); each row that meets fmt, with fmt's text TOLD by the authors' own Lean function (tested against real Go, not proved from fmt's source: count such statements apart). THE CARD IS WHAT COUNTS. Prove the row's statement (the work); the ties are given (YteijpcjhecmamaaDoorTie.lean); close each card by the builder's one call (the guide's Derived/Test/ToyasCard.lean, 'card_holds'). Laid BY PROGRAM, IN A SANDBOX (cutbox-door.mjs). By AI agents, Wed Nov 11 2026. No macro, syntax, notation, axiom, sorry.
-/
import Derived.Test.YteijpcjhecmamaaDoorRows
import GoSem.ClaimSeven
namespace Go.Proofs.YteijpcjhecmamaaDoor
namespace Rows

/-- THE TIED CARD OF 'versolaw01.UtfTells'. -/
def utfTellsCard : Claim7 := { stood := { row := utfTellsRow, standIns := [], harness := (true, "105482c7e83460476a2d8913eeca5ed9a62e419736cef486fff38c839b085f33"), looks := false }, kinds := [], alts := [], laidByText := true, laidKinds := [.data, .pinned], laidTests := true, laidLooks := .later }
def UtfTellsCardSaid : Prop := Claim7.holds Tryd.pinned (.plain (OpenSpec.ofChange utfTellsSpec)) utfTellsCard

/-- THE TIED CARD OF 'versolaw01.UtfAgain'. -/
def utfAgainCard : Claim7 := { stood := { row := utfAgainRow, standIns := [], harness := (true, "105482c7e83460476a2d8913eeca5ed9a62e419736cef486fff38c839b085f33"), looks := false }, kinds := [], alts := [], laidByText := true, laidKinds := [.data, .pinned], laidTests := true, laidLooks := .later }
def UtfAgainCardSaid : Prop := Claim7.holds Tryd.pinned (.plain (OpenSpec.ofChange utfAgainSpec)) utfAgainCard

/-- THE TIED CARD OF 'versolaw01.UtfLower'. -/
def utfLowerCard : Claim7 := { stood := { row := utfLowerRow, standIns := [], harness := (true, "105482c7e83460476a2d8913eeca5ed9a62e419736cef486fff38c839b085f33"), looks := false }, kinds := [], alts := [], laidByText := true, laidKinds := [.data, .pinned], laidTests := true, laidLooks := .later }
def UtfLowerCardSaid : Prop := Claim7.holds Tryd.pinned (.plain (OpenSpec.ofChange utfLowerSpec)) utfLowerCard

/-- THE TIED CARD OF 'versolaw01.UtfJoins'. -/
def utfJoinsCard : Claim7 := { stood := { row := utfJoinsRow, standIns := [], harness := (true, "105482c7e83460476a2d8913eeca5ed9a62e419736cef486fff38c839b085f33"), looks := false }, kinds := [], alts := [], laidByText := true, laidKinds := [.data, .pinned], laidTests := true, laidLooks := .later }
def UtfJoinsCardSaid : Prop := Claim7.holds Tryd.pinned (.plain (OpenSpec.ofChange utfJoinsSpec)) utfJoinsCard

/-- THE TIED CARD OF 'versolaw01.UtfOne'. -/
def utfOneCard : Claim7 := { stood := { row := utfOneRow, standIns := [], harness := (true, "105482c7e83460476a2d8913eeca5ed9a62e419736cef486fff38c839b085f33"), looks := false }, kinds := [], alts := [], laidByText := true, laidKinds := [.data, .pinned], laidTests := true, laidLooks := .later }
def UtfOneCardSaid : Prop := Claim7.holds Tryd.pinned (.plain (OpenSpec.ofChange utfOneSpec)) utfOneCard

/-- THE SECOND FORM's CARD OF 'versolaw01.UtfTells'. -/
def utfTellsUptoCard : Claim7 := { stood := { row := utfTellsUptoRow, standIns := [], harness := (true, "105482c7e83460476a2d8913eeca5ed9a62e419736cef486fff38c839b085f33"), looks := false }, kinds := [], alts := [], laidByText := true, laidKinds := [.data, .pinned], laidTests := true, laidLooks := .later }
def UtfTellsUptoCardSaid : Prop := Claim7.holds Tryd.pinned (.plain (OpenSpec.upto utfTellsSpec)) utfTellsUptoCard

/-- THE SECOND FORM's CARD OF 'versolaw01.UtfAgain'. -/
def utfAgainUptoCard : Claim7 := { stood := { row := utfAgainUptoRow, standIns := [], harness := (true, "105482c7e83460476a2d8913eeca5ed9a62e419736cef486fff38c839b085f33"), looks := false }, kinds := [], alts := [], laidByText := true, laidKinds := [.data, .pinned], laidTests := true, laidLooks := .later }
def UtfAgainUptoCardSaid : Prop := Claim7.holds Tryd.pinned (.plain (OpenSpec.upto utfAgainSpec)) utfAgainUptoCard

/-- THE SECOND FORM's CARD OF 'versolaw01.UtfLower'. -/
def utfLowerUptoCard : Claim7 := { stood := { row := utfLowerUptoRow, standIns := [], harness := (true, "105482c7e83460476a2d8913eeca5ed9a62e419736cef486fff38c839b085f33"), looks := false }, kinds := [], alts := [], laidByText := true, laidKinds := [.data, .pinned], laidTests := true, laidLooks := .later }
def UtfLowerUptoCardSaid : Prop := Claim7.holds Tryd.pinned (.plain (OpenSpec.upto utfLowerSpec)) utfLowerUptoCard

/-- THE SECOND FORM's CARD OF 'versolaw01.UtfJoins'. -/
def utfJoinsUptoCard : Claim7 := { stood := { row := utfJoinsUptoRow, standIns := [], harness := (true, "105482c7e83460476a2d8913eeca5ed9a62e419736cef486fff38c839b085f33"), looks := false }, kinds := [], alts := [], laidByText := true, laidKinds := [.data, .pinned], laidTests := true, laidLooks := .later }
def UtfJoinsUptoCardSaid : Prop := Claim7.holds Tryd.pinned (.plain (OpenSpec.upto utfJoinsSpec)) utfJoinsUptoCard

/-- THE SECOND FORM's CARD OF 'versolaw01.UtfOne'. -/
def utfOneUptoCard : Claim7 := { stood := { row := utfOneUptoRow, standIns := [], harness := (true, "105482c7e83460476a2d8913eeca5ed9a62e419736cef486fff38c839b085f33"), looks := false }, kinds := [], alts := [], laidByText := true, laidKinds := [.data, .pinned], laidTests := true, laidLooks := .later }
def UtfOneUptoCardSaid : Prop := Claim7.holds Tryd.pinned (.plain (OpenSpec.upto utfOneSpec)) utfOneUptoCard
end Rows
end Go.Proofs.YteijpcjhecmamaaDoor
