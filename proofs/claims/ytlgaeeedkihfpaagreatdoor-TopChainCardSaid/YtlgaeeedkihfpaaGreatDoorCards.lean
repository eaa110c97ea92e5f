/-
  DERIVED. GIVEN WITH THE SEED: THE CARDS: each row of YtlgaeeedkihfpaaGreatDoorRows.lean that lists a variable, with what it lists TIED to the program's text (the seventh form; the later family's looks); each row that meets fmt, with fmt's text TOLD by the authors' own Lean function (tested against real Go, not proved from fmt's source: count such statements apart). THE CARD IS WHAT COUNTS. Prove the row's statement (the work); the ties are given (YtlgaeeedkihfpaaGreatDoorTie.lean); close each card by the builder's one call (the guide's Derived/Test/ToyasCard.lean, 'card_holds'). Laid BY PROGRAM, IN A SANDBOX (cutbox-door.mjs). By AI agents, Wed Nov 11 2026. No macro, syntax, notation, axiom, sorry.
-/
import Derived.Test.YtlgaeeedkihfpaaGreatDoorRows
import GoSem.ClaimSeven
namespace Go.Proofs.YtlgaeeedkihfpaaGreatDoor
namespace Rows

/-- THE TIED CARD OF 'versotop.TopHarm'. -/
def topHarmCard : Claim7 := { stood := { row := topHarmRow, standIns := [], harness := (true, "b4d223e84df40d4a747e4da5f42a451128941f2d2e61d4a559bc6dc9ebe29dba"), looks := false }, kinds := [], alts := [], laidByText := true, laidKinds := [.data, .pinned], laidTests := true, laidLooks := .later }
def TopHarmCardSaid : Prop := Claim7.holds Tryz.pinned (.plain (OpenSpec.ofChange topHarmSpec)) topHarmCard

/-- THE TIED CARD OF 'versotop.TopChain'. -/
def topChainCard : Claim7 := { stood := { row := topChainRow, standIns := [], harness := (true, "b4d223e84df40d4a747e4da5f42a451128941f2d2e61d4a559bc6dc9ebe29dba"), looks := false }, kinds := [], alts := [], laidByText := true, laidKinds := [.data, .pinned], laidTests := true, laidLooks := .later }
def TopChainCardSaid : Prop := Claim7.holds Tryz.pinned (.plain (OpenSpec.ofChange topChainSpec)) topChainCard

/-- THE SECOND FORM's CARD OF 'versotop.TopHarm'. -/
def topHarmUptoCard : Claim7 := { stood := { row := topHarmUptoRow, standIns := [], harness := (true, "b4d223e84df40d4a747e4da5f42a451128941f2d2e61d4a559bc6dc9ebe29dba"), looks := false }, kinds := [], alts := [], laidByText := true, laidKinds := [.data, .pinned], laidTests := true, laidLooks := .later }
def TopHarmUptoCardSaid : Prop := Claim7.holds Tryz.pinned (.plain (OpenSpec.upto topHarmSpec)) topHarmUptoCard

/-- THE SECOND FORM's CARD OF 'versotop.TopChain'. -/
def topChainUptoCard : Claim7 := { stood := { row := topChainUptoRow, standIns := [], harness := (true, "b4d223e84df40d4a747e4da5f42a451128941f2d2e61d4a559bc6dc9ebe29dba"), looks := false }, kinds := [], alts := [], laidByText := true, laidKinds := [.data, .pinned], laidTests := true, laidLooks := .later }
def TopChainUptoCardSaid : Prop := Claim7.holds Tryz.pinned (.plain (OpenSpec.upto topChainSpec)) topChainUptoCard
end Rows
end Go.Proofs.YtlgaeeedkihfpaaGreatDoor
