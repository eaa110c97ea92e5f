/-
  No cell of these rows narrows 'for every input' (looked for: loops, veiled, ifaces, maps, wideKeys, modest, calm, conditions, laid).
  DERIVED. THE GIVEN ROWS OF THIS SEAT. 3 by the template 'for every input the law returns true; each argument reads behind the call as it read before'; 0 by the template 'total and deterministic' (their statements: YteijpcjhecmamaaTotals.lean).
  GIVEN WITH THE SEED: the statements are not yours to turn. If you find one false, say at which input.
  Laid BY PROGRAM, IN A SANDBOX (cutbox-rows.mjs): the forced cells as the released guide's own fill.sh prints them over the translation 45a5fdaa52902a03… (all of the seat's roots in one cut). By AI agents, Wed Nov 11 2026. No macro, syntax, notation, axiom, sorry.
-/
import Derived.Test.YteijpcjhecmamaaChecked
import GoSem.Claim
import GoSem.ClaimJoined
import GoSem.ClaimMapViews
import Derived.JoinedTies
import Derived.KernelRfl
namespace Go.Proofs.Yteijpcjhecmamaa
/- THE CELL 'sum', in the pinned program and in every row, IS THE sha256 OF THE DUMP (.gsa) THAT YteijpcjhecmamaaProg.lean LOADS. Nothing in Lean hashes anything: it is a label: what it is worth is what the hold of that sum in a sandbox is worth. -/
noncomputable def Try.pinned : Pinned := { name := "yteijpcjhecmamaa", sum := "45a5fdaa52902a037785c056e552c6999cadcedc3e86319108903bf5b33b1d25", checked := Try.checked }
namespace Rows
def none {H : Type} : Left H := { results := [], args := [] }

/-- 'versolaw01.UtfFixes': WHATEVER THE INPUT: true; the input reads as it did. -/
def utfFixesSpec : ChangeSpec := { name := "utfFixes", fn := fun _ => fun
  | [d] => { results := [.lit (.bool true)], args := [d] }
  | _ => none }
def utfFixesRow : OpenClaim := { program := "yteijpcjhecmamaa", sum := "45a5fdaa52902a037785c056e552c6999cadcedc3e86319108903bf5b33b1d25", func := "verso/versolaw01.UtfFixes", spec := "utfFixes", inPlace := ["internal/abi.NoEscape"], apart := false }
def UtfFixesSaid : Prop := utfFixesRow.holds Try.pinned (OpenSpec.ofChange utfFixesSpec)

/-- ITS FALSE NEIGHBOUR: 'it returns false'. Refute it at one input. -/
def utfFixesWrong : ChangeSpec := { name := "utfFixes", fn := fun _ => fun
  | [d] => { results := [.lit (.bool false)], args := [d] }
  | _ => none }
def UtfFixesWrongFalsely : Prop := utfFixesRow.holds Try.pinned (OpenSpec.ofChange utfFixesWrong)

/-- 'versolaw01.UtfCuts': WHATEVER THE INPUT: true; the input reads as it did. -/
def utfCutsSpec : ChangeSpec := { name := "utfCuts", fn := fun _ => fun
  | [d1, d2] => { results := [.lit (.bool true)], args := [d1, d2] }
  | _ => none }
def utfCutsRow : OpenClaim := { program := "yteijpcjhecmamaa", sum := "45a5fdaa52902a037785c056e552c6999cadcedc3e86319108903bf5b33b1d25", func := "verso/versolaw01.UtfCuts", spec := "utfCuts", inPlace := ["internal/abi.NoEscape"], apart := false }
def UtfCutsSaid : Prop := utfCutsRow.holds Try.pinned (OpenSpec.ofChange utfCutsSpec)

/-- ITS FALSE NEIGHBOUR: 'it returns false'. Refute it at one input. -/
def utfCutsWrong : ChangeSpec := { name := "utfCuts", fn := fun _ => fun
  | [d1, d2] => { results := [.lit (.bool false)], args := [d1, d2] }
  | _ => none }
def UtfCutsWrongFalsely : Prop := utfCutsRow.holds Try.pinned (OpenSpec.ofChange utfCutsWrong)

/-- 'versolaw01.UtfParts': WHATEVER THE INPUT: true; the input reads as it did. -/
def utfPartsSpec : ChangeSpec := { name := "utfParts", fn := fun _ => fun
  | [d1, d2] => { results := [.lit (.bool true)], args := [d1, d2] }
  | _ => none }
def utfPartsRow : OpenClaim := { program := "yteijpcjhecmamaa", sum := "45a5fdaa52902a037785c056e552c6999cadcedc3e86319108903bf5b33b1d25", func := "verso/versolaw01.UtfParts", spec := "utfParts", inPlace := ["internal/abi.NoEscape"], apart := false }
def UtfPartsSaid : Prop := utfPartsRow.holds Try.pinned (OpenSpec.ofChange utfPartsSpec)

/-- ITS FALSE NEIGHBOUR: 'it returns false'. Refute it at one input. -/
def utfPartsWrong : ChangeSpec := { name := "utfParts", fn := fun _ => fun
  | [d1, d2] => { results := [.lit (.bool false)], args := [d1, d2] }
  | _ => none }
def UtfPartsWrongFalsely : Prop := utfPartsRow.holds Try.pinned (OpenSpec.ofChange utfPartsWrong)

/- THE SECOND FORM. 'bulk': how many values and letters a reading holds, each counted each time it is reached (what is shared counts as often as it is met; a slice's spare places count too). A statement '..UptoSaid' is the law's where the arguments, and the package variables that the reading takes, are together of bulk at most 1048576: NARROWER than '..Said'. Prove '..Said' where nothing that the law and all that it calls make is longer than what came in: it says more and counts as full. Else prove '..UptoSaid'. A law counts once. -/
mutual
def uptoBulk {H : Type} : DataW H → Nat
  | .lit (.string bytes) => bytes.length + 1
  | .lit _ => 1
  | .nil => 1
  | .ptr d => uptoBulk d + 1
  | .slice elems spare => uptoBulkAll elems + uptoBulkAll spare + 1
  | .agg parts => uptoBulkAll parts + 1
  | .iface _ d => uptoBulk d + 1
  | .map entries => uptoBulkEntries entries + 1
  | .held _ => 1
def uptoBulkAll {H : Type} : List (DataW H) → Nat
  | [] => 0
  | d :: r => uptoBulk d + uptoBulkAll r
def uptoBulkEntries {H : Type} : List (Lit × DataW H) → Nat
  | [] => 0
  | x :: r => uptoBulkEntry x + uptoBulkEntries r
def uptoBulkEntry {H : Type} : Lit × DataW H → Nat
  | (.string bytes, d) => bytes.length + uptoBulk d + 1
  | (_, d) => uptoBulk d + 1
 end
def uptoSmall : (H : Type) → List (DataW H) → Bool := fun _ ds => decide (uptoBulkAll ds ≤ 1048576)
def OpenSpec.upto (s : _root_.Go.ChangeSpec) : _root_.Go.OpenSpec := { _root_.Go.OpenSpec.ofChange s with cond := some uptoSmall }

/-- 'versolaw01.UtfFixes', WHERE WHAT IT READS IS OF BULK AT MOST 1048576: true; the input reads as it did. -/
def utfFixesUptoRow : OpenClaim := { program := "yteijpcjhecmamaa", sum := "45a5fdaa52902a037785c056e552c6999cadcedc3e86319108903bf5b33b1d25", func := "verso/versolaw01.UtfFixes", spec := "utfFixes", inPlace := ["internal/abi.NoEscape"], apart := false, narrowed := true }
def UtfFixesUptoSaid : Prop := utfFixesUptoRow.holds Try.pinned (OpenSpec.upto utfFixesSpec)

/-- 'versolaw01.UtfCuts', WHERE WHAT IT READS IS OF BULK AT MOST 1048576: true; the input reads as it did. -/
def utfCutsUptoRow : OpenClaim := { program := "yteijpcjhecmamaa", sum := "45a5fdaa52902a037785c056e552c6999cadcedc3e86319108903bf5b33b1d25", func := "verso/versolaw01.UtfCuts", spec := "utfCuts", inPlace := ["internal/abi.NoEscape"], apart := false, narrowed := true }
def UtfCutsUptoSaid : Prop := utfCutsUptoRow.holds Try.pinned (OpenSpec.upto utfCutsSpec)

/-- 'versolaw01.UtfParts', WHERE WHAT IT READS IS OF BULK AT MOST 1048576: true; the input reads as it did. -/
def utfPartsUptoRow : OpenClaim := { program := "yteijpcjhecmamaa", sum := "45a5fdaa52902a037785c056e552c6999cadcedc3e86319108903bf5b33b1d25", func := "verso/versolaw01.UtfParts", spec := "utfParts", inPlace := ["internal/abi.NoEscape"], apart := false, narrowed := true }
def UtfPartsUptoSaid : Prop := utfPartsUptoRow.holds Try.pinned (OpenSpec.upto utfPartsSpec)

end Rows
end Go.Proofs.Yteijpcjhecmamaa
