/-
  No cell of these rows narrows 'for every input' (looked for: loops, veiled, ifaces, maps, wideKeys, modest, calm, conditions, laid).
  DERIVED. THE GIVEN ROWS OF THIS SEAT. 11 by the template 'for every input the law returns true; each argument reads behind the call as it read before'; 0 by the template 'total and deterministic' (their statements: YtaakamjjglpibaaTotals.lean).
  GIVEN WITH THE SEED: the statements are not yours to turn. If you find one false, say at which input.
  Laid BY PROGRAM, IN A SANDBOX (cutbox-rows.mjs): the forced cells as the released guide's own fill.sh prints them over the translation 7ec37aac042e991f… (all of the seat's roots in one cut). By AI agents, Wed Nov 11 2026. No macro, syntax, notation, axiom, sorry.
-/
import Derived.Test.YtaakamjjglpibaaChecked
import GoSem.Claim
import GoSem.ClaimJoined
import GoSem.ClaimMapViews
import Derived.JoinedTies
import Derived.KernelRfl
namespace Go.Proofs.Ytaakamjjglpibaa
/- THE CELL 'sum', in the pinned program and in every row, IS THE sha256 OF THE DUMP (.gsa) THAT YtaakamjjglpibaaProg.lean LOADS. Nothing in Lean hashes anything: it is a label: what it is worth is what the hold of that sum in a sandbox is worth. -/
noncomputable def Try.pinned : Pinned := { name := "ytaakamjjglpibaa", sum := "7ec37aac042e991fb8e6102f27a92604a8200af1eb8361850235342600b394ca", checked := Try.checked }
namespace Rows
def none {H : Type} : Left H := { results := [], args := [] }

/-- 'versolaw12.DevOwn': WHATEVER THE INPUT: true; the input reads as it did. -/
def devOwnSpec : ChangeSpec := { name := "devOwn", fn := fun _ => fun
  | [d1, d2] => { results := [.lit (.bool true)], args := [d1, d2] }
  | _ => none }
def devOwnRow : OpenClaim := { program := "ytaakamjjglpibaa", sum := "7ec37aac042e991fb8e6102f27a92604a8200af1eb8361850235342600b394ca", func := "verso/versolaw12.DevOwn", spec := "devOwn", apart := false }
def DevOwnSaid : Prop := devOwnRow.holds Try.pinned (OpenSpec.ofChange devOwnSpec)

/-- ITS FALSE NEIGHBOUR: 'it returns false'. Refute it at one input. -/
def devOwnWrong : ChangeSpec := { name := "devOwn", fn := fun _ => fun
  | [d1, d2] => { results := [.lit (.bool false)], args := [d1, d2] }
  | _ => none }
def DevOwnWrongFalsely : Prop := devOwnRow.holds Try.pinned (OpenSpec.ofChange devOwnWrong)

/-- 'versolaw12.DevLasts': WHATEVER THE INPUT: true; the input reads as it did. -/
def devLastsSpec : ChangeSpec := { name := "devLasts", fn := fun _ => fun
  | [d1, d2, d3] => { results := [.lit (.bool true)], args := [d1, d2, d3] }
  | _ => none }
def devLastsRow : OpenClaim := { program := "ytaakamjjglpibaa", sum := "7ec37aac042e991fb8e6102f27a92604a8200af1eb8361850235342600b394ca", func := "verso/versolaw12.DevLasts", spec := "devLasts", apart := false }
def DevLastsSaid : Prop := devLastsRow.holds Try.pinned (OpenSpec.ofChange devLastsSpec)

/-- ITS FALSE NEIGHBOUR: 'it returns false'. Refute it at one input. -/
def devLastsWrong : ChangeSpec := { name := "devLasts", fn := fun _ => fun
  | [d1, d2, d3] => { results := [.lit (.bool false)], args := [d1, d2, d3] }
  | _ => none }
def DevLastsWrongFalsely : Prop := devLastsRow.holds Try.pinned (OpenSpec.ofChange devLastsWrong)

/-- 'versolaw12.DevArmed': WHATEVER THE INPUT: true; the input reads as it did. -/
def devArmedSpec : ChangeSpec := { name := "devArmed", fn := fun _ => fun
  | [d1, d2] => { results := [.lit (.bool true)], args := [d1, d2] }
  | _ => none }
def devArmedRow : OpenClaim := { program := "ytaakamjjglpibaa", sum := "7ec37aac042e991fb8e6102f27a92604a8200af1eb8361850235342600b394ca", func := "verso/versolaw12.DevArmed", spec := "devArmed", apart := false }
def DevArmedSaid : Prop := devArmedRow.holds Try.pinned (OpenSpec.ofChange devArmedSpec)

/-- ITS FALSE NEIGHBOUR: 'it returns false'. Refute it at one input. -/
def devArmedWrong : ChangeSpec := { name := "devArmed", fn := fun _ => fun
  | [d1, d2] => { results := [.lit (.bool false)], args := [d1, d2] }
  | _ => none }
def DevArmedWrongFalsely : Prop := devArmedRow.holds Try.pinned (OpenSpec.ofChange devArmedWrong)

/-- 'versolaw12.DevFull': WHATEVER THE INPUT: true; the input reads as it did. -/
def devFullSpec : ChangeSpec := { name := "devFull", fn := fun _ => fun
  | [d1, d2] => { results := [.lit (.bool true)], args := [d1, d2] }
  | _ => none }
def devFullRow : OpenClaim := { program := "ytaakamjjglpibaa", sum := "7ec37aac042e991fb8e6102f27a92604a8200af1eb8361850235342600b394ca", func := "verso/versolaw12.DevFull", spec := "devFull", apart := false }
def DevFullSaid : Prop := devFullRow.holds Try.pinned (OpenSpec.ofChange devFullSpec)

/-- ITS FALSE NEIGHBOUR: 'it returns false'. Refute it at one input. -/
def devFullWrong : ChangeSpec := { name := "devFull", fn := fun _ => fun
  | [d1, d2] => { results := [.lit (.bool false)], args := [d1, d2] }
  | _ => none }
def DevFullWrongFalsely : Prop := devFullRow.holds Try.pinned (OpenSpec.ofChange devFullWrong)

/-- 'versolaw12.DevTwice': WHATEVER THE INPUT: true; the input reads as it did. -/
def devTwiceSpec : ChangeSpec := { name := "devTwice", fn := fun _ => fun
  | [d1, d2, d3] => { results := [.lit (.bool true)], args := [d1, d2, d3] }
  | _ => none }
def devTwiceRow : OpenClaim := { program := "ytaakamjjglpibaa", sum := "7ec37aac042e991fb8e6102f27a92604a8200af1eb8361850235342600b394ca", func := "verso/versolaw12.DevTwice", spec := "devTwice", apart := false }
def DevTwiceSaid : Prop := devTwiceRow.holds Try.pinned (OpenSpec.ofChange devTwiceSpec)

/-- ITS FALSE NEIGHBOUR: 'it returns false'. Refute it at one input. -/
def devTwiceWrong : ChangeSpec := { name := "devTwice", fn := fun _ => fun
  | [d1, d2, d3] => { results := [.lit (.bool false)], args := [d1, d2, d3] }
  | _ => none }
def DevTwiceWrongFalsely : Prop := devTwiceRow.holds Try.pinned (OpenSpec.ofChange devTwiceWrong)

/-- 'versolaw12.DevPlays': WHATEVER THE INPUT: true; the input reads as it did. -/
def devPlaysSpec : ChangeSpec := { name := "devPlays", fn := fun _ => fun
  | [d] => { results := [.lit (.bool true)], args := [d] }
  | _ => none }
def devPlaysRow : OpenClaim := { program := "ytaakamjjglpibaa", sum := "7ec37aac042e991fb8e6102f27a92604a8200af1eb8361850235342600b394ca", func := "verso/versolaw12.DevPlays", spec := "devPlays", apart := false }
def DevPlaysSaid : Prop := devPlaysRow.holds Try.pinned (OpenSpec.ofChange devPlaysSpec)

/-- ITS FALSE NEIGHBOUR: 'it returns false'. Refute it at one input. -/
def devPlaysWrong : ChangeSpec := { name := "devPlays", fn := fun _ => fun
  | [d] => { results := [.lit (.bool false)], args := [d] }
  | _ => none }
def DevPlaysWrongFalsely : Prop := devPlaysRow.holds Try.pinned (OpenSpec.ofChange devPlaysWrong)

/-- 'versolaw13.FlogBytes': WHATEVER THE INPUT: true; the input reads as it did. -/
def flogBytesSpec : ChangeSpec := { name := "flogBytes", fn := fun _ => fun
  | [d] => { results := [.lit (.bool true)], args := [d] }
  | _ => none }
def flogBytesRow : OpenClaim := { program := "ytaakamjjglpibaa", sum := "7ec37aac042e991fb8e6102f27a92604a8200af1eb8361850235342600b394ca", func := "verso/versolaw13.FlogBytes", spec := "flogBytes", apart := false }
def FlogBytesSaid : Prop := flogBytesRow.holds Try.pinned (OpenSpec.ofChange flogBytesSpec)

/-- ITS FALSE NEIGHBOUR: 'it returns false'. Refute it at one input. -/
def flogBytesWrong : ChangeSpec := { name := "flogBytes", fn := fun _ => fun
  | [d] => { results := [.lit (.bool false)], args := [d] }
  | _ => none }
def FlogBytesWrongFalsely : Prop := flogBytesRow.holds Try.pinned (OpenSpec.ofChange flogBytesWrong)

/-- 'versolaw13.FlogAgain': WHATEVER THE INPUT: true; the input reads as it did. -/
def flogAgainSpec : ChangeSpec := { name := "flogAgain", fn := fun _ => fun
  | [d1, d2] => { results := [.lit (.bool true)], args := [d1, d2] }
  | _ => none }
def flogAgainRow : OpenClaim := { program := "ytaakamjjglpibaa", sum := "7ec37aac042e991fb8e6102f27a92604a8200af1eb8361850235342600b394ca", func := "verso/versolaw13.FlogAgain", spec := "flogAgain", apart := false }
def FlogAgainSaid : Prop := flogAgainRow.holds Try.pinned (OpenSpec.ofChange flogAgainSpec)

/-- ITS FALSE NEIGHBOUR: 'it returns false'. Refute it at one input. -/
def flogAgainWrong : ChangeSpec := { name := "flogAgain", fn := fun _ => fun
  | [d1, d2] => { results := [.lit (.bool false)], args := [d1, d2] }
  | _ => none }
def FlogAgainWrongFalsely : Prop := flogAgainRow.holds Try.pinned (OpenSpec.ofChange flogAgainWrong)

/-- 'versolaw13.FlogLong': WHATEVER THE INPUT: true; the input reads as it did. -/
def flogLongSpec : ChangeSpec := { name := "flogLong", fn := fun _ => fun
  | [d] => { results := [.lit (.bool true)], args := [d] }
  | _ => none }
def flogLongRow : OpenClaim := { program := "ytaakamjjglpibaa", sum := "7ec37aac042e991fb8e6102f27a92604a8200af1eb8361850235342600b394ca", func := "verso/versolaw13.FlogLong", spec := "flogLong", apart := false }
def FlogLongSaid : Prop := flogLongRow.holds Try.pinned (OpenSpec.ofChange flogLongSpec)

/-- ITS FALSE NEIGHBOUR: 'it returns false'. Refute it at one input. -/
def flogLongWrong : ChangeSpec := { name := "flogLong", fn := fun _ => fun
  | [d] => { results := [.lit (.bool false)], args := [d] }
  | _ => none }
def FlogLongWrongFalsely : Prop := flogLongRow.holds Try.pinned (OpenSpec.ofChange flogLongWrong)

/-- 'versolaw13.FlogMany': WHATEVER THE INPUT: true; the input reads as it did. -/
def flogManySpec : ChangeSpec := { name := "flogMany", fn := fun _ => fun
  | [d] => { results := [.lit (.bool true)], args := [d] }
  | _ => none }
def flogManyRow : OpenClaim := { program := "ytaakamjjglpibaa", sum := "7ec37aac042e991fb8e6102f27a92604a8200af1eb8361850235342600b394ca", func := "verso/versolaw13.FlogMany", spec := "flogMany", apart := false }
def FlogManySaid : Prop := flogManyRow.holds Try.pinned (OpenSpec.ofChange flogManySpec)

/-- ITS FALSE NEIGHBOUR: 'it returns false'. Refute it at one input. -/
def flogManyWrong : ChangeSpec := { name := "flogMany", fn := fun _ => fun
  | [d] => { results := [.lit (.bool false)], args := [d] }
  | _ => none }
def FlogManyWrongFalsely : Prop := flogManyRow.holds Try.pinned (OpenSpec.ofChange flogManyWrong)

/-- 'versolaw13.FlogLasts': WHATEVER THE INPUT: true; the input reads as it did. -/
def flogLastsSpec : ChangeSpec := { name := "flogLasts", fn := fun _ => fun
  | [d1, d2, d3] => { results := [.lit (.bool true)], args := [d1, d2, d3] }
  | _ => none }
def flogLastsRow : OpenClaim := { program := "ytaakamjjglpibaa", sum := "7ec37aac042e991fb8e6102f27a92604a8200af1eb8361850235342600b394ca", func := "verso/versolaw13.FlogLasts", spec := "flogLasts", apart := false }
def FlogLastsSaid : Prop := flogLastsRow.holds Try.pinned (OpenSpec.ofChange flogLastsSpec)

/-- ITS FALSE NEIGHBOUR: 'it returns false'. Refute it at one input. -/
def flogLastsWrong : ChangeSpec := { name := "flogLasts", fn := fun _ => fun
  | [d1, d2, d3] => { results := [.lit (.bool false)], args := [d1, d2, d3] }
  | _ => none }
def FlogLastsWrongFalsely : Prop := flogLastsRow.holds Try.pinned (OpenSpec.ofChange flogLastsWrong)

/- THE SECOND FORM. 'bulk': how many values and letters a reading holds, each counted each time it is reached (what is shared counts as often as it is met; a slice's spare places count too). A statement '..UptoSaid' is the law's where the arguments, and the package variables that the reading takes, are together of bulk at most 1048576: NARROWER than '..Said'. Prove '..Said' where nothing that the law and all that it calls make is longer than what came in: it says more and counts as full. Else prove '..UptoSaid'. A law counts once. -/
mutual
def uptoBulk {H : Type} : DataW H → Nat
  | .lit (.string bytes) => bytes.length + 1
  | .lit _ => 1
  | .nil => 1
  | .ptr d => uptoBulk d + 1
  | .slice elems spare => uptoBulkAll elems + uptoBulkAll spare + 1
  | .agg parts => uptoBulkAll parts + 1
  | .iface _ d => uptoBulk d + 1
  | .map entries => uptoBulkEntries entries + 1
  | .held _ => 1
def uptoBulkAll {H : Type} : List (DataW H) → Nat
  | [] => 0
  | d :: r => uptoBulk d + uptoBulkAll r
def uptoBulkEntries {H : Type} : List (Lit × DataW H) → Nat
  | [] => 0
  | x :: r => uptoBulkEntry x + uptoBulkEntries r
def uptoBulkEntry {H : Type} : Lit × DataW H → Nat
  | (.string bytes, d) => bytes.length + uptoBulk d + 1
  | (_, d) => uptoBulk d + 1
 end
def uptoSmall : (H : Type) → List (DataW H) → Bool := fun _ ds => decide (uptoBulkAll ds ≤ 1048576)
def OpenSpec.upto (s : _root_.Go.ChangeSpec) : _root_.Go.OpenSpec := { _root_.Go.OpenSpec.ofChange s with cond := some uptoSmall }

/-- 'versolaw12.DevOwn', WHERE WHAT IT READS IS OF BULK AT MOST 1048576: true; the input reads as it did. -/
def devOwnUptoRow : OpenClaim := { program := "ytaakamjjglpibaa", sum := "7ec37aac042e991fb8e6102f27a92604a8200af1eb8361850235342600b394ca", func := "verso/versolaw12.DevOwn", spec := "devOwn", apart := false, narrowed := true }
def DevOwnUptoSaid : Prop := devOwnUptoRow.holds Try.pinned (OpenSpec.upto devOwnSpec)

/-- 'versolaw12.DevLasts', WHERE WHAT IT READS IS OF BULK AT MOST 1048576: true; the input reads as it did. -/
def devLastsUptoRow : OpenClaim := { program := "ytaakamjjglpibaa", sum := "7ec37aac042e991fb8e6102f27a92604a8200af1eb8361850235342600b394ca", func := "verso/versolaw12.DevLasts", spec := "devLasts", apart := false, narrowed := true }
def DevLastsUptoSaid : Prop := devLastsUptoRow.holds Try.pinned (OpenSpec.upto devLastsSpec)

/-- 'versolaw12.DevArmed', WHERE WHAT IT READS IS OF BULK AT MOST 1048576: true; the input reads as it did. -/
def devArmedUptoRow : OpenClaim := { program := "ytaakamjjglpibaa", sum := "7ec37aac042e991fb8e6102f27a92604a8200af1eb8361850235342600b394ca", func := "verso/versolaw12.DevArmed", spec := "devArmed", apart := false, narrowed := true }
def DevArmedUptoSaid : Prop := devArmedUptoRow.holds Try.pinned (OpenSpec.upto devArmedSpec)

/-- 'versolaw12.DevFull', WHERE WHAT IT READS IS OF BULK AT MOST 1048576: true; the input reads as it did. -/
def devFullUptoRow : OpenClaim := { program := "ytaakamjjglpibaa", sum := "7ec37aac042e991fb8e6102f27a92604a8200af1eb8361850235342600b394ca", func := "verso/versolaw12.DevFull", spec := "devFull", apart := false, narrowed := true }
def DevFullUptoSaid : Prop := devFullUptoRow.holds Try.pinned (OpenSpec.upto devFullSpec)

/-- 'versolaw12.DevTwice', WHERE WHAT IT READS IS OF BULK AT MOST 1048576: true; the input reads as it did. -/
def devTwiceUptoRow : OpenClaim := { program := "ytaakamjjglpibaa", sum := "7ec37aac042e991fb8e6102f27a92604a8200af1eb8361850235342600b394ca", func := "verso/versolaw12.DevTwice", spec := "devTwice", apart := false, narrowed := true }
def DevTwiceUptoSaid : Prop := devTwiceUptoRow.holds Try.pinned (OpenSpec.upto devTwiceSpec)

/-- 'versolaw12.DevPlays', WHERE WHAT IT READS IS OF BULK AT MOST 1048576: true; the input reads as it did. -/
def devPlaysUptoRow : OpenClaim := { program := "ytaakamjjglpibaa", sum := "7ec37aac042e991fb8e6102f27a92604a8200af1eb8361850235342600b394ca", func := "verso/versolaw12.DevPlays", spec := "devPlays", apart := false, narrowed := true }
def DevPlaysUptoSaid : Prop := devPlaysUptoRow.holds Try.pinned (OpenSpec.upto devPlaysSpec)

/-- 'versolaw13.FlogBytes', WHERE WHAT IT READS IS OF BULK AT MOST 1048576: true; the input reads as it did. -/
def flogBytesUptoRow : OpenClaim := { program := "ytaakamjjglpibaa", sum := "7ec37aac042e991fb8e6102f27a92604a8200af1eb8361850235342600b394ca", func := "verso/versolaw13.FlogBytes", spec := "flogBytes", apart := false, narrowed := true }
def FlogBytesUptoSaid : Prop := flogBytesUptoRow.holds Try.pinned (OpenSpec.upto flogBytesSpec)

/-- 'versolaw13.FlogAgain', WHERE WHAT IT READS IS OF BULK AT MOST 1048576: true; the input reads as it did. -/
def flogAgainUptoRow : OpenClaim := { program := "ytaakamjjglpibaa", sum := "7ec37aac042e991fb8e6102f27a92604a8200af1eb8361850235342600b394ca", func := "verso/versolaw13.FlogAgain", spec := "flogAgain", apart := false, narrowed := true }
def FlogAgainUptoSaid : Prop := flogAgainUptoRow.holds Try.pinned (OpenSpec.upto flogAgainSpec)

/-- 'versolaw13.FlogLong', WHERE WHAT IT READS IS OF BULK AT MOST 1048576: true; the input reads as it did. -/
def flogLongUptoRow : OpenClaim := { program := "ytaakamjjglpibaa", sum := "7ec37aac042e991fb8e6102f27a92604a8200af1eb8361850235342600b394ca", func := "verso/versolaw13.FlogLong", spec := "flogLong", apart := false, narrowed := true }
def FlogLongUptoSaid : Prop := flogLongUptoRow.holds Try.pinned (OpenSpec.upto flogLongSpec)

/-- 'versolaw13.FlogMany', WHERE WHAT IT READS IS OF BULK AT MOST 1048576: true; the input reads as it did. -/
def flogManyUptoRow : OpenClaim := { program := "ytaakamjjglpibaa", sum := "7ec37aac042e991fb8e6102f27a92604a8200af1eb8361850235342600b394ca", func := "verso/versolaw13.FlogMany", spec := "flogMany", apart := false, narrowed := true }
def FlogManyUptoSaid : Prop := flogManyUptoRow.holds Try.pinned (OpenSpec.upto flogManySpec)

/-- 'versolaw13.FlogLasts', WHERE WHAT IT READS IS OF BULK AT MOST 1048576: true; the input reads as it did. -/
def flogLastsUptoRow : OpenClaim := { program := "ytaakamjjglpibaa", sum := "7ec37aac042e991fb8e6102f27a92604a8200af1eb8361850235342600b394ca", func := "verso/versolaw13.FlogLasts", spec := "flogLasts", apart := false, narrowed := true }
def FlogLastsUptoSaid : Prop := flogLastsUptoRow.holds Try.pinned (OpenSpec.upto flogLastsSpec)

end Rows
end Go.Proofs.Ytaakamjjglpibaa
