/-
  No cell of these rows narrows 'for every input' (looked for: loops, veiled, ifaces, maps, wideKeys, modest, calm, conditions, laid).
  DERIVED. THE GIVEN ROWS OF THIS SEAT. 3 by the template 'for every input the law returns true; each argument reads behind the call as it read before'; 0 by the template 'total and deterministic' (their statements: YtkcijbljgcgdmaaTotals.lean).
  GIVEN WITH THE SEED: the statements are not yours to turn. If you find one false, say at which input.
  Laid BY PROGRAM, IN A SANDBOX (cutbox-rows.mjs): the forced cells as the released guide's own fill.sh prints them over the translation bb82b7362517c12f… (all of the seat's roots in one cut). By AI agents, Wed Nov 11 2026. No macro, syntax, notation, axiom, sorry.
-/
import Derived.Test.YtkcijbljgcgdmaaChecked
import GoSem.Claim
import GoSem.ClaimJoined
import GoSem.ClaimMapViews
import Derived.JoinedTies
import Derived.KernelRfl
namespace Go.Proofs.Ytkcijbljgcgdmaa
/- THE CELL 'sum', in the pinned program and in every row, IS THE sha256 OF THE DUMP (.gsa) THAT YtkcijbljgcgdmaaProg.lean LOADS. Nothing in Lean hashes anything: it is a label: what it is worth is what the hold of that sum in a sandbox is worth. -/
noncomputable def Try.pinned : Pinned := { name := "ytkcijbljgcgdmaa", sum := "bb82b7362517c12fe07b2f5c6796fab531c2b038bee830b4f28c99193a4fbc79", checked := Try.checked }
namespace Rows
def none {H : Type} : Left H := { results := [], args := [] }

/-- 'brushwoodlaw08.DrawsPlays': WHATEVER THE INPUT: true; the input reads as it did. -/
def drawsPlaysSpec : ChangeSpec := { name := "drawsPlays", fn := fun _ => fun
  | [d1, d2] => { results := [.lit (.bool true)], args := [d1, d2] }
  | _ => none }
def drawsPlaysRow : OpenClaim := { program := "ytkcijbljgcgdmaa", sum := "bb82b7362517c12fe07b2f5c6796fab531c2b038bee830b4f28c99193a4fbc79", func := "brushwood/brushwoodlaw08.DrawsPlays", spec := "drawsPlays", apart := false }
def DrawsPlaysSaid : Prop := drawsPlaysRow.holds Try.pinned (OpenSpec.ofChange drawsPlaysSpec)

/-- ITS FALSE NEIGHBOUR: 'it returns false'. Refute it at one input. -/
def drawsPlaysWrong : ChangeSpec := { name := "drawsPlays", fn := fun _ => fun
  | [d1, d2] => { results := [.lit (.bool false)], args := [d1, d2] }
  | _ => none }
def DrawsPlaysWrongFalsely : Prop := drawsPlaysRow.holds Try.pinned (OpenSpec.ofChange drawsPlaysWrong)

/-- 'brushwoodlaw08.DrawsParts': WHATEVER THE INPUT: true; the input reads as it did. -/
def drawsPartsSpec : ChangeSpec := { name := "drawsParts", fn := fun _ => fun
  | [d] => { results := [.lit (.bool true)], args := [d] }
  | _ => none }
def drawsPartsRow : OpenClaim := { program := "ytkcijbljgcgdmaa", sum := "bb82b7362517c12fe07b2f5c6796fab531c2b038bee830b4f28c99193a4fbc79", func := "brushwood/brushwoodlaw08.DrawsParts", spec := "drawsParts", apart := false }
def DrawsPartsSaid : Prop := drawsPartsRow.holds Try.pinned (OpenSpec.ofChange drawsPartsSpec)

/-- ITS FALSE NEIGHBOUR: 'it returns false'. Refute it at one input. -/
def drawsPartsWrong : ChangeSpec := { name := "drawsParts", fn := fun _ => fun
  | [d] => { results := [.lit (.bool false)], args := [d] }
  | _ => none }
def DrawsPartsWrongFalsely : Prop := drawsPartsRow.holds Try.pinned (OpenSpec.ofChange drawsPartsWrong)

/-- 'brushwoodlaw08.DrawsFull': WHATEVER THE INPUT: true; the input reads as it did. -/
def drawsFullSpec : ChangeSpec := { name := "drawsFull", fn := fun _ => fun
  | [d1, d2] => { results := [.lit (.bool true)], args := [d1, d2] }
  | _ => none }
def drawsFullRow : OpenClaim := { program := "ytkcijbljgcgdmaa", sum := "bb82b7362517c12fe07b2f5c6796fab531c2b038bee830b4f28c99193a4fbc79", func := "brushwood/brushwoodlaw08.DrawsFull", spec := "drawsFull", apart := false }
def DrawsFullSaid : Prop := drawsFullRow.holds Try.pinned (OpenSpec.ofChange drawsFullSpec)

/-- ITS FALSE NEIGHBOUR: 'it returns false'. Refute it at one input. -/
def drawsFullWrong : ChangeSpec := { name := "drawsFull", fn := fun _ => fun
  | [d1, d2] => { results := [.lit (.bool false)], args := [d1, d2] }
  | _ => none }
def DrawsFullWrongFalsely : Prop := drawsFullRow.holds Try.pinned (OpenSpec.ofChange drawsFullWrong)

/- THE SECOND FORM. 'bulk': how many values and letters a reading holds, each counted each time it is reached (what is shared counts as often as it is met; a slice's spare places count too). A statement '..UptoSaid' is the law's where the arguments, and the package variables that the reading takes, are together of bulk at most 1048576: NARROWER than '..Said'. Prove '..Said' where nothing that the law and all that it calls make is longer than what came in: it says more and counts as full. Else prove '..UptoSaid'. A law counts once. -/
mutual
def uptoBulk {H : Type} : DataW H → Nat
  | .lit (.string bytes) => bytes.length + 1
  | .lit _ => 1
  | .nil => 1
  | .ptr d => uptoBulk d + 1
  | .slice elems spare => uptoBulkAll elems + uptoBulkAll spare + 1
  | .agg parts => uptoBulkAll parts + 1
  | .iface _ d => uptoBulk d + 1
  | .map entries => uptoBulkEntries entries + 1
  | .held _ => 1
def uptoBulkAll {H : Type} : List (DataW H) → Nat
  | [] => 0
  | d :: r => uptoBulk d + uptoBulkAll r
def uptoBulkEntries {H : Type} : List (Lit × DataW H) → Nat
  | [] => 0
  | x :: r => uptoBulkEntry x + uptoBulkEntries r
def uptoBulkEntry {H : Type} : Lit × DataW H → Nat
  | (.string bytes, d) => bytes.length + uptoBulk d + 1
  | (_, d) => uptoBulk d + 1
 end
def uptoSmall : (H : Type) → List (DataW H) → Bool := fun _ ds => decide (uptoBulkAll ds ≤ 1048576)
def OpenSpec.upto (s : _root_.Go.ChangeSpec) : _root_.Go.OpenSpec := { _root_.Go.OpenSpec.ofChange s with cond := some uptoSmall }

/-- 'brushwoodlaw08.DrawsPlays', WHERE WHAT IT READS IS OF BULK AT MOST 1048576: true; the input reads as it did. -/
def drawsPlaysUptoRow : OpenClaim := { program := "ytkcijbljgcgdmaa", sum := "bb82b7362517c12fe07b2f5c6796fab531c2b038bee830b4f28c99193a4fbc79", func := "brushwood/brushwoodlaw08.DrawsPlays", spec := "drawsPlays", apart := false, narrowed := true }
def DrawsPlaysUptoSaid : Prop := drawsPlaysUptoRow.holds Try.pinned (OpenSpec.upto drawsPlaysSpec)

/-- 'brushwoodlaw08.DrawsParts', WHERE WHAT IT READS IS OF BULK AT MOST 1048576: true; the input reads as it did. -/
def drawsPartsUptoRow : OpenClaim := { program := "ytkcijbljgcgdmaa", sum := "bb82b7362517c12fe07b2f5c6796fab531c2b038bee830b4f28c99193a4fbc79", func := "brushwood/brushwoodlaw08.DrawsParts", spec := "drawsParts", apart := false, narrowed := true }
def DrawsPartsUptoSaid : Prop := drawsPartsUptoRow.holds Try.pinned (OpenSpec.upto drawsPartsSpec)

/-- 'brushwoodlaw08.DrawsFull', WHERE WHAT IT READS IS OF BULK AT MOST 1048576: true; the input reads as it did. -/
def drawsFullUptoRow : OpenClaim := { program := "ytkcijbljgcgdmaa", sum := "bb82b7362517c12fe07b2f5c6796fab531c2b038bee830b4f28c99193a4fbc79", func := "brushwood/brushwoodlaw08.DrawsFull", spec := "drawsFull", apart := false, narrowed := true }
def DrawsFullUptoSaid : Prop := drawsFullUptoRow.holds Try.pinned (OpenSpec.upto drawsFullSpec)

end Rows
end Go.Proofs.Ytkcijbljgcgdmaa
