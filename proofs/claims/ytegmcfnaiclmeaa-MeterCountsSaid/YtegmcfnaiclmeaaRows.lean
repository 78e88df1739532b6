/-
  No cell of these rows narrows 'for every input' (looked for: loops, veiled, ifaces, maps, wideKeys, modest, calm, conditions, laid).
  DERIVED. THE GIVEN ROWS OF THIS SEAT. 3 by the template 'for every input the law returns true; each argument reads behind the call as it read before'; 0 by the template 'total and deterministic' (their statements: YtegmcfnaiclmeaaTotals.lean).
  GIVEN WITH THE SEED: the statements are not yours to turn. If you find one false, say at which input.
  Laid BY PROGRAM, IN A SANDBOX (cutbox-rows.mjs): the forced cells as the released guide's own fill.sh prints them over the translation e4abdc7a3005a5cf… (all of the seat's roots in one cut). By AI agents, Wed Nov 11 2026. No macro, syntax, notation, axiom, sorry.
-/
import Derived.Test.YtegmcfnaiclmeaaChecked
import GoSem.Claim
import GoSem.ClaimJoined
import GoSem.ClaimMapViews
import Derived.JoinedTies
import Derived.KernelRfl
namespace Go.Proofs.Ytegmcfnaiclmeaa
/- THE CELL 'sum', in the pinned program and in every row, IS THE sha256 OF THE DUMP (.gsa) THAT YtegmcfnaiclmeaaProg.lean LOADS. Nothing in Lean hashes anything: it is a label: what it is worth is what the hold of that sum in a sandbox is worth. -/
noncomputable def Try.pinned : Pinned := { name := "ytegmcfnaiclmeaa", sum := "e4abdc7a3005a5cf57c5935ac85dd85509cfe17ecdbe71ab08c6980763cc1d8f", checked := Try.checked }
namespace Rows
def none {H : Type} : Left H := { results := [], args := [] }

/-- 'brushwoodlaw09.MeterBounds': WHATEVER THE INPUT: true; the input reads as it did. -/
def meterBoundsSpec : ChangeSpec := { name := "meterBounds", fn := fun _ => fun
  | [d1, d2] => { results := [.lit (.bool true)], args := [d1, d2] }
  | _ => none }
def meterBoundsRow : OpenClaim := { program := "ytegmcfnaiclmeaa", sum := "e4abdc7a3005a5cf57c5935ac85dd85509cfe17ecdbe71ab08c6980763cc1d8f", func := "brushwood/brushwoodlaw09.MeterBounds", spec := "meterBounds", apart := false }
def MeterBoundsSaid : Prop := meterBoundsRow.holds Try.pinned (OpenSpec.ofChange meterBoundsSpec)

/-- ITS FALSE NEIGHBOUR: 'it returns false'. Refute it at one input. -/
def meterBoundsWrong : ChangeSpec := { name := "meterBounds", fn := fun _ => fun
  | [d1, d2] => { results := [.lit (.bool false)], args := [d1, d2] }
  | _ => none }
def MeterBoundsWrongFalsely : Prop := meterBoundsRow.holds Try.pinned (OpenSpec.ofChange meterBoundsWrong)

/-- 'brushwoodlaw09.MeterWithin': WHATEVER THE INPUT: true; the input reads as it did. -/
def meterWithinSpec : ChangeSpec := { name := "meterWithin", fn := fun _ => fun
  | [d1, d2] => { results := [.lit (.bool true)], args := [d1, d2] }
  | _ => none }
def meterWithinRow : OpenClaim := { program := "ytegmcfnaiclmeaa", sum := "e4abdc7a3005a5cf57c5935ac85dd85509cfe17ecdbe71ab08c6980763cc1d8f", func := "brushwood/brushwoodlaw09.MeterWithin", spec := "meterWithin", apart := false }
def MeterWithinSaid : Prop := meterWithinRow.holds Try.pinned (OpenSpec.ofChange meterWithinSpec)

/-- ITS FALSE NEIGHBOUR: 'it returns false'. Refute it at one input. -/
def meterWithinWrong : ChangeSpec := { name := "meterWithin", fn := fun _ => fun
  | [d1, d2] => { results := [.lit (.bool false)], args := [d1, d2] }
  | _ => none }
def MeterWithinWrongFalsely : Prop := meterWithinRow.holds Try.pinned (OpenSpec.ofChange meterWithinWrong)

/-- 'brushwoodlaw09.MeterCounts': WHATEVER THE INPUT: true; the input reads as it did. -/
def meterCountsSpec : ChangeSpec := { name := "meterCounts", fn := fun _ => fun
  | [d1, d2] => { results := [.lit (.bool true)], args := [d1, d2] }
  | _ => none }
def meterCountsRow : OpenClaim := { program := "ytegmcfnaiclmeaa", sum := "e4abdc7a3005a5cf57c5935ac85dd85509cfe17ecdbe71ab08c6980763cc1d8f", func := "brushwood/brushwoodlaw09.MeterCounts", spec := "meterCounts", inPlace := ["internal/bytealg.Compare"], apart := false }
def MeterCountsSaid : Prop := meterCountsRow.holds Try.pinned (OpenSpec.ofChange meterCountsSpec)

/-- ITS FALSE NEIGHBOUR: 'it returns false'. Refute it at one input. -/
def meterCountsWrong : ChangeSpec := { name := "meterCounts", fn := fun _ => fun
  | [d1, d2] => { results := [.lit (.bool false)], args := [d1, d2] }
  | _ => none }
def MeterCountsWrongFalsely : Prop := meterCountsRow.holds Try.pinned (OpenSpec.ofChange meterCountsWrong)

/- THE SECOND FORM. 'bulk': how many values and letters a reading holds, each counted each time it is reached (what is shared counts as often as it is met; a slice's spare places count too). A statement '..UptoSaid' is the law's where the arguments, and the package variables that the reading takes, are together of bulk at most 1048576: NARROWER than '..Said'. Prove '..Said' where nothing that the law and all that it calls make is longer than what came in: it says more and counts as full. Else prove '..UptoSaid'. A law counts once. -/
mutual
def uptoBulk {H : Type} : DataW H → Nat
  | .lit (.string bytes) => bytes.length + 1
  | .lit _ => 1
  | .nil => 1
  | .ptr d => uptoBulk d + 1
  | .slice elems spare => uptoBulkAll elems + uptoBulkAll spare + 1
  | .agg parts => uptoBulkAll parts + 1
  | .iface _ d => uptoBulk d + 1
  | .map entries => uptoBulkEntries entries + 1
  | .held _ => 1
def uptoBulkAll {H : Type} : List (DataW H) → Nat
  | [] => 0
  | d :: r => uptoBulk d + uptoBulkAll r
def uptoBulkEntries {H : Type} : List (Lit × DataW H) → Nat
  | [] => 0
  | x :: r => uptoBulkEntry x + uptoBulkEntries r
def uptoBulkEntry {H : Type} : Lit × DataW H → Nat
  | (.string bytes, d) => bytes.length + uptoBulk d + 1
  | (_, d) => uptoBulk d + 1
 end
def uptoSmall : (H : Type) → List (DataW H) → Bool := fun _ ds => decide (uptoBulkAll ds ≤ 1048576)
def OpenSpec.upto (s : _root_.Go.ChangeSpec) : _root_.Go.OpenSpec := { _root_.Go.OpenSpec.ofChange s with cond := some uptoSmall }

/-- 'brushwoodlaw09.MeterBounds', WHERE WHAT IT READS IS OF BULK AT MOST 1048576: true; the input reads as it did. -/
def meterBoundsUptoRow : OpenClaim := { program := "ytegmcfnaiclmeaa", sum := "e4abdc7a3005a5cf57c5935ac85dd85509cfe17ecdbe71ab08c6980763cc1d8f", func := "brushwood/brushwoodlaw09.MeterBounds", spec := "meterBounds", apart := false, narrowed := true }
def MeterBoundsUptoSaid : Prop := meterBoundsUptoRow.holds Try.pinned (OpenSpec.upto meterBoundsSpec)

/-- 'brushwoodlaw09.MeterWithin', WHERE WHAT IT READS IS OF BULK AT MOST 1048576: true; the input reads as it did. -/
def meterWithinUptoRow : OpenClaim := { program := "ytegmcfnaiclmeaa", sum := "e4abdc7a3005a5cf57c5935ac85dd85509cfe17ecdbe71ab08c6980763cc1d8f", func := "brushwood/brushwoodlaw09.MeterWithin", spec := "meterWithin", apart := false, narrowed := true }
def MeterWithinUptoSaid : Prop := meterWithinUptoRow.holds Try.pinned (OpenSpec.upto meterWithinSpec)

/-- 'brushwoodlaw09.MeterCounts', WHERE WHAT IT READS IS OF BULK AT MOST 1048576: true; the input reads as it did. -/
def meterCountsUptoRow : OpenClaim := { program := "ytegmcfnaiclmeaa", sum := "e4abdc7a3005a5cf57c5935ac85dd85509cfe17ecdbe71ab08c6980763cc1d8f", func := "brushwood/brushwoodlaw09.MeterCounts", spec := "meterCounts", inPlace := ["internal/bytealg.Compare"], apart := false, narrowed := true }
def MeterCountsUptoSaid : Prop := meterCountsUptoRow.holds Try.pinned (OpenSpec.upto meterCountsSpec)

end Rows
end Go.Proofs.Ytegmcfnaiclmeaa
