/-
  No cell of these rows narrows 'for every input' (looked for: loops, veiled, ifaces, maps, wideKeys, modest, calm, conditions, laid).
  DERIVED. THE GIVEN ROWS OF THIS SEAT. 5 by the template 'for every input the law returns true; each argument reads behind the call as it read before'; 0 by the template 'total and deterministic' (their statements: YtnbjnioolcbmiaaTotals.lean).
  GIVEN WITH THE SEED: the statements are not yours to turn. If you find one false, say at which input.
  Laid BY PROGRAM, IN A SANDBOX (cutbox-rows.mjs): the forced cells as the released guide's own fill.sh prints them over the translation c2c7dfd753e1fc06… (all of the seat's roots in one cut). By AI agents, Wed Nov 11 2026. No macro, syntax, notation, axiom, sorry.
-/
import Derived.Test.YtnbjnioolcbmiaaChecked
import GoSem.Claim
import GoSem.ClaimJoined
import GoSem.ClaimMapViews
import Derived.JoinedTies
import Derived.KernelRfl
namespace Go.Proofs.Ytnbjnioolcbmiaa
/- THE CELL 'sum', in the pinned program and in every row, IS THE sha256 OF THE DUMP (.gsa) THAT YtnbjnioolcbmiaaProg.lean LOADS. Nothing in Lean hashes anything: it is a label: what it is worth is what the hold of that sum in a sandbox is worth. -/
noncomputable def Try.pinned : Pinned := { name := "ytnbjnioolcbmiaa", sum := "c2c7dfd753e1fc06979042a3bb9f5b3d7b3452d4feb4c8a4374be6924453f020", checked := Try.checked }
namespace Rows
def none {H : Type} : Left H := { results := [], args := [] }

/-- 'brushwoodlaw03.KeysOrder': WHATEVER THE INPUT: true; the input reads as it did. -/
def keysOrderSpec : ChangeSpec := { name := "keysOrder", fn := fun _ => fun
  | [d1, d2, d3] => { results := [.lit (.bool true)], args := [d1, d2, d3] }
  | _ => none }
def keysOrderRow : OpenClaim := { program := "ytnbjnioolcbmiaa", sum := "c2c7dfd753e1fc06979042a3bb9f5b3d7b3452d4feb4c8a4374be6924453f020", func := "brushwood/brushwoodlaw03.KeysOrder", spec := "keysOrder", inPlace := ["internal/bytealg.Compare"], apart := false }
def KeysOrderSaid : Prop := keysOrderRow.holds Try.pinned (OpenSpec.ofChange keysOrderSpec)

/-- ITS FALSE NEIGHBOUR: 'it returns false'. Refute it at one input. -/
def keysOrderWrong : ChangeSpec := { name := "keysOrder", fn := fun _ => fun
  | [d1, d2, d3] => { results := [.lit (.bool false)], args := [d1, d2, d3] }
  | _ => none }
def KeysOrderWrongFalsely : Prop := keysOrderRow.holds Try.pinned (OpenSpec.ofChange keysOrderWrong)

/-- 'brushwoodlaw03.KeysNext': WHATEVER THE INPUT: true; the input reads as it did. -/
def keysNextSpec : ChangeSpec := { name := "keysNext", fn := fun _ => fun
  | [d1, d2] => { results := [.lit (.bool true)], args := [d1, d2] }
  | _ => none }
def keysNextRow : OpenClaim := { program := "ytnbjnioolcbmiaa", sum := "c2c7dfd753e1fc06979042a3bb9f5b3d7b3452d4feb4c8a4374be6924453f020", func := "brushwood/brushwoodlaw03.KeysNext", spec := "keysNext", inPlace := ["internal/bytealg.Compare"], apart := false }
def KeysNextSaid : Prop := keysNextRow.holds Try.pinned (OpenSpec.ofChange keysNextSpec)

/-- ITS FALSE NEIGHBOUR: 'it returns false'. Refute it at one input. -/
def keysNextWrong : ChangeSpec := { name := "keysNext", fn := fun _ => fun
  | [d1, d2] => { results := [.lit (.bool false)], args := [d1, d2] }
  | _ => none }
def KeysNextWrongFalsely : Prop := keysNextRow.holds Try.pinned (OpenSpec.ofChange keysNextWrong)

/-- 'brushwoodlaw03.KeysCompare': WHATEVER THE INPUT: true; the input reads as it did. -/
def keysCompareSpec : ChangeSpec := { name := "keysCompare", fn := fun _ => fun
  | [d1, d2] => { results := [.lit (.bool true)], args := [d1, d2] }
  | _ => none }
def keysCompareRow : OpenClaim := { program := "ytnbjnioolcbmiaa", sum := "c2c7dfd753e1fc06979042a3bb9f5b3d7b3452d4feb4c8a4374be6924453f020", func := "brushwood/brushwoodlaw03.KeysCompare", spec := "keysCompare", inPlace := ["internal/bytealg.Compare"], apart := false }
def KeysCompareSaid : Prop := keysCompareRow.holds Try.pinned (OpenSpec.ofChange keysCompareSpec)

/-- ITS FALSE NEIGHBOUR: 'it returns false'. Refute it at one input. -/
def keysCompareWrong : ChangeSpec := { name := "keysCompare", fn := fun _ => fun
  | [d1, d2] => { results := [.lit (.bool false)], args := [d1, d2] }
  | _ => none }
def KeysCompareWrongFalsely : Prop := keysCompareRow.holds Try.pinned (OpenSpec.ofChange keysCompareWrong)

/-- 'brushwoodlaw03.KeysBehind': WHATEVER THE INPUT: true; the input reads as it did. -/
def keysBehindSpec : ChangeSpec := { name := "keysBehind", fn := fun _ => fun
  | [d1, d2] => { results := [.lit (.bool true)], args := [d1, d2] }
  | _ => none }
def keysBehindRow : OpenClaim := { program := "ytnbjnioolcbmiaa", sum := "c2c7dfd753e1fc06979042a3bb9f5b3d7b3452d4feb4c8a4374be6924453f020", func := "brushwood/brushwoodlaw03.KeysBehind", spec := "keysBehind", inPlace := ["internal/bytealg.Compare"], apart := false }
def KeysBehindSaid : Prop := keysBehindRow.holds Try.pinned (OpenSpec.ofChange keysBehindSpec)

/-- ITS FALSE NEIGHBOUR: 'it returns false'. Refute it at one input. -/
def keysBehindWrong : ChangeSpec := { name := "keysBehind", fn := fun _ => fun
  | [d1, d2] => { results := [.lit (.bool false)], args := [d1, d2] }
  | _ => none }
def KeysBehindWrongFalsely : Prop := keysBehindRow.holds Try.pinned (OpenSpec.ofChange keysBehindWrong)

/-- 'brushwoodlaw03.KeysSpans': WHATEVER THE INPUT: true; the input reads as it did. -/
def keysSpansSpec : ChangeSpec := { name := "keysSpans", fn := fun _ => fun
  | [d1, d2, d3] => { results := [.lit (.bool true)], args := [d1, d2, d3] }
  | _ => none }
def keysSpansRow : OpenClaim := { program := "ytnbjnioolcbmiaa", sum := "c2c7dfd753e1fc06979042a3bb9f5b3d7b3452d4feb4c8a4374be6924453f020", func := "brushwood/brushwoodlaw03.KeysSpans", spec := "keysSpans", inPlace := ["internal/bytealg.Compare"], apart := false }
def KeysSpansSaid : Prop := keysSpansRow.holds Try.pinned (OpenSpec.ofChange keysSpansSpec)

/-- ITS FALSE NEIGHBOUR: 'it returns false'. Refute it at one input. -/
def keysSpansWrong : ChangeSpec := { name := "keysSpans", fn := fun _ => fun
  | [d1, d2, d3] => { results := [.lit (.bool false)], args := [d1, d2, d3] }
  | _ => none }
def KeysSpansWrongFalsely : Prop := keysSpansRow.holds Try.pinned (OpenSpec.ofChange keysSpansWrong)

/- THE SECOND FORM. 'bulk': how many values and letters a reading holds, each counted each time it is reached (what is shared counts as often as it is met; a slice's spare places count too). A statement '..UptoSaid' is the law's where the arguments, and the package variables that the reading takes, are together of bulk at most 1048576: NARROWER than '..Said'. Prove '..Said' where nothing that the law and all that it calls make is longer than what came in: it says more and counts as full. Else prove '..UptoSaid'. A law counts once. -/
mutual
def uptoBulk {H : Type} : DataW H → Nat
  | .lit (.string bytes) => bytes.length + 1
  | .lit _ => 1
  | .nil => 1
  | .ptr d => uptoBulk d + 1
  | .slice elems spare => uptoBulkAll elems + uptoBulkAll spare + 1
  | .agg parts => uptoBulkAll parts + 1
  | .iface _ d => uptoBulk d + 1
  | .map entries => uptoBulkEntries entries + 1
  | .held _ => 1
def uptoBulkAll {H : Type} : List (DataW H) → Nat
  | [] => 0
  | d :: r => uptoBulk d + uptoBulkAll r
def uptoBulkEntries {H : Type} : List (Lit × DataW H) → Nat
  | [] => 0
  | x :: r => uptoBulkEntry x + uptoBulkEntries r
def uptoBulkEntry {H : Type} : Lit × DataW H → Nat
  | (.string bytes, d) => bytes.length + uptoBulk d + 1
  | (_, d) => uptoBulk d + 1
 end
def uptoSmall : (H : Type) → List (DataW H) → Bool := fun _ ds => decide (uptoBulkAll ds ≤ 1048576)
def OpenSpec.upto (s : _root_.Go.ChangeSpec) : _root_.Go.OpenSpec := { _root_.Go.OpenSpec.ofChange s with cond := some uptoSmall }

/-- 'brushwoodlaw03.KeysOrder', WHERE WHAT IT READS IS OF BULK AT MOST 1048576: true; the input reads as it did. -/
def keysOrderUptoRow : OpenClaim := { program := "ytnbjnioolcbmiaa", sum := "c2c7dfd753e1fc06979042a3bb9f5b3d7b3452d4feb4c8a4374be6924453f020", func := "brushwood/brushwoodlaw03.KeysOrder", spec := "keysOrder", inPlace := ["internal/bytealg.Compare"], apart := false, narrowed := true }
def KeysOrderUptoSaid : Prop := keysOrderUptoRow.holds Try.pinned (OpenSpec.upto keysOrderSpec)

/-- 'brushwoodlaw03.KeysNext', WHERE WHAT IT READS IS OF BULK AT MOST 1048576: true; the input reads as it did. -/
def keysNextUptoRow : OpenClaim := { program := "ytnbjnioolcbmiaa", sum := "c2c7dfd753e1fc06979042a3bb9f5b3d7b3452d4feb4c8a4374be6924453f020", func := "brushwood/brushwoodlaw03.KeysNext", spec := "keysNext", inPlace := ["internal/bytealg.Compare"], apart := false, narrowed := true }
def KeysNextUptoSaid : Prop := keysNextUptoRow.holds Try.pinned (OpenSpec.upto keysNextSpec)

/-- 'brushwoodlaw03.KeysCompare', WHERE WHAT IT READS IS OF BULK AT MOST 1048576: true; the input reads as it did. -/
def keysCompareUptoRow : OpenClaim := { program := "ytnbjnioolcbmiaa", sum := "c2c7dfd753e1fc06979042a3bb9f5b3d7b3452d4feb4c8a4374be6924453f020", func := "brushwood/brushwoodlaw03.KeysCompare", spec := "keysCompare", inPlace := ["internal/bytealg.Compare"], apart := false, narrowed := true }
def KeysCompareUptoSaid : Prop := keysCompareUptoRow.holds Try.pinned (OpenSpec.upto keysCompareSpec)

/-- 'brushwoodlaw03.KeysBehind', WHERE WHAT IT READS IS OF BULK AT MOST 1048576: true; the input reads as it did. -/
def keysBehindUptoRow : OpenClaim := { program := "ytnbjnioolcbmiaa", sum := "c2c7dfd753e1fc06979042a3bb9f5b3d7b3452d4feb4c8a4374be6924453f020", func := "brushwood/brushwoodlaw03.KeysBehind", spec := "keysBehind", inPlace := ["internal/bytealg.Compare"], apart := false, narrowed := true }
def KeysBehindUptoSaid : Prop := keysBehindUptoRow.holds Try.pinned (OpenSpec.upto keysBehindSpec)

/-- 'brushwoodlaw03.KeysSpans', WHERE WHAT IT READS IS OF BULK AT MOST 1048576: true; the input reads as it did. -/
def keysSpansUptoRow : OpenClaim := { program := "ytnbjnioolcbmiaa", sum := "c2c7dfd753e1fc06979042a3bb9f5b3d7b3452d4feb4c8a4374be6924453f020", func := "brushwood/brushwoodlaw03.KeysSpans", spec := "keysSpans", inPlace := ["internal/bytealg.Compare"], apart := false, narrowed := true }
def KeysSpansUptoSaid : Prop := keysSpansUptoRow.holds Try.pinned (OpenSpec.upto keysSpansSpec)

end Rows
end Go.Proofs.Ytnbjnioolcbmiaa
