/-
  NARROWER THAN 'FOR EVERY INPUT', by the rows' own cells (each row's printed sentence says how): QuotePlain: laid · QuoteApart: laid · QuoteCounts: laid · QuotePrints: laid · QuoteParses: laid · QuoteFinds: laid.
  DERIVED. THE GIVEN ROWS OF THIS SEAT. 6 by the template 'for every input the law returns true; each argument reads behind the call as it read before'; 0 by the template 'total and deterministic' (their statements: YtgbdoccgdkifjaaDoorTotals.lean).
  GIVEN WITH THE SEED: the statements are not yours to turn. If you find one false, say at which input.
  Laid BY PROGRAM, IN A SANDBOX (cutbox-rows.mjs): the forced cells as the released guide's own fill.sh prints them over the translation 6ee7457ccbc35a6a… (all of the seat's roots in one cut). By AI agents, Wed Nov 11 2026. No macro, syntax, notation, axiom, sorry.
-/
import Derived.Test.YtgbdoccgdkifjaaDoorChecked
import GoSem.PinnedTables
import GoSem.Claim
import GoSem.ClaimJoined
import GoSem.ClaimMapViews
import Derived.JoinedTies
import Derived.KernelRfl
namespace Go.Proofs.YtgbdoccgdkifjaaDoor
/- THE CELL 'sum', in the pinned program and in every row, IS THE sha256 OF THE DUMP (.gsa) THAT YtgbdoccgdkifjaaDoorProg.lean LOADS. Nothing in Lean hashes anything: it is a label: what it is worth is what the hold of that sum in a sandbox is worth. -/
noncomputable def Tryd.pinned : Pinned := { name := "ytgbdoccgdkifjaadoor", sum := "6ee7457ccbc35a6ace25b6689b1b92d583c0310c9d00467c8be68b5b004d0f5f", checked := Tryd.checked }
namespace Rows
def none {H : Type} : Left H := { results := [], args := [] }

/- WHAT THE LISTED PACKAGE-LEVEL VARIABLES READ AS WHEN THE CALL BEGINS. Each datum BY PROGRAM (the guide's laid-datum.mjs) off the statement by which the dump's own 'gosem.cut.vars' lays the variable. In a bare row this is a premise. The card (YtgbdoccgdkifjaaDoorCards.lean) ties it to the program's text. -/
def laid_unicode_utf8_acceptRanges {H : Type} : DataW H := .agg [.agg [.lit (.int .u8 128), .lit (.int .u8 191)], .agg [.lit (.int .u8 160), .lit (.int .u8 191)], .agg [.lit (.int .u8 128), .lit (.int .u8 159)], .agg [.lit (.int .u8 144), .lit (.int .u8 191)], .agg [.lit (.int .u8 128), .lit (.int .u8 143)], .agg [.lit (.int .u8 0), .lit (.int .u8 0)], .agg [.lit (.int .u8 0), .lit (.int .u8 0)], .agg [.lit (.int .u8 0), .lit (.int .u8 0)], .agg [.lit (.int .u8 0), .lit (.int .u8 0)], .agg [.lit (.int .u8 0), .lit (.int .u8 0)], .agg [.lit (.int .u8 0), .lit (.int .u8 0)], .agg [.lit (.int .u8 0), .lit (.int .u8 0)], .agg [.lit (.int .u8 0), .lit (.int .u8 0)], .agg [.lit (.int .u8 0), .lit (.int .u8 0)], .agg [.lit (.int .u8 0), .lit (.int .u8 0)], .agg [.lit (.int .u8 0), .lit (.int .u8 0)]]
/-- One of Go's own tables, pinned by name: the form's constant. -/
def laid_unicode_utf8_first : DataW Unit := Go.Pinned.utf8First

/-- 'brushwoodlaw02.QuotePlain': WHATEVER THE INPUT: true; the input reads as it did. -/
def quotePlainSpec : ChangeSpec := { name := "quotePlain", fn := fun _ => fun
  | [d] => { results := [.lit (.bool true)], args := [d] }
  | _ => none }
def quotePlainRow : OpenClaim := { program := "ytgbdoccgdkifjaadoor", sum := "6ee7457ccbc35a6ace25b6689b1b92d583c0310c9d00467c8be68b5b004d0f5f", func := "brushwood/brushwoodlaw02.QuotePlain", spec := "quotePlain", inPlace := ["internal/abi.NoEscape"], named := ["unicode/utf8.first", "unicode/utf8.acceptRanges"], apart := false, laid := [("unicode/utf8.acceptRanges", laid_unicode_utf8_acceptRanges), ("unicode/utf8.first", laid_unicode_utf8_first)] }
def QuotePlainSaid : Prop := quotePlainRow.holds Tryd.pinned (OpenSpec.ofChange quotePlainSpec)

/-- ITS FALSE NEIGHBOUR: 'it returns false'. Refute it at one input. -/
def quotePlainWrong : ChangeSpec := { name := "quotePlain", fn := fun _ => fun
  | [d] => { results := [.lit (.bool false)], args := [d] }
  | _ => none }
def QuotePlainWrongFalsely : Prop := quotePlainRow.holds Tryd.pinned (OpenSpec.ofChange quotePlainWrong)

/-- 'brushwoodlaw02.QuoteApart': WHATEVER THE INPUT: true; the input reads as it did. -/
def quoteApartSpec : ChangeSpec := { name := "quoteApart", fn := fun _ => fun
  | [d1, d2] => { results := [.lit (.bool true)], args := [d1, d2] }
  | _ => none }
def quoteApartRow : OpenClaim := { program := "ytgbdoccgdkifjaadoor", sum := "6ee7457ccbc35a6ace25b6689b1b92d583c0310c9d00467c8be68b5b004d0f5f", func := "brushwood/brushwoodlaw02.QuoteApart", spec := "quoteApart", inPlace := ["internal/abi.NoEscape"], named := ["unicode/utf8.first", "unicode/utf8.acceptRanges"], apart := false, laid := [("unicode/utf8.acceptRanges", laid_unicode_utf8_acceptRanges), ("unicode/utf8.first", laid_unicode_utf8_first)] }
def QuoteApartSaid : Prop := quoteApartRow.holds Tryd.pinned (OpenSpec.ofChange quoteApartSpec)

/-- ITS FALSE NEIGHBOUR: 'it returns false'. Refute it at one input. -/
def quoteApartWrong : ChangeSpec := { name := "quoteApart", fn := fun _ => fun
  | [d1, d2] => { results := [.lit (.bool false)], args := [d1, d2] }
  | _ => none }
def QuoteApartWrongFalsely : Prop := quoteApartRow.holds Tryd.pinned (OpenSpec.ofChange quoteApartWrong)

/-- 'brushwoodlaw02.QuoteCounts': WHATEVER THE INPUT: true; the input reads as it did. -/
def quoteCountsSpec : ChangeSpec := { name := "quoteCounts", fn := fun _ => fun
  | [d] => { results := [.lit (.bool true)], args := [d] }
  | _ => none }
def quoteCountsRow : OpenClaim := { program := "ytgbdoccgdkifjaadoor", sum := "6ee7457ccbc35a6ace25b6689b1b92d583c0310c9d00467c8be68b5b004d0f5f", func := "brushwood/brushwoodlaw02.QuoteCounts", spec := "quoteCounts", inPlace := ["internal/abi.NoEscape"], named := ["unicode/utf8.first", "unicode/utf8.acceptRanges"], apart := false, laid := [("unicode/utf8.acceptRanges", laid_unicode_utf8_acceptRanges), ("unicode/utf8.first", laid_unicode_utf8_first)] }
def QuoteCountsSaid : Prop := quoteCountsRow.holds Tryd.pinned (OpenSpec.ofChange quoteCountsSpec)

/-- ITS FALSE NEIGHBOUR: 'it returns false'. Refute it at one input. -/
def quoteCountsWrong : ChangeSpec := { name := "quoteCounts", fn := fun _ => fun
  | [d] => { results := [.lit (.bool false)], args := [d] }
  | _ => none }
def QuoteCountsWrongFalsely : Prop := quoteCountsRow.holds Tryd.pinned (OpenSpec.ofChange quoteCountsWrong)

/-- 'brushwoodlaw02.QuotePrints': WHATEVER THE INPUT: true; the input reads as it did. -/
def quotePrintsSpec : ChangeSpec := { name := "quotePrints", fn := fun _ => fun
  | [d] => { results := [.lit (.bool true)], args := [d] }
  | _ => none }
def quotePrintsRow : OpenClaim := { program := "ytgbdoccgdkifjaadoor", sum := "6ee7457ccbc35a6ace25b6689b1b92d583c0310c9d00467c8be68b5b004d0f5f", func := "brushwood/brushwoodlaw02.QuotePrints", spec := "quotePrints", inPlace := ["internal/abi.NoEscape", "internal/bytealg.IndexByteString"], named := ["unicode/utf8.first", "unicode/utf8.acceptRanges"], apart := false, laid := [("unicode/utf8.acceptRanges", laid_unicode_utf8_acceptRanges), ("unicode/utf8.first", laid_unicode_utf8_first)] }
def QuotePrintsSaid : Prop := quotePrintsRow.holds Tryd.pinned (OpenSpec.ofChange quotePrintsSpec)

/-- ITS FALSE NEIGHBOUR: 'it returns false'. Refute it at one input. -/
def quotePrintsWrong : ChangeSpec := { name := "quotePrints", fn := fun _ => fun
  | [d] => { results := [.lit (.bool false)], args := [d] }
  | _ => none }
def QuotePrintsWrongFalsely : Prop := quotePrintsRow.holds Tryd.pinned (OpenSpec.ofChange quotePrintsWrong)

/-- 'brushwoodlaw02.QuoteParses': WHATEVER THE INPUT: true; the input reads as it did. -/
def quoteParsesSpec : ChangeSpec := { name := "quoteParses", fn := fun _ => fun
  | [d] => { results := [.lit (.bool true)], args := [d] }
  | _ => none }
def quoteParsesRow : OpenClaim := { program := "ytgbdoccgdkifjaadoor", sum := "6ee7457ccbc35a6ace25b6689b1b92d583c0310c9d00467c8be68b5b004d0f5f", func := "brushwood/brushwoodlaw02.QuoteParses", spec := "quoteParses", inPlace := ["internal/abi.NoEscape", "internal/bytealg.IndexByteString"], named := ["unicode/utf8.first", "unicode/utf8.acceptRanges"], apart := false, laid := [("unicode/utf8.acceptRanges", laid_unicode_utf8_acceptRanges), ("unicode/utf8.first", laid_unicode_utf8_first)] }
def QuoteParsesSaid : Prop := quoteParsesRow.holds Tryd.pinned (OpenSpec.ofChange quoteParsesSpec)

/-- ITS FALSE NEIGHBOUR: 'it returns false'. Refute it at one input. -/
def quoteParsesWrong : ChangeSpec := { name := "quoteParses", fn := fun _ => fun
  | [d] => { results := [.lit (.bool false)], args := [d] }
  | _ => none }
def QuoteParsesWrongFalsely : Prop := quoteParsesRow.holds Tryd.pinned (OpenSpec.ofChange quoteParsesWrong)

/-- 'brushwoodlaw02.QuoteFinds': WHATEVER THE INPUT: true; the input reads as it did. -/
def quoteFindsSpec : ChangeSpec := { name := "quoteFinds", fn := fun _ => fun
  | [d1, d2] => { results := [.lit (.bool true)], args := [d1, d2] }
  | _ => none }
def quoteFindsRow : OpenClaim := { program := "ytgbdoccgdkifjaadoor", sum := "6ee7457ccbc35a6ace25b6689b1b92d583c0310c9d00467c8be68b5b004d0f5f", func := "brushwood/brushwoodlaw02.QuoteFinds", spec := "quoteFinds", inPlace := ["internal/abi.NoEscape", "internal/bytealg.IndexByteString"], named := ["unicode/utf8.first", "unicode/utf8.acceptRanges"], apart := false, laid := [("unicode/utf8.acceptRanges", laid_unicode_utf8_acceptRanges), ("unicode/utf8.first", laid_unicode_utf8_first)] }
def QuoteFindsSaid : Prop := quoteFindsRow.holds Tryd.pinned (OpenSpec.ofChange quoteFindsSpec)

/-- ITS FALSE NEIGHBOUR: 'it returns false'. Refute it at one input. -/
def quoteFindsWrong : ChangeSpec := { name := "quoteFinds", fn := fun _ => fun
  | [d1, d2] => { results := [.lit (.bool false)], args := [d1, d2] }
  | _ => none }
def QuoteFindsWrongFalsely : Prop := quoteFindsRow.holds Tryd.pinned (OpenSpec.ofChange quoteFindsWrong)

/- THE SECOND FORM. 'bulk': how many values and letters a reading holds, each counted each time it is reached (what is shared counts as often as it is met; a slice's spare places count too). A statement '..UptoSaid' is the law's where the arguments, and the package variables that the reading takes, are together of bulk at most 1048576: NARROWER than '..Said'. Prove '..Said' where nothing that the law and all that it calls make is longer than what came in: it says more and counts as full. Else prove '..UptoSaid'. A law counts once. -/
mutual
def uptoBulk {H : Type} : DataW H → Nat
  | .lit (.string bytes) => bytes.length + 1
  | .lit _ => 1
  | .nil => 1
  | .ptr d => uptoBulk d + 1
  | .slice elems spare => uptoBulkAll elems + uptoBulkAll spare + 1
  | .agg parts => uptoBulkAll parts + 1
  | .iface _ d => uptoBulk d + 1
  | .map entries => uptoBulkEntries entries + 1
  | .held _ => 1
def uptoBulkAll {H : Type} : List (DataW H) → Nat
  | [] => 0
  | d :: r => uptoBulk d + uptoBulkAll r
def uptoBulkEntries {H : Type} : List (Lit × DataW H) → Nat
  | [] => 0
  | x :: r => uptoBulkEntry x + uptoBulkEntries r
def uptoBulkEntry {H : Type} : Lit × DataW H → Nat
  | (.string bytes, d) => bytes.length + uptoBulk d + 1
  | (_, d) => uptoBulk d + 1
 end
def uptoSmall : (H : Type) → List (DataW H) → Bool := fun _ ds => decide (uptoBulkAll ds ≤ 1048576)
def OpenSpec.upto (s : _root_.Go.ChangeSpec) : _root_.Go.OpenSpec := { _root_.Go.OpenSpec.ofChange s with cond := some uptoSmall }

/-- 'brushwoodlaw02.QuotePlain', WHERE WHAT IT READS IS OF BULK AT MOST 1048576: true; the input reads as it did. -/
def quotePlainUptoRow : OpenClaim := { program := "ytgbdoccgdkifjaadoor", sum := "6ee7457ccbc35a6ace25b6689b1b92d583c0310c9d00467c8be68b5b004d0f5f", func := "brushwood/brushwoodlaw02.QuotePlain", spec := "quotePlain", inPlace := ["internal/abi.NoEscape"], named := ["unicode/utf8.first", "unicode/utf8.acceptRanges"], apart := false, laid := [("unicode/utf8.acceptRanges", laid_unicode_utf8_acceptRanges), ("unicode/utf8.first", laid_unicode_utf8_first)], narrowed := true }
def QuotePlainUptoSaid : Prop := quotePlainUptoRow.holds Tryd.pinned (OpenSpec.upto quotePlainSpec)

/-- 'brushwoodlaw02.QuoteApart', WHERE WHAT IT READS IS OF BULK AT MOST 1048576: true; the input reads as it did. -/
def quoteApartUptoRow : OpenClaim := { program := "ytgbdoccgdkifjaadoor", sum := "6ee7457ccbc35a6ace25b6689b1b92d583c0310c9d00467c8be68b5b004d0f5f", func := "brushwood/brushwoodlaw02.QuoteApart", spec := "quoteApart", inPlace := ["internal/abi.NoEscape"], named := ["unicode/utf8.first", "unicode/utf8.acceptRanges"], apart := false, laid := [("unicode/utf8.acceptRanges", laid_unicode_utf8_acceptRanges), ("unicode/utf8.first", laid_unicode_utf8_first)], narrowed := true }
def QuoteApartUptoSaid : Prop := quoteApartUptoRow.holds Tryd.pinned (OpenSpec.upto quoteApartSpec)

/-- 'brushwoodlaw02.QuoteCounts', WHERE WHAT IT READS IS OF BULK AT MOST 1048576: true; the input reads as it did. -/
def quoteCountsUptoRow : OpenClaim := { program := "ytgbdoccgdkifjaadoor", sum := "6ee7457ccbc35a6ace25b6689b1b92d583c0310c9d00467c8be68b5b004d0f5f", func := "brushwood/brushwoodlaw02.QuoteCounts", spec := "quoteCounts", inPlace := ["internal/abi.NoEscape"], named := ["unicode/utf8.first", "unicode/utf8.acceptRanges"], apart := false, laid := [("unicode/utf8.acceptRanges", laid_unicode_utf8_acceptRanges), ("unicode/utf8.first", laid_unicode_utf8_first)], narrowed := true }
def QuoteCountsUptoSaid : Prop := quoteCountsUptoRow.holds Tryd.pinned (OpenSpec.upto quoteCountsSpec)

/-- 'brushwoodlaw02.QuotePrints', WHERE WHAT IT READS IS OF BULK AT MOST 1048576: true; the input reads as it did. -/
def quotePrintsUptoRow : OpenClaim := { program := "ytgbdoccgdkifjaadoor", sum := "6ee7457ccbc35a6ace25b6689b1b92d583c0310c9d00467c8be68b5b004d0f5f", func := "brushwood/brushwoodlaw02.QuotePrints", spec := "quotePrints", inPlace := ["internal/abi.NoEscape", "internal/bytealg.IndexByteString"], named := ["unicode/utf8.first", "unicode/utf8.acceptRanges"], apart := false, laid := [("unicode/utf8.acceptRanges", laid_unicode_utf8_acceptRanges), ("unicode/utf8.first", laid_unicode_utf8_first)], narrowed := true }
def QuotePrintsUptoSaid : Prop := quotePrintsUptoRow.holds Tryd.pinned (OpenSpec.upto quotePrintsSpec)

/-- 'brushwoodlaw02.QuoteParses', WHERE WHAT IT READS IS OF BULK AT MOST 1048576: true; the input reads as it did. -/
def quoteParsesUptoRow : OpenClaim := { program := "ytgbdoccgdkifjaadoor", sum := "6ee7457ccbc35a6ace25b6689b1b92d583c0310c9d00467c8be68b5b004d0f5f", func := "brushwood/brushwoodlaw02.QuoteParses", spec := "quoteParses", inPlace := ["internal/abi.NoEscape", "internal/bytealg.IndexByteString"], named := ["unicode/utf8.first", "unicode/utf8.acceptRanges"], apart := false, laid := [("unicode/utf8.acceptRanges", laid_unicode_utf8_acceptRanges), ("unicode/utf8.first", laid_unicode_utf8_first)], narrowed := true }
def QuoteParsesUptoSaid : Prop := quoteParsesUptoRow.holds Tryd.pinned (OpenSpec.upto quoteParsesSpec)

/-- 'brushwoodlaw02.QuoteFinds', WHERE WHAT IT READS IS OF BULK AT MOST 1048576: true; the input reads as it did. -/
def quoteFindsUptoRow : OpenClaim := { program := "ytgbdoccgdkifjaadoor", sum := "6ee7457ccbc35a6ace25b6689b1b92d583c0310c9d00467c8be68b5b004d0f5f", func := "brushwood/brushwoodlaw02.QuoteFinds", spec := "quoteFinds", inPlace := ["internal/abi.NoEscape", "internal/bytealg.IndexByteString"], named := ["unicode/utf8.first", "unicode/utf8.acceptRanges"], apart := false, laid := [("unicode/utf8.acceptRanges", laid_unicode_utf8_acceptRanges), ("unicode/utf8.first", laid_unicode_utf8_first)], narrowed := true }
def QuoteFindsUptoSaid : Prop := quoteFindsUptoRow.holds Tryd.pinned (OpenSpec.upto quoteFindsSpec)

end Rows
end Go.Proofs.YtgbdoccgdkifjaaDoor
