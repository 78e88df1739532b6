/-
  DERIVED. GIVEN WITH THE SEED: THE CARDS: each row of YtgbdoccgdkifjaaDoorRows.lean that lists a variable, with what it lists TIED to the program's text (the seventh form; the later family's looks); each row that meets fmt, with fmt's text TOLD by the authors' own Lean function (tested against real Go, not proved from fmt's source: count such statements apart). THE CARD IS WHAT COUNTS. Prove the row's statement (the work); the ties are given (YtgbdoccgdkifjaaDoorTie.lean); close each card by the builder's one call (the guide's Derived/Test/ToyasCard.lean, 'card_holds'). Laid BY PROGRAM, IN A SANDBOX (cutbox-door.mjs). By AI agents, Wed Nov 11 2026. No macro, syntax, notation, axiom, sorry.
-/
import Derived.Test.YtgbdoccgdkifjaaDoorRows
import GoSem.ClaimSeven
namespace Go.Proofs.YtgbdoccgdkifjaaDoor
namespace Rows

/-- THE TIED CARD OF 'brushwoodlaw02.QuotePlain'. -/
def quotePlainCard : Claim7 := { stood := { row := quotePlainRow, standIns := [], harness := (true, "57f515050adca65c04c9f1ff2c0655f9b91b76400262f2d1e76a79085d3e54f6"), looks := false }, kinds := [], alts := [], laidByText := true, laidKinds := [.data, .pinned], laidTests := true, laidLooks := .later }
def QuotePlainCardSaid : Prop := Claim7.holds Tryd.pinned (.plain (OpenSpec.ofChange quotePlainSpec)) quotePlainCard

/-- THE TIED CARD OF 'brushwoodlaw02.QuoteApart'. -/
def quoteApartCard : Claim7 := { stood := { row := quoteApartRow, standIns := [], harness := (true, "57f515050adca65c04c9f1ff2c0655f9b91b76400262f2d1e76a79085d3e54f6"), looks := false }, kinds := [], alts := [], laidByText := true, laidKinds := [.data, .pinned], laidTests := true, laidLooks := .later }
def QuoteApartCardSaid : Prop := Claim7.holds Tryd.pinned (.plain (OpenSpec.ofChange quoteApartSpec)) quoteApartCard

/-- THE TIED CARD OF 'brushwoodlaw02.QuoteCounts'. -/
def quoteCountsCard : Claim7 := { stood := { row := quoteCountsRow, standIns := [], harness := (true, "57f515050adca65c04c9f1ff2c0655f9b91b76400262f2d1e76a79085d3e54f6"), looks := false }, kinds := [], alts := [], laidByText := true, laidKinds := [.data, .pinned], laidTests := true, laidLooks := .later }
def QuoteCountsCardSaid : Prop := Claim7.holds Tryd.pinned (.plain (OpenSpec.ofChange quoteCountsSpec)) quoteCountsCard

/-- THE TIED CARD OF 'brushwoodlaw02.QuotePrints'. -/
def quotePrintsCard : Claim7 := { stood := { row := quotePrintsRow, standIns := [], harness := (true, "57f515050adca65c04c9f1ff2c0655f9b91b76400262f2d1e76a79085d3e54f6"), looks := false }, kinds := [], alts := [], laidByText := true, laidKinds := [.data, .pinned], laidTests := true, laidLooks := .later }
def QuotePrintsCardSaid : Prop := Claim7.holds Tryd.pinned (.plain (OpenSpec.ofChange quotePrintsSpec)) quotePrintsCard

/-- THE TIED CARD OF 'brushwoodlaw02.QuoteParses'. -/
def quoteParsesCard : Claim7 := { stood := { row := quoteParsesRow, standIns := [], harness := (true, "57f515050adca65c04c9f1ff2c0655f9b91b76400262f2d1e76a79085d3e54f6"), looks := false }, kinds := [], alts := [], laidByText := true, laidKinds := [.data, .pinned], laidTests := true, laidLooks := .later }
def QuoteParsesCardSaid : Prop := Claim7.holds Tryd.pinned (.plain (OpenSpec.ofChange quoteParsesSpec)) quoteParsesCard

/-- THE TIED CARD OF 'brushwoodlaw02.QuoteFinds'. -/
def quoteFindsCard : Claim7 := { stood := { row := quoteFindsRow, standIns := [], harness := (true, "57f515050adca65c04c9f1ff2c0655f9b91b76400262f2d1e76a79085d3e54f6"), looks := false }, kinds := [], alts := [], laidByText := true, laidKinds := [.data, .pinned], laidTests := true, laidLooks := .later }
def QuoteFindsCardSaid : Prop := Claim7.holds Tryd.pinned (.plain (OpenSpec.ofChange quoteFindsSpec)) quoteFindsCard

/-- THE SECOND FORM's CARD OF 'brushwoodlaw02.QuotePlain'. -/
def quotePlainUptoCard : Claim7 := { stood := { row := quotePlainUptoRow, standIns := [], harness := (true, "57f515050adca65c04c9f1ff2c0655f9b91b76400262f2d1e76a79085d3e54f6"), looks := false }, kinds := [], alts := [], laidByText := true, laidKinds := [.data, .pinned], laidTests := true, laidLooks := .later }
def QuotePlainUptoCardSaid : Prop := Claim7.holds Tryd.pinned (.plain (OpenSpec.upto quotePlainSpec)) quotePlainUptoCard

/-- THE SECOND FORM's CARD OF 'brushwoodlaw02.QuoteApart'. -/
def quoteApartUptoCard : Claim7 := { stood := { row := quoteApartUptoRow, standIns := [], harness := (true, "57f515050adca65c04c9f1ff2c0655f9b91b76400262f2d1e76a79085d3e54f6"), looks := false }, kinds := [], alts := [], laidByText := true, laidKinds := [.data, .pinned], laidTests := true, laidLooks := .later }
def QuoteApartUptoCardSaid : Prop := Claim7.holds Tryd.pinned (.plain (OpenSpec.upto quoteApartSpec)) quoteApartUptoCard

/-- THE SECOND FORM's CARD OF 'brushwoodlaw02.QuoteCounts'. -/
def quoteCountsUptoCard : Claim7 := { stood := { row := quoteCountsUptoRow, standIns := [], harness := (true, "57f515050adca65c04c9f1ff2c0655f9b91b76400262f2d1e76a79085d3e54f6"), looks := false }, kinds := [], alts := [], laidByText := true, laidKinds := [.data, .pinned], laidTests := true, laidLooks := .later }
def QuoteCountsUptoCardSaid : Prop := Claim7.holds Tryd.pinned (.plain (OpenSpec.upto quoteCountsSpec)) quoteCountsUptoCard

/-- THE SECOND FORM's CARD OF 'brushwoodlaw02.QuotePrints'. -/
def quotePrintsUptoCard : Claim7 := { stood := { row := quotePrintsUptoRow, standIns := [], harness := (true, "57f515050adca65c04c9f1ff2c0655f9b91b76400262f2d1e76a79085d3e54f6"), looks := false }, kinds := [], alts := [], laidByText := true, laidKinds := [.data, .pinned], laidTests := true, laidLooks := .later }
def QuotePrintsUptoCardSaid : Prop := Claim7.holds Tryd.pinned (.plain (OpenSpec.upto quotePrintsSpec)) quotePrintsUptoCard

/-- THE SECOND FORM's CARD OF 'brushwoodlaw02.QuoteParses'. -/
def quoteParsesUptoCard : Claim7 := { stood := { row := quoteParsesUptoRow, standIns := [], harness := (true, "57f515050adca65c04c9f1ff2c0655f9b91b76400262f2d1e76a79085d3e54f6"), looks := false }, kinds := [], alts := [], laidByText := true, laidKinds := [.data, .pinned], laidTests := true, laidLooks := .later }
def QuoteParsesUptoCardSaid : Prop := Claim7.holds Tryd.pinned (.plain (OpenSpec.upto quoteParsesSpec)) quoteParsesUptoCard

/-- THE SECOND FORM's CARD OF 'brushwoodlaw02.QuoteFinds'. -/
def quoteFindsUptoCard : Claim7 := { stood := { row := quoteFindsUptoRow, standIns := [], harness := (true, "57f515050adca65c04c9f1ff2c0655f9b91b76400262f2d1e76a79085d3e54f6"), looks := false }, kinds := [], alts := [], laidByText := true, laidKinds := [.data, .pinned], laidTests := true, laidLooks := .later }
def QuoteFindsUptoCardSaid : Prop := Claim7.holds Tryd.pinned (.plain (OpenSpec.upto quoteFindsSpec)) quoteFindsUptoCard
end Rows
end Go.Proofs.YtgbdoccgdkifjaaDoor
