/- A slice of slices of bytes that came in. -/
import Derived.Test.YtkcijbljgcgdmaaBase
namespace Go.Proofs.Ytkcijbljgcgdmaa
open Go.RowKit

/-- WHAT IS TOLD OF A SLICE OF SLICES OF BYTES: of each element its address, its capacity, its bytes. -/
structure IsL (w : World) (p : Option Addr) (c : Nat) (L : List (Option Addr × Nat × List UInt8)) : Prop where
  cap : L.length ≤ c
  big : c ≤ maxLen
  cells : 0 < L.length → ∃ b o, p = some ⟨b, o, none⟩ ∧ b < w.heap.size ∧ ∀ i x, L[i]? = some x → w.cell? ⟨b, o + i, none⟩ = some (.slice x.1 x.2.2.length x.2.1)
  bytes : ∀ x ∈ L, IsB w x.1 x.2.1 x.2.2
theorem IsL.below {w w' : World} {p : Option Addr} {c : Nat} {L : List (Option Addr × Nat × List UInt8)} (h : IsL w p c L) (hb : Below w.heap.size w w') : IsL w' p c L :=
  ⟨h.cap, h.big, fun hl => by
    obtain ⟨b, o, hp, hlt, hc⟩ := h.cells hl
    exact ⟨b, o, hp, Nat.lt_of_lt_of_le hlt hb.size, fun i x hx => (hb.cell (p := ⟨b, o + i, none⟩) hlt).trans (hc i x hx)⟩, fun x hx => (h.bytes x hx).below hb⟩
end Go.Proofs.Ytkcijbljgcgdmaa
