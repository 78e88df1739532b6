/- From the shell's word on a slice of bytes to this seat's. -/
import Derived.Test.YtgbdoccgdkifjaaDoorBase
namespace Go.Proofs.YtgbdoccgdkifjaaDoor
open Go.RowKit

def byteOf (n : Int) : UInt8 := UInt8.ofNat n.toNat
theorem byteOf_back {n : Int} (h : (Lit.int .u8 n).wf = true) : ((byteOf n).toNat : Int) = n := by
  have h2 : 0 ≤ n ∧ n < 256 := by
    simp [Lit.wf, IntKind.min, IntKind.max, IntKind.signed, IntKind.bits] at h
    omega
  unfold byteOf
  rw [UInt8.toNat_ofNat']
  omega

/-- What the shell hands over of a slice of bytes that came in. -/
theorem isB_of_row {w : World} {a : Option Addr} {len cap : Nat} {zs : List Int}
    (h : (a = none ∧ len = 0 ∧ cap = 0 ∧ zs = []) ∨
      ∃ x, a = some x ∧ len ≤ cap ∧ cap ≤ maxLen ∧ zs.length = cap ∧ (∀ i, i < zs.length → w.cell? (x.add i) = some (.int .u8 (zs.getD i 0))) ∧ ∀ n ∈ zs, (Lit.int .u8 n).wf = true) :
    ∃ l : List UInt8, l.length = len ∧ IsB w a cap l := by
  rcases h with ⟨rfl, rfl, rfl, rfl⟩ | ⟨x, rfl, hl, hm, hz, hc, hw⟩
  · exact ⟨[], rfl, IsB.none_ w⟩
  · refine ⟨(zs.take len).map byteOf, by simp; omega, ⟨by simp; omega, fun h => by simp at h, hm, fun h0 => ?_⟩⟩
    simp at h0
    have hx := hc 0 (by omega)
    obtain ⟨b, o, s⟩ := x
    have hs : s = none := by
      have := World.cell?_spot hx
      simpa [Addr.add] using this
    subst hs
    refine ⟨b, o, rfl, ?_, fun i y hy => ?_⟩
    · have := World.block_lt_of_cell? w _ hx
      simpa [Addr.add_lit] using this
    · rw [List.getElem?_map, Option.map_eq_some_iff] at hy
      obtain ⟨z, hz1, rfl⟩ := hy
      rw [List.getElem?_take] at hz1
      split at hz1
      · rename_i hi
        have hc1 := hc i (by omega)
        rw [Addr.add_lit] at hc1
        rw [hc1, List.getD_eq_getElem?_getD, hz1]
        unfold bv
        rw [byteOf_back (hw z (List.mem_of_getElem? hz1))]
        rfl
      · cases hz1
end Go.Proofs.YtgbdoccgdkifjaaDoor
