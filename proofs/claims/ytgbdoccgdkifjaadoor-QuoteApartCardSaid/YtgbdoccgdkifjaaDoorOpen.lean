/- Arguments opened: slices of bytes. -/
import Derived.Test.YtgbdoccgdkifjaaDoorRow
import Derived.ProofKit
import Derived.OpenShut
import Derived.ShutString
import Derived.ChangeOld
import Derived.Below
import Derived.Deep.Slices
import Derived.Lib.SmallJoins
namespace Go.Proofs.YtgbdoccgdkifjaaDoor
open Go.RowKit Go.ChangeShapes Go.WideShapes Go.ChangeAt

section
variable {H : Type} {enc : TypeId × Value → H} {W : World}

theorem bytes_cells {fuel : Nat} {cs : List Value} {x : DataW H × List MemPlace} (h : DataW.trod enc Tryd.prog W 0 (fun _ => true) true fuel 22 cs = some x) :
    ∃ (p : Option Addr) (c : Nat) (l : List UInt8), cs = [.slice p l.length c] ∧ IsB W p c l := by
  rcases open_ints Tryd.underlying22 Tryd.underlying5 (by kernel_rfl) h with ⟨rfl, _⟩ | ⟨a, len, cap, zs, rfl, _, hl, hm, hz, _, hcell, hwz⟩
  · exact ⟨none, 0, [], rfl, IsB.none_ W⟩
  · obtain ⟨l, rfl, hB⟩ := isB_of_row (w := W) (a := some a) (len := len) (cap := cap) (zs := zs) (.inr ⟨a, rfl, hl, hm, by simpa using hz, hcell, hwz⟩)
    exact ⟨some a, cap, l, rfl, hB⟩

theorem open_bytes {v : Value} {b : Nat} {d : DataW H} {p : List MemPlace} (hv : Value.okWide Tryd.prog W .any b 22 v) (h : DataW.Trod enc Tryd.prog W 0 (fun _ => true) true 22 v d p) :
    ∃ (q : Option Addr) (c : Nat) (l : List UInt8), v = .slice q l.length c ∧ IsB W q c l := by
  obtain ⟨a, len, cap, rfl⟩ := okWide_slice Tryd.underlying22 hv
  obtain ⟨fuel, hf⟩ := h
  obtain ⟨q, c, l, e, hB⟩ := bytes_cells hf
  simp [Value.cells] at e
  obtain ⟨rfl, rfl, rfl⟩ := e
  exact ⟨_, _, l, rfl, hB⟩
end
end Go.Proofs.YtgbdoccgdkifjaaDoor
