/- The walks of Meter.Compare, Meter.Visit. -/
import Derived.Test.YtegmcfnaiclmeaaMWithin
import Derived.Test.YtegmcfnaiclmeaaCmp
import Derived.Test.YtegmcfnaiclmeaaLess
import Derived.Test.YtegmcfnaiclmeaaList
namespace Go.Proofs.Ytegmcfnaiclmeaa
open Go.RowKit

set_option maxHeartbeats 400000 in
theorem compareNil (w : World) {p p' : Option Addr} {c c' : Nat} {l l' : List UInt8} (h : IsB w p c l) (h' : IsB w p' c' l') :
    Calls Try.prog 12 #[.pointer none, .slice p l.length c, .slice p' l'.length c'] w fun e w' => e = .returned (.int .i64 (Lib.compareBytes l l')) ∧ w = w' := by
  have H := Lib.hid (keysCompare w h h')
  clear h h'
  go_enter Try.func12, Try.ntmps12
  go_wp2_with fail
  refine H.out.mono ?_
  rintro e w' ⟨rfl, rfl⟩
  go_wp2
  go_ret
  exact ⟨rfl, rfl⟩

/-- The meter's block. -/
def Met (w : World) (g v c : Nat) : Prop := w.heap[g]? = some (.cells #[.int .i64 (v : Int), .int .i64 (c : Int)] 26)
theorem Met.lt {w : World} {g v c : Nat} (h : Met w g v c) : g < w.heap.size := by
  rcases Nat.lt_or_ge g w.heap.size with h1 | h1
  · exact h1
  · unfold Met at h; rw [Array.getElem?_eq_none h1] at h; cases h
theorem Met.c0 {w : World} {g v c : Nat} (h : Met w g v c) : w.cell? ⟨g, 0, none⟩ = some (.int .i64 (v : Int)) := cell_of_row w g 0 _ _ (0, 0) h
theorem Met.c1 {w : World} {g v c : Nat} (h : Met w g v c) : w.cell? ⟨g, 1, none⟩ = some (.int .i64 (c : Int)) := cell_of_row w g 1 _ _ (0, 0) h
theorem Met.fr {w : World} {g v c : Nat} (h : Met w g v c) (i : Nat) : w.frozen? ⟨g, i, none⟩ = false := frozen_of_row w g i _ _ h
theorem Met.set0 {w : World} {g v c : Nat} (h : Met w g v c) : Met (w.setCell ⟨g, 0, none⟩ (.int .i64 ((v : Int) + 1))) g (v + 1) c := by
  unfold Met at h ⊢
  simp [World.setCell, Array.getElem?_modify, h]
theorem Met.set1 {w : World} {g v c : Nat} (h : Met w g v c) : Met (w.setCell ⟨g, 1, none⟩ (.int .i64 ((c : Int) + 1))) g v (c + 1) := by
  unfold Met at h ⊢
  simp [World.setCell, Array.getElem?_modify, h]
theorem Met.drewN {w : World} {g v c : Nat} (h : Met w g v c) (n : Nat) : Met (w.drewN n) g v c := h
theorem Met.below {w w' : World} {g v c : Nat} (h : Met w g v c) (hb : Below w.heap.size w w') : Met w' g v c := (hb.block g h.lt).trans h

set_option maxHeartbeats 400000 in
theorem comparePtr (w : World) (g v k : Nat) (hk : k ≤ 1000) (hm : Met w g v k) {p p' : Option Addr} {c c' : Nat} {l l' : List UInt8} (h : IsB (w.setCell ⟨g, 1, none⟩ (.int .i64 ((k : Int) + 1))) p c l) (h' : IsB (w.setCell ⟨g, 1, none⟩ (.int .i64 ((k : Int) + 1))) p' c' l') :
    Calls Try.prog 12 #[.pointer (some ⟨g, 0, none⟩), .slice p l.length c, .slice p' l'.length c'] w fun e w' => e = .returned (.int .i64 (Lib.compareBytes l l')) ∧ w.setCell ⟨g, 1, none⟩ (.int .i64 ((k : Int) + 1)) = w' := by
  have H := Lib.hid (keysCompare _ h h')
  have c1 := hm.c1
  have f1 := hm.fr 1
  clear h h' hm
  go_enter Try.func12, Try.ntmps12
  go_wp2_with fail
  refine H.out.mono ?_
  rintro e w' ⟨rfl, rfl⟩
  go_wp2
  go_ret
  exact ⟨rfl, rfl⟩

set_option maxHeartbeats 400000 in
theorem visitNil (w : World) : Calls Try.prog 13 #[.pointer none] w fun e w' => e = .returned (.tuple #[]) ∧ w = w' := by
  go_enter Try.func13, Try.ntmps13
  go_wp2
  go_end0
  exact ⟨rfl, rfl⟩

set_option maxHeartbeats 400000 in
theorem visitPtr (w : World) (g v k : Nat) (hv : v ≤ 1000) (hm : Met w g v k) :
    Calls Try.prog 13 #[.pointer (some ⟨g, 0, none⟩)] w fun e w' => e = .returned (.tuple #[]) ∧ w.setCell ⟨g, 0, none⟩ (.int .i64 ((v : Int) + 1)) = w' := by
  have c0 := hm.c0
  have f0 := hm.fr 0
  clear hm
  go_enter Try.func13, Try.ntmps13
  go_wp2
  go_end0
  exact ⟨rfl, rfl⟩
end Go.Proofs.Ytegmcfnaiclmeaa
