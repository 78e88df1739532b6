/- The walks of NewReader, fail, Err, Left, End. -/
import Derived.Test.YtdiliajpcgfpoaaReader
import Derived.Test.YtdiliajpcgfpoaaShelf
namespace Go.Proofs.Ytdiliajpcgfpoaa
open Go.RowKit

/-- What NewReader hands back. -/
structure NewR (w w' : World) (g : Nat) (l : List UInt8) : Prop where
  ge : w.heap.size ≤ g
  rd : Rd w' g l 0
  below : Below w.heap.size w w'

set_option maxHeartbeats 1000000 in
set_option maxRecDepth 100000 in
theorem newReader (w : World) {p : Option Addr} {c : Nat} {l : List UInt8} (h : IsB w p c l) (hl : l.length ≤ 140737488355328) :
    Calls Try.prog 12 #[.slice p l.length c] w fun e w' => ∃ g, e = .returned (.pointer (some ⟨g, 0, none⟩)) ∧ NewR w w' g l := by
  have HC := Lib.hid (clone w h hl)
  clear h
  go_enter Try.func12, Try.ntmps12
  go_wp2_with fail
  refine HC.out.mono ?_
  rintro e w1 ⟨v, rfl, hown, hbel⟩
  obtain ⟨q, d, rfl⟩ := own_slice hown
  go_wp2
  go_ret
  have hs := hbel.size
  have ho := (OB.of_own hown).below ((Below.refl _ w1).alloc (Nat.le_refl _) (.cells #[.slice q l.length d, .int .i64 0] 52))
  exact ⟨w1.heap.size, rfl, hs, ⟨q, d, heap_alloc_new w1 _, ho⟩, hbel.alloc hs _⟩

/-- The reader's cells. -/
theorem Rd.cells {w : World} {g : Nat} {l : List UInt8} {e : Nat} (h : Rd w g l e) : ∃ q d, w.cell? ⟨g, 0, none⟩ = some (.slice q l.length d) ∧ w.cell? ⟨g, 1, none⟩ = some (.int .i64 (e : Int)) ∧
    w.frozen? ⟨g, 0, none⟩ = false ∧ w.frozen? ⟨g, 1, none⟩ = false ∧ OB w q d l := by
  obtain ⟨q, d, h1, h2⟩ := h
  exact ⟨q, d, cell_of_row w g 0 _ _ (0, 0) h1, cell_of_row w g 1 _ _ (0, 0) h1, frozen_of_row w g 0 _ _ h1, frozen_of_row w g 1 _ _ h1, h2⟩

set_option maxHeartbeats 400000 in
theorem rdErr (w : World) {g : Nat} {l : List UInt8} {e : Nat} (h : Rd w g l e) : Calls Try.prog 21 #[.pointer (some ⟨g, 0, none⟩)] w fun en w' => en = .returned (.int .i64 (e : Int)) ∧ w = w' := by
  obtain ⟨q, d, c0, c1, f0, f1, _⟩ := h.cells
  clear h
  go_enter Try.func21, Try.ntmps21
  go_wp2
  go_ret
  exact ⟨rfl, rfl⟩
set_option maxHeartbeats 400000 in
theorem rdLeft (w : World) {g : Nat} {l : List UInt8} {e : Nat} (h : Rd w g l e) : Calls Try.prog 22 #[.pointer (some ⟨g, 0, none⟩)] w fun en w' => en = .returned (.int .i64 (l.length : Int)) ∧ w = w' := by
  obtain ⟨q, d, c0, c1, f0, f1, _⟩ := h.cells
  clear h
  go_enter Try.func22, Try.ntmps22
  go_wp2
  go_ret
  exact ⟨rfl, rfl⟩
def endE (l : List UInt8) (e : Nat) : Nat := if e = 0 ∧ 0 < l.length then 7 else e
set_option maxHeartbeats 400000 in
theorem rdEnd (w : World) {g : Nat} {l : List UInt8} {e : Nat} (h : Rd w g l e) : Calls Try.prog 16 #[.pointer (some ⟨g, 0, none⟩)] w fun en w' => en = .returned (.int .i64 (endE l e : Int)) ∧ w = w' := by
  obtain ⟨q, d, c0, c1, f0, f1, _⟩ := h.cells
  clear h
  by_cases he : e = 0
  · subst he
    by_cases hl : 0 < l.length
    · have hh : endE l 0 = 7 := by unfold endE; rw [if_pos ⟨rfl, hl⟩]
      have HH := Lib.hid hh
      have g1 : (0 : Int) < (l.length : Int) := by omega
      clear hh
      go_enter Try.func16, Try.ntmps16
      go_wp2
      go_ret
      exact ⟨by rw [HH.out]; rfl, rfl⟩
    · have hh : endE l 0 = 0 := by unfold endE; rw [if_neg (by omega)]
      have HH := Lib.hid hh
      have g1 : ¬ (0 : Int) < (l.length : Int) := by omega
      clear hh
      go_enter Try.func16, Try.ntmps16
      go_wp2
      go_ret
      exact ⟨by rw [HH.out]; rfl, rfl⟩
  · have hh : endE l e = e := by unfold endE; rw [if_neg (by omega)]
    have HH := Lib.hid hh
    have g1 : ((e : Int) == 0) = false := by rw [beq_eq_false_iff_ne]; omega
    clear hh he
    go_enter Try.func16, Try.ntmps16
    go_wp2
    go_ret
    exact ⟨by rw [HH.out]; rfl, rfl⟩

def failE (e e' : Nat) : Nat := if e = 0 then e' else e
set_option maxHeartbeats 400000 in
theorem rdFail (w : World) {g : Nat} {l : List UInt8} {e : Nat} (e' : Nat) (h : Rd w g l e) : Calls Try.prog 26 #[.pointer (some ⟨g, 0, none⟩), .int .i64 (e' : Int)] w fun en w' => en = .returned (.tuple #[]) ∧ Rd w' g l (failE e e') ∧ w.grownBy w' (some g) := by
  obtain ⟨q, d, c0, c1, f0, f1, _⟩ := h.cells
  by_cases he : e = 0
  · subst he
    have hs := h.set_e e'
    have HS := Lib.hid hs
    clear h hs
    go_enter Try.func26, Try.ntmps26
    go_wp2
    go_end0
    exact ⟨rfl, HS.out⟩
  · have hh : failE e e' = e := by unfold failE; rw [if_neg he]
    have H := Lib.hid h
    have HH := Lib.hid hh
    have g1 : ((e : Int) == 0) = false := by rw [beq_eq_false_iff_ne]; omega
    clear hh he h
    go_enter Try.func26, Try.ntmps26
    go_wp2
    go_end0
    exact ⟨rfl, by rw [HH.out]; exact H.out, grown_refl _ _⟩
end Go.Proofs.Ytdiliajpcgfpoaa
