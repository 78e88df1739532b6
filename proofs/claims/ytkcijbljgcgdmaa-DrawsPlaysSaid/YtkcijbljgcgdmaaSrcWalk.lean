/- The walks of Left, Taken, New. -/
import Derived.Test.YtkcijbljgcgdmaaSource
namespace Go.Proofs.Ytkcijbljgcgdmaa
open Go.RowKit

set_option maxRecDepth 100000 in
theorem srcLeft (w : World) {S : Nat → Prop} {g : Nat} {l : List UInt8} {t : Nat} (h : Src w S g l t) : Calls Try.prog 11 #[.pointer (some ⟨g, 0, none⟩)] w fun en w' => en = .returned (.int .i64 (l.length : Int)) ∧ w = w' := by
  obtain ⟨q, d, c0, c1, f0, f1, _⟩ := h.cells
  clear h
  go_enter Try.func11, Try.ntmps11
  go_wp2
  go_ret
  exact ⟨rfl, rfl⟩
set_option maxRecDepth 100000 in
theorem srcTaken (w : World) {S : Nat → Prop} {g : Nat} {l : List UInt8} {t : Nat} (h : Src w S g l t) : Calls Try.prog 12 #[.pointer (some ⟨g, 0, none⟩)] w fun en w' => en = .returned (.int .i64 (t : Int)) ∧ w = w' := by
  obtain ⟨q, d, c0, c1, f0, f1, _⟩ := h.cells
  clear h
  go_enter Try.func12, Try.ntmps12
  go_wp2
  go_ret
  exact ⟨rfl, rfl⟩

theorem IsB.front {w : World} {p : Option Addr} {c : Nat} {l : List UInt8} (h : IsB w p c l) (m : Nat) (hm : m ≤ l.length) : IsB w p c (l.take m) :=
  ⟨by rw [List.length_take]; have := h.cap; omega, h.nil, h.big, fun hl => by
    rw [List.length_take] at hl
    obtain ⟨b, o, hp, hb, hc⟩ := h.cells (by omega)
    refine ⟨b, o, hp, hb, fun i x hx => hc i x ?_⟩
    rw [List.getElem?_take] at hx
    split at hx
    · exact hx
    · cases hx⟩

/-- What New hands back. -/
structure NewS (w w' : World) (g : Nat) (l : List UInt8) : Prop where
  src : Src w' (fun k => w.heap.size ≤ k) g l 0
  below : Below w.heap.size w w'
theorem new_tail {w w1 : World} {q : Option Addr} {d : Nat} {l : List UInt8} (hown : w1.ownsRow w.heap.size 5 1 (.slice q l.length d) l.length (l.map bv)) (hbel : Below w.heap.size w w1) :
    NewS w (w1.alloc (.cells #[.slice q l.length d, .int .i64 0] 46)) w1.heap.size l := by
  have hs := hbel.size
  have ho := (OR.of_own hown)
  refine ⟨⟨q, d, heap_alloc_new w1 _, ⟨ho.cap, ho.big, ho.nil, ho.form, ?_⟩, hs, fun x hx hd => ?_⟩, hbel.alloc hs _⟩
  · intro x hx hd
    obtain ⟨b, o, h1, h2, h3, h4⟩ := (ho.below ((Below.refl _ w1).alloc (Nat.le_refl _) _)).row x hx hd
    exact ⟨b, o, h1, Nat.zero_le _, h3, h4⟩
  · obtain ⟨b, o, rfl, h2, h3, h4⟩ := ho.row x hx hd
    exact ⟨Nat.ne_of_lt h3, h2⟩

set_option maxHeartbeats 1000000 in
set_option maxRecDepth 100000 in
theorem srcNew (w : World) {p : Option Addr} {c : Nat} {l : List UInt8} (h : IsB w p c l) :
    Calls Try.prog 7 #[.slice p l.length c] w fun e w' => ∃ g, e = .returned (.pointer (some ⟨g, 0, none⟩)) ∧ NewS w w' g (l.take 16777216) := by
  have hcap := h.cap
  by_cases hl : l.length ≤ 16777216
  · have gl : (l.length : Int) ≤ 16777216 := by omega
    rw [List.take_of_length_le hl]
    have HC := Lib.hid (clone w h (by omega))
    have n1 : (l.length : Int) ≤ (c : Int) := by omega
    clear h
    go_enter Try.func7, Try.ntmps7
    go_wp2_with fail
    refine HC.out.mono ?_
    rintro e w1 ⟨v, rfl, hown, hbel⟩
    obtain ⟨q, d, rfl⟩ := own_slice hown
    have HT := Lib.hid (new_tail hown hbel)
    clear hown hbel
    go_wp2
    go_ret
    exact ⟨_, rfl, HT.out⟩
  · have gl : ¬ (l.length : Int) ≤ 16777216 := by omega
    have hlen : (l.take 16777216).length = 16777216 := by rw [List.length_take]; omega
    have hc := clone w (h.front 16777216 (by omega)) (by rw [hlen]; omega)
    have HT : Hid (∀ (w1 : World) (q : Option Addr) (d : Nat), w1.ownsRow w.heap.size 5 1 (.slice q 16777216 d) (l.take 16777216).length ((l.take 16777216).map bv) → Below w.heap.size w w1 →
        NewS w (w1.alloc (.cells #[.slice q 16777216 d, .int .i64 0] 46)) w1.heap.size (l.take 16777216)) := fun w1 q d ho hb => by
      have := new_tail (q := q) (d := d) (l := l.take 16777216) (by rw [hlen] at ho ⊢; exact ho) hb
      rw [hlen] at this
      exact this
    generalize hX : l.take 16777216 = X at *
    rw [hlen] at hc
    have HC := Lib.hid hc
    have HL := Lib.hid hlen
    have n1 : (16777216 : Int) ≤ (c : Int) := by omega
    clear h hc hlen hX
    go_enter Try.func7, Try.ntmps7
    go_wp2_with fail
    refine HC.out.mono ?_
    rintro e w1 ⟨v, rfl, hown, hbel⟩
    have ho := hown
    rw [HL.out] at ho
    obtain ⟨q, d, rfl⟩ := own_slice ho
    have HT1 := Lib.hid (HT.out w1 q d hown hbel)
    clear hown hbel ho HT
    go_wp2
    go_ret
    exact ⟨_, rfl, HT1.out⟩
end Go.Proofs.Ytkcijbljgcgdmaa
