/- The walks of the reference's Held and Bound, of meter.Bound, of the meter laws' awake. -/
import Derived.Test.YtegmcfnaiclmeaaTimesWalk
import Derived.Test.YtegmcfnaiclmeaaShelf
namespace Go.Proofs.Ytegmcfnaiclmeaa
open Go.RowKit

/-- A number of keys within its bounds. -/
def held (n : Int) : Nat := if n < 0 then 0 else if 1048576 < n then 1048576 else n.toNat
theorem held_le (n : Int) : held n ≤ 1048576 := by unfold held; split; omega; split <;> omega
/-- The bound. -/
def boundN (h : Nat) : Nat := 16 + blen ((h + 1) ^ 6)

set_option maxHeartbeats 400000 in
theorem refHeld (w : World) (n : Int) : Calls Try.prog 8 #[.int .i64 n] w fun e w' => e = .returned (.int .i64 (held n : Int)) ∧ w = w' := by
  by_cases h1 : n < 0
  · have hh : held n = 0 := by unfold held; rw [if_pos h1]
    have HH := Lib.hid hh
    clear hh
    go_enter Try.func8, Try.ntmps8
    go_wp2
    go_ret
    exact ⟨by rw [HH.out]; rfl, rfl⟩
  · by_cases h2 : 1048576 < n
    · have hh : held n = 1048576 := by unfold held; rw [if_neg h1, if_pos h2]
      have HH := Lib.hid hh
      clear hh
      go_enter Try.func8, Try.ntmps8
      go_wp2
      go_ret
      exact ⟨by rw [HH.out]; rfl, rfl⟩
    · have hh : ((held n : Nat) : Int) = n := by unfold held; rw [if_neg h1, if_neg h2]; omega
      have HH := Lib.hid hh
      clear hh
      go_enter Try.func8, Try.ntmps8
      go_wp2
      go_ret
      exact ⟨by rw [HH.out]; rfl, rfl⟩

set_option maxHeartbeats 1000000 in
set_option maxRecDepth 100000 in
theorem refBound (w : World) (h : Nat) (hh : h ≤ 1048576) : Calls Try.prog 7 #[.int .i64 (h : Int)] w fun e w' => e = .returned (.int .i64 (boundN h : Int)) ∧ Below w.heap.size w w' := by
  go_enter Try.func7, Try.ntmps7
  go_wp2
  go_loopw [3, 4] (fun v3 v4 wr => ∃ (D : List Nat) (q : Option Addr) (d i : Nat), v3 = .slice q D.length d ∧ v4 = .int .i64 i ∧ i ≤ 6 ∧ wr.ownsRow w.heap.size 3 1 (.slice q D.length d) D.length (D.map iv) ∧ Below w.heap.size w wr ∧ Hid (∀ x ∈ D, x < 65536) ∧ Hid (val D = (h + 1) ^ i) ∧ D.length ≤ 1 + 2 * i)
    (fun _ v4 _ => 6 - (intOf v4).toNat)
  case atStart => exact ⟨[1], some ⟨w.heap.size, 0, none⟩, 1, 0, rfl, rfl, by omega, World.ownsRow_lit w #[.int .i64 1] 1 (Nat.le_refl _) (by unfold maxLen; decide) rfl, (Below.refl _ _).alloc (Nat.le_refl _) _, by intro x hx; simp at hx; omega, rfl, by simp⟩
  case round =>
    obtain ⟨D, q, d, i, rfl, rfl, hi, hown, hbel, HD, HV, hl⟩ := hrel
    have HBEL := Lib.hid hbel
    have hs := hbel.size
    have hin := IsN.own hown
    clear hown hbel
    by_cases h1 : i < 6
    · have g1 : (i : Int) < 6 := by omega
      have ht := times wr (h + 1) hin HD.out (by omega) (by omega)
      have e1 : ((h + 1 : Nat) : Int) = (h : Int) + 1 := by omega
      rw [e1] at ht
      have HT := Lib.hid ht
      clear ht hin e1
      go_wp2_with fail
      refine HT.out.mono ?_
      rintro e w2 ⟨v, rfl, R, hown2, hd2, hv2, hl2, hbel2⟩
      obtain ⟨q2, d2, rfl⟩ := own_slice hown2
      have HO2 : Hid (w2.ownsRow w.heap.size 3 1 (.slice q2 R.length d2) R.length (R.map iv)) := by
        refine ⟨hown2.1, ?_⟩
        rcases hown2.2 with hh | ⟨g, cap, cur, x1, x2, x3⟩
        · exact .inl hh
        · exact .inr ⟨g, cap, cur, x1, by omega, x3⟩
      have HB2 : Hid (Below w.heap.size w w2) := HBEL.out.trans (hbel2.mono hs)
      have HV2 : Hid (val R = (h + 1) ^ (i + 1)) := by show val R = _; rw [hv2, HV.out, Nat.pow_succ]
      have HD2 : Hid (∀ x ∈ R, x < 65536) := hd2
      clear hown2 hbel2 hv2 hd2
      go_wp2
      go_roundw
      case rel => exact ⟨R, q2, d2, i + 1, rfl, by go_num, by omega, HO2.out, HB2.out, HD2, HV2, by omega⟩
      case measure => simp [intOf]; omega
    · obtain rfl : i = 6 := by omega
      have hlen := length wr hin HD.out (by omega)
      rw [HV.out] at hlen
      have hb : blen ((h + 1) ^ 6) ≤ 126 := blen_le (Nat.lt_of_le_of_lt (Nat.pow_le_pow_left (by omega : h + 1 ≤ 1048577) 6) (by decide))
      have hfin : ((boundN h : Nat) : Int) = 17 + ((blen ((h + 1) ^ 6) : Nat) : Int) - 1 := by unfold boundN; omega
      generalize blen ((h + 1) ^ 6) = L at *
      have HL := Lib.hid hlen
      have HF := Lib.hid hfin
      clear hlen hin hfin
      go_wp2_with fail
      refine HL.out.mono ?_
      rintro e w2 ⟨rfl, rfl⟩
      go_wp2
      go_ret
      exact ⟨by rw [HF.out]; rfl, HBEL.out⟩
end Go.Proofs.Ytegmcfnaiclmeaa
