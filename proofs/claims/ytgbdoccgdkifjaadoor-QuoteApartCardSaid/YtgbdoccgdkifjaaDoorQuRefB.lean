/- The walks of the reference's Print, Count. -/
import Derived.Test.YtgbdoccgdkifjaaDoorQuOne
namespace Go.Proofs.YtgbdoccgdkifjaaDoor
open Go.RowKit
set_option linter.unusedVariables false

theorem below_on {B : Nat} {w w1 w2 : World} (h : Below B w w1) (h' : Below w1.heap.size w1 w2) (hB : B ≤ w.heap.size) : Below B w w2 :=
  h.trans (h'.mono (Nat.le_trans hB h.size))
theorem sz_of (s : ByteArray) : s.data.toList.length = s.size := by simp
theorem empty_of {s : ByteArray} (h : s.size = 0) : s.data.toList = [] := List.eq_nil_of_length_eq_zero (by rw [sz_of]; exact h)

set_option maxHeartbeats 2000000 in
set_option maxRecDepth 100000 in
theorem refPrint (w : World) (s : ByteArray) (hs : s.size ≤ 1000) :
    Calls Tryd.prog 14 #[.string s] w fun e w' => e = .returned (.string (str (qt s.data.toList))) ∧ Below w.heap.size w w' := by
  go_enter Tryd.func14, Tryd.ntmps14
  go_wp2
  go_loopw [0, 3, 4, 5] (fun v0 v3 _ _ wr => ∃ (t o : ByteArray), v0 = .string t ∧ v3 = .string o ∧ t.size ≤ s.size ∧ o.size ≤ 1 + 6 * (s.size - t.size) ∧ Hid (o.data.toList ++ body t.data.toList = 34 :: body s.data.toList) ∧ Below w.heap.size w wr)
    (fun v0 _ _ _ _ => match v0 with | .string t => t.size | _ => 0)
  case atStart => exact ⟨s, ⟨#[34]⟩, rfl, rfl, Nat.le_refl _, by show 1 ≤ _; omega, rfl, Below.refl _ _⟩
  case round =>
    obtain ⟨t, o, rfl, rfl, ht, ho, HA, hbel⟩ := hrel
    have HB := Lib.hid hbel
    clear hbel
    by_cases h0 : 0 < t.size
    · have g0 : (0 : Int) < (t.size : Int) := by omega
      have htl : 0 < t.data.toList.length := by rw [sz_of]; exact h0
      have hbs := body_step t.data.toList htl
      have h1 := one_len t.data.toList
      have h2 := stp_pos t.data.toList
      have h3 := stp_le t.data.toList htl
      rw [sz_of] at h3
      have hone := Lib.hid (oneW wr t h0 (by omega))
      have hex := fun k => Lib.extract_to_end t k
      generalize hp : (one t.data.toList).1 = P at *
      generalize hk : stp t.data.toList = k at *
      have hsz : (t.extract k t.size).size = t.size - k := by simp
      have hos : (o ++ str P).size = o.size + P.length := by rw [ByteArray.size_append, str_size]
      have g1 : (k : Int) ≤ (t.size : Int) := by omega
      have hcat : ¬ 9223372036854775807 < o.size + (str P).size := by rw [str_size]; omega
      have HEX := Lib.hid (hex k)
      have HBS := Lib.hid hbs
      have HSZ := Lib.hid hsz
      have HOS := Lib.hid hos
      clear hbs hex hp hk hsz hos htl
      go_wp2_with fail
      refine hone.out.mono ?_
      rintro e w2 ⟨rfl, hb⟩
      have HB2 := Lib.hid (below_on HB.out hb (Nat.le_refl _))
      clear hb
      go_wp2
      go_roundw
      case rel => exact ⟨t.extract k t.size, o ++ str P, rfl, rfl, by rw [HSZ.out]; omega, by rw [HSZ.out, HOS.out]; omega, by show _ = _; rw [HEX.out, ← HA.out, HBS.out]; simp [str], HB2.out⟩
      case measure => dsimp only; rw [HSZ.out]; omega
    · have g0 : ¬ (0 : Int) < (t.size : Int) := by omega
      have hq : o.data.toList = 34 :: body s.data.toList := by
        have := HA.out
        rw [empty_of (s := t) (by omega), body_nil, List.append_nil] at this
        exact this
      have hcat : ¬ 9223372036854775807 < o.size + 1 := by omega
      have HQ := Lib.hid hq
      clear hq
      go_wp2
      go_ret
      refine ⟨?_, HB.out⟩
      have e : o ++ ⟨#[34]⟩ = str (qt s.data.toList) := by
        apply ByteArray.ext
        apply Array.toList_inj.1
        rw [str_data]
        simp [HQ.out, qt]
      rw [e]
      rfl
set_option maxHeartbeats 2000000 in
set_option maxRecDepth 100000 in
theorem refCount (w : World) (s : ByteArray) (hs : s.size ≤ 10000) :
    Calls Tryd.prog 11 #[.string s] w fun e w' => e = .returned (.tuple #[.int .i64 (((cnt s.data.toList).1 : Nat) : Int), .int .i64 (((cnt s.data.toList).2 : Nat) : Int)]) ∧ w = w' := by
  go_enter Tryd.func11, Tryd.ntmps11
  go_wp2
  go_loopw [0, 4, 5, 6] (fun v0 v4 v5 _ wr => ∃ (t : ByteArray) (a b : Nat), v0 = .string t ∧ v4 = .int .i64 a ∧ v5 = .int .i64 b ∧ t.size ≤ s.size ∧ a ≤ s.size - t.size ∧ b ≤ s.size - t.size ∧ Hid (a + (cnt t.data.toList).1 = (cnt s.data.toList).1 ∧ b + (cnt t.data.toList).2 = (cnt s.data.toList).2) ∧ w = wr)
    (fun v0 _ _ _ _ => match v0 with | .string t => t.size | _ => 0)
  case atStart => exact ⟨s, 0, 0, rfl, rfl, rfl, Nat.le_refl _, Nat.zero_le _, Nat.zero_le _, ⟨Nat.zero_add _, Nat.zero_add _⟩, rfl⟩
  case round =>
    obtain ⟨t, a, b, rfl, rfl, rfl, ht, ha, hb, HA, rfl⟩ := hrel
    by_cases h0 : 0 < t.size
    · have g0 : (0 : Int) < (t.size : Int) := by omega
      have htl : 0 < t.data.toList.length := by rw [sz_of]; exact h0
      have hcs := cnt_step t.data.toList htl
      have hw4 := wid_le t.data.toList htl
      have hst : stp t.data.toList = if wid t.data.toList = 0 then 1 else wid t.data.toList := rfl
      rw [sz_of] at hw4
      have hwd := Lib.hid (widW w t h0)
      have hex := fun k => Lib.extract_to_end t k
      by_cases hz : wid t.data.toList = 0
      · rw [if_pos hz] at hcs hst
        rw [hz] at hwd
        rw [hst] at hcs
        have hsz : (t.extract 1 t.size).size = t.size - 1 := by simp
        have HEX := Lib.hid (hex 1)
        have HCS := Lib.hid hcs
        have HSZ := Lib.hid hsz
        have g1 : (1 : Int) ≤ (t.size : Int) := by omega
        clear hcs hex hsz htl hst hw4 hz
        go_wp2_with fail
        refine hwd.out.mono ?_
        rintro e w2 ⟨rfl, rfl⟩
        go_wp2
        go_roundw
        case rel => exact ⟨t.extract 1 t.size, a, b + 1, rfl, rfl, by go_num, by rw [HSZ.out]; omega, by rw [HSZ.out]; omega, by rw [HSZ.out]; omega, by show _ ∧ _; rw [HEX.out]; have := HA.out; rw [HCS.out] at this; dsimp only at this; omega, trivial⟩
        case measure => dsimp only; rw [HSZ.out]; omega
      · rw [if_neg hz] at hcs hst
        rw [hst] at hcs
        generalize hk : wid t.data.toList = k at *
        have hsz : (t.extract k t.size).size = t.size - k := by simp
        have HEX := Lib.hid (hex k)
        have HCS := Lib.hid hcs
        have HSZ := Lib.hid hsz
        have g1 : (k : Int) ≤ (t.size : Int) := by omega
        have g2 : ((k : Int) == 0) = false := by simp; omega
        clear hcs hex hsz htl hst hk
        go_wp2_with fail
        refine hwd.out.mono ?_
        rintro e w2 ⟨rfl, rfl⟩
        go_wp2
        go_roundw
        case rel => exact ⟨t.extract k t.size, a + 1, b, rfl, by go_num, rfl, by rw [HSZ.out]; omega, by rw [HSZ.out]; omega, by rw [HSZ.out]; omega, by show _ ∧ _; rw [HEX.out]; have := HA.out; rw [HCS.out] at this; dsimp only at this; omega, trivial⟩
        case measure => dsimp only; rw [HSZ.out]; omega
    · have g0 : ¬ (0 : Int) < (t.size : Int) := by omega
      have hq : a = (cnt s.data.toList).1 ∧ b = (cnt s.data.toList).2 := by
        have := HA.out
        rw [empty_of (s := t) (by omega)] at this
        exact this
      have HQ := Lib.hid hq
      clear hq
      go_wp2
      go_ret2
      rw [← HQ.out.1, ← HQ.out.2]
      exact ⟨rfl, rfl⟩
end Go.Proofs.YtgbdoccgdkifjaaDoor
