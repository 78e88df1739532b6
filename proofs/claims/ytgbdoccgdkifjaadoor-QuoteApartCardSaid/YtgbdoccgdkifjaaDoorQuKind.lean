/- What a round of the printing's loop meets. -/
import Derived.Test.YtgbdoccgdkifjaaDoorQuParse
import Derived.Test.YtgbdoccgdkifjaaDoorBase
namespace Go.Proofs.YtgbdoccgdkifjaaDoor

inductive Kind (m : List UInt8) : Prop
  | stray (hw : wid m = 0) (hd : dec m = (65533, 1)) (ho : (one m).1 = [92, 120, dig (bA m 0 / 16), dig (bA m 0 % 16)]) (hs : stp m = 1)
  | quote (r : Nat) (hw : wid m ≠ 0) (hd : dec m = (r, 1)) (hr : r = 34 ∨ r = 92) (ho : (one m).1 = [92, UInt8.ofNat r]) (hs : stp m = 1)
  | plain (r : Nat) (hw : wid m ≠ 0) (hd : dec m = (r, stp m)) (hr : r ≠ 34) (hr2 : r ≠ 92) (hb : (32 ≤ r ∧ r ≤ 126) ∨ 160 ≤ r) (hm : r ≤ 1114111) (ho : (one m).1 = m.take (stp m)) (hc : Lib.runeCells (r : Int) = (m.take (stp m)).map bv)
  | code (r : Nat) (hw : wid m ≠ 0) (hd : dec m = (r, stp m)) (hb : r < 32 ∨ (127 ≤ r ∧ r < 160)) (ho : (one m).1 = [92, 117, 48, 48, dig (r / 16), dig (r % 16)])
theorem bv_getD (m : List UInt8) (i : Nat) : bv (m.getD i 0) = .int .u8 ((bA m i : Nat) : Int) := rfl
theorem kind (m : List UInt8) (h : 0 < m.length) : Kind m := by
  rcases first m with ⟨e, h0, hd⟩ | ⟨e, h0, hd⟩ | ⟨r, e, hl, hd, h1, h2, e0, e1⟩ | ⟨r, e, hl, hd, h1, h2, h3, e0, e1, e2⟩ | ⟨r, e, hl, hd, h1, h2, e0, e1, e2, e3⟩
  · exact .stray e hd (by unfold one; rw [if_pos e]) (by unfold stp; rw [if_pos e])
  · have hs : stp m = 1 := by unfold stp; rw [if_neg (by omega), e]
    have hc : Lib.runeCells ((bA m 0 : Nat) : Int) = (m.take (stp m)).map bv := by
      rw [hs, take_one h]
      unfold Lib.runeCells
      rw [Lib.encodeRuneZ_one (by omega) (by omega)]
      rfl
    by_cases hq : bA m 0 = 34 ∨ bA m 0 = 92
    · refine .quote (bA m 0) (by omega) hd hq ?_ hs
      unfold one
      rw [if_neg (by omega), if_pos ⟨e, hq⟩, take_one h, ofNat_bA]
    · by_cases hk : bA m 0 < 32 ∨ bA m 0 = 127
      · refine .code (bA m 0) (by omega) (by rw [hs]; exact hd) (by omega) ?_
        unfold one
        rw [if_neg (by omega), if_neg (by omega), if_pos ⟨e, hk⟩]
      · refine .plain (bA m 0) (by omega) (by rw [hs]; exact hd) (by omega) (by omega) (by omega) (by omega) ?_ hc
        unfold one
        rw [if_neg (by omega), if_neg (by omega), if_neg (by omega), if_neg (by omega), hs, e]
  · have hs : stp m = 2 := by unfold stp; rw [if_neg (by omega), e]
    have b1 : bA m 1 < 256 := bA_lt m 1
    by_cases hk : r < 160
    · refine .code r (by omega) (by rw [hs]; exact hd) (by omega) ?_
      unfold one
      have er : bA m 1 = r := by omega
      rw [if_neg (by omega), if_neg (by omega), if_neg (by omega), if_pos ⟨e, by omega, by omega⟩, er]
    · refine .plain r (by omega) (by rw [hs]; exact hd) (by omega) (by omega) (by omega) (by omega) ?_ ?_
      · unfold one
        rw [if_neg (by omega), if_neg (by omega), if_neg (by omega), if_neg (by omega), hs, e]
      · rw [hs, take_two (by omega)]
        unfold Lib.runeCells
        rw [Lib.encodeRuneZ_two (by omega) (by omega)]
        simp only [List.map_cons, List.map_nil, bv_getD, e0, e1]
        simp
  · have hs : stp m = 3 := by unfold stp; rw [if_neg (by omega), e]
    refine .plain r (by omega) (by rw [hs]; exact hd) (by omega) (by omega) (by omega) (by omega) ?_ ?_
    · unfold one
      rw [if_neg (by omega), if_neg (by omega), if_neg (by omega), if_neg (by omega), hs, e]
    · rw [hs, take_three (by omega)]
      unfold Lib.runeCells
      rw [Lib.encodeRuneZ_three (by omega)]
      simp only [List.map_cons, List.map_nil, bv_getD, e0, e1, e2]
      simp
  · have hs : stp m = 4 := by unfold stp; rw [if_neg (by omega), e]
    refine .plain r (by omega) (by rw [hs]; exact hd) (by omega) (by omega) (by omega) (by omega) ?_ ?_
    · unfold one
      rw [if_neg (by omega), if_neg (by omega), if_neg (by omega), if_neg (by omega), hs, e]
    · rw [hs, take_four (by omega)]
      unfold Lib.runeCells
      rw [Lib.encodeRuneZ_four (by omega) (by omega)]
      simp only [List.map_cons, List.map_nil, bv_getD, e0, e1, e2, e3]
      simp
end Go.Proofs.YtgbdoccgdkifjaaDoor
