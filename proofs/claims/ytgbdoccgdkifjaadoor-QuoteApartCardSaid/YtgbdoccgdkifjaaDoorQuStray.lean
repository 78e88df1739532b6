/- The decoder's word on a string's bytes; the walk of stray. -/
import Derived.Test.YtgbdoccgdkifjaaDoorQuHex
namespace Go.Proofs.YtgbdoccgdkifjaaDoor
open Go.RowKit
set_option linter.unusedVariables false

theorem get_bA (s : ByteArray) (i : Nat) : (s.get! i).toNat = bA s.data.toList i := by
  unfold bA
  by_cases h : i < s.size
  · congr 1
    have h1 : s.get! i = s[i]'h := by
      simp [ByteArray.get!, getElem!_pos, h]
      rfl
    rw [h1, List.getD_eq_getElem?_getD, List.getElem?_eq_getElem (by simpa using h)]
    rfl
  · have h2 : s.data.toList[i]? = none := List.getElem?_eq_none (by simp; omega)
    rw [List.getD_eq_getElem?_getD, h2]
    have h4 : s.data[i]? = none := Array.getElem?_eq_none (Nat.le_of_not_lt h)
    simp only [ByteArray.get!, getElem!_def, h4]
    rfl
theorem decode_dec (s : ByteArray) (i : Nat) : Utf8.decode s i = dec (s.data.toList.drop i) := by
  rw [Lib.decode_at]
  unfold dec
  rw [get_bA, get_bA, get_bA, get_bA, bA_drop, bA_drop, bA_drop, bA_drop, List.length_drop]
  simp
theorem decodeGo_dec (s : ByteArray) (h : 0 < s.size) : Lib.decodeGo s = dec s.data.toList := by
  have : Lib.decodeGo s = if s.size = 0 then (65533, 0) else Utf8.decode s 0 := rfl
  rw [this, if_neg (by omega), decode_dec, List.drop_zero]

set_option maxHeartbeats 1000000 in
set_option maxRecDepth 100000 in
theorem strayYes (w : World) (s : ByteArray) (hs : 0 < s.size) (hT : Lib.Utf8Tabs 0 1 w) (hw : wid s.data.toList = 0) :
    Calls Tryd.prog 16 #[.string s] w fun e w' => e = .returned (.bool true) ∧ Below w.heap.size w w' := by
  have hc := Tryd.utf8_DecodeRuneInString s w hT
  rw [decodeGo_dec s hs] at hc
  obtain ⟨h1, h2⟩ := (stray_iff _).2 hw
  rw [h1, h2] at hc
  have HC := Lib.hid hc
  clear hc h1 h2 hw
  go_enter Tryd.func16, Tryd.ntmps16
  go_wp2_with fail
  refine HC.out.mono ?_
  rintro e w' ⟨rfl, hb⟩
  have HB := Lib.hid hb
  clear hb
  go_wp2
  go_ret
  exact ⟨rfl, HB.out⟩
set_option maxHeartbeats 1000000 in
set_option maxRecDepth 100000 in
theorem strayNo (w : World) (s : ByteArray) (hs : 0 < s.size) (hT : Lib.Utf8Tabs 0 1 w) (hw : wid s.data.toList ≠ 0) :
    Calls Tryd.prog 16 #[.string s] w fun e w' => e = .returned (.bool false) ∧ Below w.heap.size w w' := by
  have hc := Tryd.utf8_DecodeRuneInString s w hT
  rw [decodeGo_dec s hs] at hc
  have hn : ¬ ((dec s.data.toList).1 = 65533 ∧ (dec s.data.toList).2 = 1) := fun h => hw ((stray_iff _).1 h)
  obtain ⟨⟨r, n⟩, hd⟩ : ∃ p, dec s.data.toList = p := ⟨_, rfl⟩
  rw [hd] at hc hn
  dsimp only at hc hn
  have HC := Lib.hid hc
  clear hc hw hd
  by_cases h1 : r = 65533
  · subst h1
    have h2 : ((n : Int) == 1) = false := by
      have : n ≠ 1 := fun e => hn ⟨rfl, e⟩
      simp; omega
    go_enter Tryd.func16, Tryd.ntmps16
    go_wp2_with fail
    refine HC.out.mono ?_
    rintro e w' ⟨rfl, hb⟩
    have HB := Lib.hid hb
    clear hb
    go_wp2
    go_ret
    exact ⟨rfl, HB.out⟩
  · have h2 : ((r : Int) == 65533) = false := by simp; omega
    go_enter Tryd.func16, Tryd.ntmps16
    go_wp2_with fail
    refine HC.out.mono ?_
    rintro e w' ⟨rfl, hb⟩
    have HB := Lib.hid hb
    clear hb
    go_wp2
    go_ret
    exact ⟨rfl, HB.out⟩
end Go.Proofs.YtgbdoccgdkifjaaDoor
