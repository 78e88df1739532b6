/- The walk of the reference's Behind. -/
import Derived.Test.YtnbjnioolcbmiaaBehind
namespace Go.Proofs.Ytnbjnioolcbmiaa
open Go.RowKit

theorem bv_up {x : UInt8} (h : x.toNat < 255) : bv (x + 1) = .int .u8 ((x.toNat : Int) + 1) := by
  rw [bv_succ, Int.emod_eq_of_lt (by omega) (by omega)]
theorem ex_data (t : ByteArray) (m : Nat) : (t.extract 0 m).data.toList = t.data.toList.take m := by simp
theorem ex_size (t : ByteArray) (m : Nat) (h : m ≤ t.size) : (t.extract 0 m).size = m := by
  have : (t.extract 0 m).data.toList.length = m := by rw [ex_data, List.length_take]; simp; omega
  simpa using this
theorem conv_one (w : World) (x : UInt8) (h : x.toNat < 255) : (Go.convert 22 9 (.slice (some ⟨w.heap.size, 0, none⟩) 1 1)).run Try.prog (w.alloc (.cells #[.int .u8 ((x.toNat : Int) + 1)] 5)) =
    .ok (.string (str [x + 1])) (w.alloc (.cells #[.int .u8 ((x.toNat : Int) + 1)] 5)) := by
  rw [← bv_up h]
  exact (IsB.lit w [x + 1] 5 (0, 0) (by unfold maxLen; simp)).convert Try.underlying22 Try.underlying5 Try.underlying9

set_option maxHeartbeats 1000000 in
set_option maxRecDepth 100000 in
theorem refBehind (s : ByteArray) (w : World) (hs : s.size ≤ 1000000) :
    Calls Try.prog 15 #[.string s] w fun e w' => ∃ t : ByteArray, e = .returned (.tuple #[.string t, .bool (behindB s.data.toList).isSome]) ∧ t.data.toList = (behindB s.data.toList).getD [] ∧ Below w.heap.size w w' := by
  have ls : s.data.toList.length = s.size := by simp
  generalize hl : s.data.toList = l at *
  have HL := Lib.hid hl
  have LS := Lib.hid ls
  clear hl ls
  go_enter Try.func15, Try.ntmps15
  go_wp2
  go_loop [0, 4] (fun v0 _ => ∃ t : ByteArray, v0 = .string t ∧ t.size ≤ s.size ∧ Hid (t.data.toList = l.take t.size) ∧ Hid (behindB l = behindB (l.take t.size))) (fun v0 _ => match v0 with | .string t => t.size | _ => 0)
  case atStart => exact ⟨s, rfl, Nat.le_refl _, by rw [HL.out, ← LS.out, List.take_length]; rfl, by rw [← LS.out, List.take_length]; rfl⟩
  case round =>
    obtain ⟨t, rfl, ht, HT, HB⟩ := hrel
    rcases Nat.eq_zero_or_pos t.size with h0 | h0
    · have hz : behindB l = none := HB.out.trans (by rw [h0, List.take_zero]; rfl)
      have HZ := Lib.hid hz
      clear hz
      go_wp2
      go_ret2
      exact ⟨ByteArray.empty, by rw [HZ.out]; rfl, by rw [HZ.out]; rfl, Below.refl _ _⟩
    · obtain ⟨m, hm⟩ : ∃ m, t.size = m + 1 := ⟨t.size - 1, by omega⟩
      have hml : m < l.length := by rw [LS.out]; omega
      have hx : t[m]'(by omega) = l[m] := by
        have h1 : t.data.toList[m]? = l[m]? := by rw [HT.out, hm, List.getElem?_take, if_pos (by omega)]
        rw [List.getElem?_eq_getElem (by simp; exact (by omega : m < t.size)), List.getElem?_eq_getElem hml] at h1
        exact Option.some.inj h1
      have HX := Lib.hid hx
      have hes := ex_size t m (by omega)
      have hed : Hid ((t.extract 0 m).data.toList = l.take m) := by
        show (t.extract 0 m).data.toList = l.take m
        rw [ex_data, HT.out, hm, List.take_take, Nat.min_eq_left (by omega)]
      by_cases hc : (t[m].toNat) < 255
      · have kc := conv_one w t[m] hc
        have hne : l[m] ≠ 255 := by
          rw [← hx]
          intro h
          rw [h] at hc
          exact absurd hc (by decide)
        have hb : behindB l = some (l.take m ++ [l[m] + 1]) := HB.out.trans (by rw [hm]; exact behind_else hml hne)
        have hz : (t.extract 0 m).size + (str [t[m] + 1]).size ≤ 9223372036854775807 := by rw [hes, str_size]; simp; omega
        have HES := Lib.hid hes
        have HB2 := Lib.hid hb
        have hci : ((t[m].toNat : Nat) : Int) < 255 := by omega
        clear hx hes hb hne
        go_wp2
        go_ret2
        refine ⟨_, by rw [HB2.out]; rfl, ?_, (Below.refl _ _).alloc (Nat.le_refl _) _⟩
        rw [HB2.out]
        show (t.extract 0 m ++ str [t[m] + 1]).data.toList = l.take m ++ [l[m] + 1]
        rw [ByteArray.data_append, Array.toList_append, hed.out, str_data, HX.out]
      · have hci : ¬ ((t[m].toNat : Nat) : Int) < 255 := by omega
        have hne : l[m] = 255 := by
          rw [← hx]
          have := t[m].toNat_lt
          exact UInt8.toNat_inj.1 (by show t[m].toNat = 255; omega)
        have hb : behindB l = behindB (l.take m) := HB.out.trans (by rw [hm]; exact behind_top hml hne)
        have HES := Lib.hid hes
        have HB2 := Lib.hid hb
        clear hx hes hb hne
        go_wp2
        go_round
        case rel => exact ⟨_, rfl, by rw [HES.out]; omega, by rw [HES.out]; exact hed, by rw [HES.out]; exact HB2⟩
        case measure => show (t.extract 0 m).size < t.size; rw [HES.out]; omega
end Go.Proofs.Ytnbjnioolcbmiaa
