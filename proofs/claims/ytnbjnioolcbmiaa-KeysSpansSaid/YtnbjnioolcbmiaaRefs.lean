/- The walks of the reference's Begins and Behind. -/
import Derived.Test.YtnbjnioolcbmiaaLess
import Derived.Test.YtnbjnioolcbmiaaEq
import Derived.Test.YtnbjnioolcbmiaaBehind
namespace Go.Proofs.Ytnbjnioolcbmiaa
open Go.RowKit

theorem begins_no {k p : List UInt8} {i : Nat} (h1 : i < k.length) (h2 : i < p.length) (hne : k[i] ≠ p[i]) : begins k p = false := by
  unfold begins
  rw [Bool.eq_false_iff, ne_eq, List.isPrefixOf_iff_prefix]
  intro hp
  exact hne (hp.getElem h2).symm
theorem begins_yes {k p : List UInt8} (h : k.take p.length = p.take p.length) : begins k p = true := by
  unfold begins
  rw [List.isPrefixOf_iff_prefix, List.prefix_iff_eq_take, h, List.take_length]

set_option maxHeartbeats 1000000 in
theorem refBegins (a b : ByteArray) (w : World) (ha : a.size ≤ 9223372036854775807) :
    Calls Try.prog 19 #[.string a, .string b] w fun e w' => e = .returned (.bool (begins a.data.toList b.data.toList)) ∧ ∃ n, w' = w.drewN n := by
  have la0 : a.data.toList.length = a.size := by simp
  have lb0 : b.data.toList.length = b.size := by simp
  by_cases hs : a.size < b.size
  · have hb := begins_short a.data.toList b.data.toList (by omega)
    have HB := Lib.hid hb
    have g1 : (a.size : Int) < (b.size : Int) := by omega
    clear hb la0 lb0
    go_enter Try.func19, Try.ntmps19
    go_wp2
    go_ret
    exact ⟨by rw [HB.out]; rfl, 0, rfl⟩
  · have g1 : ¬ ((a.size : Int) < (b.size : Int)) := by omega
    have gd : decide ((a.size : Int) < (b.size : Int)) = false := by simpa using g1
    clear la0 lb0
    go_enter Try.func19, Try.ntmps19
    go_wp2
    go_loopw [5] (fun v5 wr => ∃ i : Nat, v5 = .int .i64 i ∧ i ≤ b.size ∧ Hid (a.data.toList.take i = b.data.toList.take i) ∧ ∃ n, wr = w.drewN n) (fun v5 _ => b.size - (intOf v5).toNat)
    case atStart => exact ⟨0, rfl, Nat.zero_le _, rfl, 0, rfl⟩
    case round =>
      obtain ⟨i, rfl, hib, HT, n, rfl⟩ := hrel
      have la : a.data.toList.length = a.size := by simp
      have lb : b.data.toList.length = b.size := by simp
      by_cases h2 : i < b.size
      · have h1 : i < a.size := by omega
        have g2 : (i : Int) < (b.size : Int) := by omega
        have g3 : (i : Int) < (a.size : Int) := by omega
        by_cases he : a[i] = b[i]
        · have hm := take_more HT.out (by omega) (by omega) he
          have HM := Lib.hid hm
          have hq : ((a[i].toNat : Int) != (b[i].toNat : Int)) = false := by rw [he]; simp
          clear hm he la lb
          go_wp2_with fail
          go_quiet (fail)
          go_wp2
          go_roundw
          case rel => exact ⟨i + 1, by go_num, by omega, HM.out, _, rfl⟩
          case measure => simp [intOf]; omega
        · have hl : begins a.data.toList b.data.toList = false := begins_no (i := i) (by omega) (by omega) he
          have HL := Lib.hid hl
          have hq : ((a[i].toNat : Int) != (b[i].toNat : Int)) = true := by
            rw [bne_iff_ne]
            intro h
            exact he (UInt8.toNat_inj.1 (by omega))
          clear hl he la lb
          go_wp2_with fail
          go_quiet (fail)
          go_wp2
          go_ret
          exact ⟨by rw [HL.out]; rfl, _, World.drewN_drewN _ _ _⟩
      · have g2 : ¬ ((i : Int) < (b.size : Int)) := by omega
        obtain rfl : i = b.size := by omega
        have hl : begins a.data.toList b.data.toList = true := begins_yes (by rw [lb]; exact HT.out)
        have HL := Lib.hid hl
        clear hl la lb
        go_wp2
        go_ret
        exact ⟨by rw [HL.out]; rfl, _, rfl⟩
end Go.Proofs.Ytnbjnioolcbmiaa
