/- The walk of the reference's Less. -/
import Derived.Test.YtegmcfnaiclmeaaBase
import Derived.Test.YtegmcfnaiclmeaaPure
namespace Go.Proofs.Ytegmcfnaiclmeaa
open Go.RowKit

theorem getL (s : ByteArray) (i : Nat) (h : i < s.size) : s.data.toList[i]'(by simpa using h) = s[i] := rfl

set_option maxHeartbeats 1000000 in
theorem refLess (a b : ByteArray) (w : World) (ha : a.size ≤ 9223372036854775807) (_hb : b.size ≤ 9223372036854775807) :
    Calls Try.prog 11 #[.string a, .string b] w fun e w' => e = .returned (.bool (lessB a.data.toList b.data.toList)) ∧ ∃ n, w' = w.drewN n := by
  have la : a.data.toList.length = a.size := by simp
  have lb : b.data.toList.length = b.size := by simp
  have LA := Lib.hid la
  have LB := Lib.hid lb
  clear la lb
  go_enter Try.func11, Try.ntmps11
  go_wp2
  go_loopw [5] (fun v5 wr => ∃ i : Nat, v5 = .int .i64 i ∧ i ≤ a.size ∧ i ≤ b.size ∧ Hid (a.data.toList.take i = b.data.toList.take i) ∧ ∃ n, wr = w.drewN n) (fun v5 _ => a.size - (intOf v5).toNat)
  case atStart => exact ⟨0, rfl, Nat.zero_le _, Nat.zero_le _, rfl, 0, rfl⟩
  case round =>
    obtain ⟨i, rfl, hia, hib, HT, n, rfl⟩ := hrel
    by_cases h1 : i < a.size
    · by_cases h2 : i < b.size
      · have g1 : (i : Int) < (a.size : Int) := by omega
        have g2 : (i : Int) < (b.size : Int) := by omega
        have la : a.data.toList.length = a.size := by simp
        have lb : b.data.toList.length = b.size := by simp
        by_cases he : a[i] = b[i]
        · have hm := take_more HT.out (by omega) (by omega) he
          have HM := Lib.hid hm
          have hq : ((a[i].toNat : Int) != (b[i].toNat : Int)) = false := by rw [he]; simp
          clear hm he la lb
          go_wp2_with fail
          go_quiet (fail)
          go_wp2
          go_roundw
          case rel => exact ⟨i + 1, by go_num, by omega, by omega, HM.out, _, rfl⟩
          case measure => simp [intOf]; omega
        · have hl : lessB a.data.toList b.data.toList = decide (a[i] < b[i]) := less_at HT.out (by omega) (by omega) he
          have HL := Lib.hid hl
          have hq : ((a[i].toNat : Int) != (b[i].toNat : Int)) = true := by
            rw [bne_iff_ne]
            intro h
            exact he (UInt8.toNat_inj.1 (by omega))
          clear hl he la lb
          go_wp2_with fail
          go_quiet (fail)
          go_wp2_with fail
          go_quiet (fail)
          go_wp2
          go_ret
          refine ⟨?_, _, by rw [World.drewN_drewN, World.drewN_drewN]⟩
          rw [HL.out]
          exact congrArg (fun x => Ending.returned (.bool x)) (decide_eq_decide.2 (by rw [UInt8.lt_iff_toNat_lt]))
      · have g1 : (i : Int) < (a.size : Int) := by omega
        have g2 : ¬ ((i : Int) < (b.size : Int)) := by omega
        have la : a.data.toList.length = a.size := by simp
        have lb : b.data.toList.length = b.size := by simp
        have hl := less_end HT.out (.inr (by omega)) (by omega) (by omega)
        rw [la, lb] at hl
        have HL := Lib.hid hl
        clear hl la lb
        go_wp2
        go_ret
        refine ⟨?_, _, rfl⟩
        rw [HL.out]
        rfl
    · have g1 : ¬ ((i : Int) < (a.size : Int)) := by omega
      have la : a.data.toList.length = a.size := by simp
      have lb : b.data.toList.length = b.size := by simp
      have hl := less_end HT.out (.inl (by omega)) (by omega) (by omega)
      rw [la, lb] at hl
      have HL := Lib.hid hl
      clear hl la lb
      go_wp2
      go_ret
      refine ⟨?_, _, rfl⟩
      rw [HL.out]
      rfl
end Go.Proofs.Ytegmcfnaiclmeaa
