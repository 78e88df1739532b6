/- The walk of keys.Common. -/
import Derived.Test.YtnbjnioolcbmiaaBase
namespace Go.Proofs.Ytnbjnioolcbmiaa
open Go.RowKit

/-- What Common hands back: how many first bytes are the same, no more than that. -/
structure CommonR (a b : List UInt8) (n : Nat) : Prop where
  la : n ≤ a.length
  lb : n ≤ b.length
  same : a.take n = b.take n
  stop : n < a.length → n < b.length → a[n]? ≠ b[n]?

set_option maxHeartbeats 1000000 in
theorem common (w : World) {p p' : Option Addr} {c c' : Nat} {a b : List UInt8} (h : IsB w p c a) (h' : IsB w p' c' b) :
    Calls Try.prog 13 #[.slice p a.length c, .slice p' b.length c'] w fun e w' => ∃ n : Nat, e = .returned (.int .i64 n) ∧ CommonR a b n ∧ ∃ k, w' = w.drewN k := by
  have hla : a.length ≤ maxLen := Nat.le_trans h.cap h.big
  unfold maxLen at hla
  have H1 := Lib.hid h
  have H2 := Lib.hid h'
  clear h h'
  go_enter Try.func13, Try.ntmps13
  go_wp2
  go_loopw [5] (fun v5 wr => ∃ i : Nat, v5 = .int .i64 i ∧ i ≤ a.length ∧ i ≤ b.length ∧ Hid (a.take i = b.take i) ∧ ∃ n, wr = w.drewN n) (fun v5 _ => a.length - (intOf v5).toNat)
  case atStart => exact ⟨0, rfl, Nat.zero_le _, Nat.zero_le _, rfl, 0, rfl⟩
  case round =>
    obtain ⟨i, rfl, hia, hib, HT, n, rfl⟩ := hrel
    by_cases h1 : i < a.length
    · by_cases h2 : i < b.length
      · have g1 : (i : Int) < (a.length : Int) := by omega
        have g2 : (i : Int) < (b.length : Int) := by omega
        obtain ⟨b1, o1, rfl, hb1, hc1⟩ := H1.out.cells (by omega)
        obtain ⟨b2, o2, rfl, hb2, hc2⟩ := H2.out.cells (by omega)
        have k1 : w.cell? ⟨b1, o1 + i, none⟩ = some (.int .u8 (a[i].toNat : Int)) := hc1 i _ (List.getElem?_eq_getElem h1)
        have k2 : w.cell? ⟨b2, o2 + i, none⟩ = some (.int .u8 (b[i].toNat : Int)) := hc2 i _ (List.getElem?_eq_getElem h2)
        clear hc1 hc2
        by_cases he : a[i] = b[i]
        · have hm : a.take (i + 1) = b.take (i + 1) := by rw [List.take_succ_eq_append_getElem h1, List.take_succ_eq_append_getElem h2, HT.out, he]
          have HM := Lib.hid hm
          have hq : ((a[i].toNat : Int) == (b[i].toNat : Int)) = true := by rw [he]; simp
          clear hm he
          go_wp2_with fail
          go_quiet (fail)
          go_wp2
          go_roundw
          case rel => exact ⟨i + 1, by go_num, by omega, by omega, HM.out, _, rfl⟩
          case measure => simp [intOf]; omega
        · have hr : CommonR a b i := ⟨by omega, by omega, HT.out, fun _ _ hx => he (by rw [List.getElem?_eq_getElem h1, List.getElem?_eq_getElem h2] at hx; exact Option.some.inj hx)⟩
          have hq : ((a[i].toNat : Int) == (b[i].toNat : Int)) = false := by
            rw [beq_eq_false_iff_ne]
            intro h
            exact he (UInt8.toNat_inj.1 (by omega))
          clear he
          go_wp2_with fail
          go_quiet (fail)
          go_wp2
          go_ret
          exact ⟨i, rfl, hr, _, World.drewN_drewN _ _ _⟩
      · have g1 : (i : Int) < (a.length : Int) := by omega
        have g2 : ¬ ((i : Int) < (b.length : Int)) := by omega
        have hd : decide ((i : Int) < (b.length : Int)) = false := by simpa using g2
        have hr : CommonR a b i := ⟨by omega, by omega, HT.out, fun _ hx => absurd hx h2⟩
        go_wp2_with fail
        go_quiet (fail)
        go_wp2
        go_ret
        exact ⟨i, rfl, hr, _, World.drewN_drewN _ _ _⟩
    · have g1 : ¬ ((i : Int) < (a.length : Int)) := by omega
      have hd : decide ((i : Int) < (a.length : Int)) = false := by simpa using g1
      have hr : CommonR a b i := ⟨by omega, by omega, HT.out, fun hx => absurd hx h1⟩
      go_wp2_with fail
      go_quiet (fail)
      go_wp2
      go_ret
      exact ⟨i, rfl, hr, _, World.drewN_drewN _ _ _⟩
end Go.Proofs.Ytnbjnioolcbmiaa
