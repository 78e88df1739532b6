/- The walk of FrameOrder. Printed by wip/tools/gen_frorder.py. -/
import Derived.Test.YtdiliajpcgfpoaaFrAwake
import Derived.Deep.RegionWith
import Derived.Deep.DeepCutAuto
namespace Go.Proofs.Ytdiliajpcgfpoaa
open Go.RowKit

theorem bytesLess_cmp : ∀ (a b : List UInt8), Op.bytesLess a b = (Lib.compareBytes a b == -1)
  | [], [] => rfl
  | [], _ :: _ => rfl
  | _ :: _, [] => rfl
  | x :: a, y :: b => by
    rw [Op.bytesLess, bytesLess_cmp a b]
    rw [show Lib.compareBytes (x :: a) (y :: b) = if x < y then -1 else if y < x then 1 else Lib.compareBytes a b from rfl]
    by_cases h1 : x < y
    · simp [h1]
    · by_cases h2 : y < x
      · have : ¬ x = y := fun e => by subst e; exact h1 h2
        simp [h1, h2, this]
      · have : x = y := UInt8.le_antisymm (by simpa using h2) (by simpa using h1)
        subst this
        simp [h1]
theorem enc_lt {a b : Nat} : sizeN a = sizeN b → Op.bytesLess (str (enc a)).toList (str (enc b)).toList = decide (a < b) := by
  intro h
  rw [bytesLess_cmp, Lib.toList_data, Lib.toList_data, str_data, str_data, Bool.eq_iff_iff, beq_iff_eq, decide_eq_true_iff]
  exact enc_less h

theorem numR_later {w w' : World} {q : Option Addr} {d : Nat} {l : List UInt8} (h : NumR w w' q d l) (w2 : World) (hb : Below w'.heap.size w' w2) : (Go.convert 23 9 (.slice q l.length d)).run Try.prog w2 = .ok (.string (str l)) w2 :=
  (h.isB.below hb).convert (P := Try.prog) Try.underlying23 Try.underlying5 Try.underlying9
theorem below_two {w w1 w2 : World} {q q' : Option Addr} {d d' : Nat} {l l' : List UInt8} (h : NumR w.drew w1 q d l) (h' : NumR w1 w2 q' d' l') : Below w.heap.size w w2 :=
  ((Below.refl _ w).drew.trans h.below).trans (h'.below.mono h.below.size)

set_option maxHeartbeats 2000000 in
set_option maxRecDepth 100000 in
theorem frameOrder_calls (w : World) (a b : Nat) (ha : a < 18446744073709551616) (hb : b < 18446744073709551616) : Calls Try.prog 3 #[.int .u64 (a : Int), .int .u64 (b : Int)] w fun e w' => e = .returned (.bool true) ∧ Below w.heap.size w w' := by
  by_cases hab : b < a
  · have g0 : (b : Int) < (a : Int) := by omega
    obtain ⟨E, hE⟩ : ∃ E : Nat → List UInt8, ∀ n, E n = enc n := ⟨enc, fun _ => rfl⟩
    have hN : ∀ (n : Nat) (w : World), n < 18446744073709551616 → Calls Try.prog 8 #[.int .u64 (n : Int)] w fun e w' => ∃ q d, e = .returned (.slice q (E n).length d) ∧ NumR w w' q d (E n) := fun n w h => by rw [hE]; exact frNumber w n h
    have HN := Lib.hid hN
    have HE := Lib.hid hE
    clear hN hE
    go_enter Try.func3, Try.ntmps3
    go_upto_region 3 with fail
    go_cut [5, 6] (fun v5 v6 wx => v5 = .string (str (E b)) ∧ v6 = .string (str (E a)) ∧ Below w.heap.size w wx)
    case first =>
      go_region_with (go_at_call 8; refine (HN.out _ _ ?_).mono ?_; omega; rintro e w' ⟨q, d, rfl, hn⟩; have hl := numR_later hn; have hb := hn.below; have k := hn.str)
      all_goals (go_wp2_with fail; go_meet; exact ⟨rfl, rfl, below_two (by assumption) (by assumption)⟩)
    case rest =>
      obtain ⟨rfl, rfl, hb⟩ := hcut
      have HB := Lib.hid hb
      clear hb HN
      rw [HE.out b, HE.out a]
      clear HE
      have sx := str_size (enc b)
      have sy := str_size (enc a)
      have lx := enc_length b
      have ly := enc_length a
      have hle : sizeN b ≤ sizeN a := size_mono (by omega)
      have zx := size_le (n := b) (by omega)
      have zy := size_le (n := a) (by omega)
      rw [lx] at sx
      rw [ly] at sy
      have LT := Lib.hid (enc_lt (a := b) (b := a))
      have hSX := fun w => frSize w b (by omega)
      have hSY := fun w => frSize w a (by omega)
      generalize str (enc b) = s at *
      generalize str (enc a) = t at *
      generalize sizeN b = m at *
      generalize sizeN a = n at *
      subst sx
      subst sy
      have HSX := fun w => Lib.hid (hSX w)
      have HSY := fun w => Lib.hid (hSY w)
      have gle : decide ((s.size : Int) ≤ (t.size : Int)) = true := by simp; omega
      clear hSX hSY lx ly
      go_wp2_with fail
      refine (HSX _).out.mono ?_
      rintro e w' ⟨rfl, rfl⟩
      go_wp2_with fail
      refine (HSY _).out.mono ?_
      rintro e w' ⟨rfl, rfl⟩
      go_wp2_with fail
      refine (HSX _).out.mono ?_
      rintro e w' ⟨rfl, rfl⟩
      go_wp2_with fail
      refine (HSY _).out.mono ?_
      rintro e w' ⟨rfl, rfl⟩
      by_cases hst : s.size = t.size
      · have hlt := LT.out hst
        have gne : ((s.size : Int) == (t.size : Int)) = true := by simp; omega
        by_cases hxy : b < a
        · rw [decide_eq_true hxy] at hlt
          have gxy : (b : Int) < (a : Int) := by omega
          have gxy2 : decide ((b : Int) < (a : Int)) = true := by simp; omega
          go_wp2_with fail
          refine (awake _).mono ?_
          rintro e w' ⟨rfl, hbel⟩
          have HB2 := Lib.hid (HB.out.trans (hbel.mono HB.out.size))
          go_wp2
          go_ret
          exact ⟨rfl, HB2.out⟩
        · exact absurd hab hxy
      · have gne : ((s.size : Int) == (t.size : Int)) = false := by simp; omega
        have gne2 : ¬ (s.size : Int) = (t.size : Int) := by omega
        go_wp2_with fail
        refine (awake _).mono ?_
        rintro e w' ⟨rfl, hbel⟩
        have HB2 := Lib.hid (HB.out.trans (hbel.mono HB.out.size))
        go_wp2
        go_ret
        exact ⟨rfl, HB2.out⟩
  · have g0 : ¬ (b : Int) < (a : Int) := by omega
    obtain ⟨E, hE⟩ : ∃ E : Nat → List UInt8, ∀ n, E n = enc n := ⟨enc, fun _ => rfl⟩
    have hN : ∀ (n : Nat) (w : World), n < 18446744073709551616 → Calls Try.prog 8 #[.int .u64 (n : Int)] w fun e w' => ∃ q d, e = .returned (.slice q (E n).length d) ∧ NumR w w' q d (E n) := fun n w h => by rw [hE]; exact frNumber w n h
    have HN := Lib.hid hN
    have HE := Lib.hid hE
    clear hN hE
    go_enter Try.func3, Try.ntmps3
    go_upto_region 3 with fail
    go_cut [5, 6] (fun v5 v6 wx => v5 = .string (str (E a)) ∧ v6 = .string (str (E b)) ∧ Below w.heap.size w wx)
    case first =>
      go_region_with (go_at_call 8; refine (HN.out _ _ ?_).mono ?_; omega; rintro e w' ⟨q, d, rfl, hn⟩; have hl := numR_later hn; have hb := hn.below; have k := hn.str)
      all_goals (go_wp2_with fail; go_meet; exact ⟨rfl, rfl, below_two (by assumption) (by assumption)⟩)
    case rest =>
      obtain ⟨rfl, rfl, hb⟩ := hcut
      have HB := Lib.hid hb
      clear hb HN
      rw [HE.out a, HE.out b]
      clear HE
      have sx := str_size (enc a)
      have sy := str_size (enc b)
      have lx := enc_length a
      have ly := enc_length b
      have hle : sizeN a ≤ sizeN b := size_mono (by omega)
      have zx := size_le (n := a) (by omega)
      have zy := size_le (n := b) (by omega)
      rw [lx] at sx
      rw [ly] at sy
      have LT := Lib.hid (enc_lt (a := a) (b := b))
      have hSX := fun w => frSize w a (by omega)
      have hSY := fun w => frSize w b (by omega)
      generalize str (enc a) = s at *
      generalize str (enc b) = t at *
      generalize sizeN a = m at *
      generalize sizeN b = n at *
      subst sx
      subst sy
      have HSX := fun w => Lib.hid (hSX w)
      have HSY := fun w => Lib.hid (hSY w)
      have gle : decide ((s.size : Int) ≤ (t.size : Int)) = true := by simp; omega
      clear hSX hSY lx ly
      go_wp2_with fail
      refine (HSX _).out.mono ?_
      rintro e w' ⟨rfl, rfl⟩
      go_wp2_with fail
      refine (HSY _).out.mono ?_
      rintro e w' ⟨rfl, rfl⟩
      go_wp2_with fail
      refine (HSX _).out.mono ?_
      rintro e w' ⟨rfl, rfl⟩
      go_wp2_with fail
      refine (HSY _).out.mono ?_
      rintro e w' ⟨rfl, rfl⟩
      by_cases hst : s.size = t.size
      · have hlt := LT.out hst
        have gne : ((s.size : Int) == (t.size : Int)) = true := by simp; omega
        by_cases hxy : a < b
        · rw [decide_eq_true hxy] at hlt
          have gxy : (a : Int) < (b : Int) := by omega
          have gxy2 : decide ((a : Int) < (b : Int)) = true := by simp; omega
          go_wp2_with fail
          refine (awake _).mono ?_
          rintro e w' ⟨rfl, hbel⟩
          have HB2 := Lib.hid (HB.out.trans (hbel.mono HB.out.size))
          go_wp2
          go_ret
          exact ⟨rfl, HB2.out⟩
        · rw [decide_eq_false hxy] at hlt
          have gxy : ¬ (a : Int) < (b : Int) := by omega
          have gxy2 : decide ((a : Int) < (b : Int)) = false := by simp; omega
          go_wp2_with fail
          refine (awake _).mono ?_
          rintro e w' ⟨rfl, hbel⟩
          have HB2 := Lib.hid (HB.out.trans (hbel.mono HB.out.size))
          go_wp2
          go_ret
          exact ⟨rfl, HB2.out⟩
      · have gne : ((s.size : Int) == (t.size : Int)) = false := by simp; omega
        have gne2 : ¬ (s.size : Int) = (t.size : Int) := by omega
        go_wp2_with fail
        refine (awake _).mono ?_
        rintro e w' ⟨rfl, hbel⟩
        have HB2 := Lib.hid (HB.out.trans (hbel.mono HB.out.size))
        go_wp2
        go_ret
        exact ⟨rfl, HB2.out⟩

theorem u64_of_wf {n : Int} (h : (Lit.int .u64 n).wf = true) : ∃ m : Nat, n = (m : Int) ∧ m < 18446744073709551616 := by
  have h2 : 0 ≤ n ∧ n < 18446744073709551616 := by
    simp [Lit.wf, IntKind.min, IntKind.max, IntKind.signed, IntKind.bits] at h
    omega
  exact ⟨n.toNat, by omega, by omega⟩
theorem frameOrder_law (w : World) {a b : Int} (ha : (Lit.int .u64 a).wf = true) (hb : (Lit.int .u64 b).wf = true) : Calls Try.prog 3 #[.int .u64 a, .int .u64 b] w fun e w' => e = .returned (.bool true) ∧ Below w.heap.size w w' := by
  obtain ⟨a, rfl, ha2⟩ := u64_of_wf ha
  obtain ⟨b, rfl, hb2⟩ := u64_of_wf hb
  exact frameOrder_calls w a b ha2 hb2
end Go.Proofs.Ytdiliajpcgfpoaa
