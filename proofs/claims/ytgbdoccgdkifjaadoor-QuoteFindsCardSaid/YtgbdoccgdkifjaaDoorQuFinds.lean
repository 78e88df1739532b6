/- The walk of QuoteFinds. -/
import Derived.Test.YtgbdoccgdkifjaaDoorQuLaws
namespace Go.Proofs.YtgbdoccgdkifjaaDoor
open Go.RowKit
set_option linter.unusedVariables false

set_option maxHeartbeats 2000000 in
set_option maxRecDepth 100000 in
theorem quoteFinds_law (w : World) {p : Option Addr} {c : Nat} {l : List UInt8} (h : IsB w p c l) (s : ByteArray) (hT : Lib.Utf8Tabs 0 1 w) :
    Calls Tryd.prog 8 #[.slice p l.length c, .string s] w fun e w' => e = .returned (.bool true) ∧ Below w.heap.size w w' := by
  have HT := Lib.hid hT
  have HAW : Hid (∀ W, Below w.heap.size w W → Calls Tryd.prog 9 #[] W fun e w' => e = .returned (.bool true) ∧ Below W.heap.size W w') := fun W hW => awake W (Utf8Tabs_below HT.out hW)
  have H := Lib.hid h
  clear hT h
  by_cases hl : l.length ≤ 100
  · have g0 : ¬ (100 : Int) < (l.length : Int) := by omega
    by_cases hs : s.size ≤ 700
    · have g1 : ¬ (700 : Int) < (s.size : Int) := by omega
      have hpa := parW w s.data.toList (by rw [sz_of]; omega) HT.out
      rw [str_of] at hpa
      have HRP := fun W => Lib.hid (refPrint W (str l) (by rw [str_size]; omega))
      simp only [str_data] at HRP
      by_cases hq : qt l = s.data.toList
      · have hpq : pars s.data.toList = some l := by rw [← hq]; exact pars_of_qt l
        rw [hpq] at hpa
        have hqs : str (qt l) = s := by rw [hq, str_of]
        simp only [hqs] at HRP
        have HPA := Lib.hid hpa
        clear hpa hpq hq hqs
        go_enter Tryd.func8, Tryd.ntmps8
        go_wp2_with fail
        refine HPA.out.mono ?_
        rintro e w1 ⟨⟨q, d, rfl, hI⟩, hb1⟩
        have B1 := Lib.hid hb1
        have I1 := Lib.hid hI
        have kb := conv_of (H.out.below hb1)
        clear hb1 hI
        go_wp2_with fail
        refine (HRP _).out.mono ?_
        rintro e w2 ⟨rfl, hb2⟩
        have B2 := Lib.hid (below_on B1.out hb2 (Nat.le_refl _))
        have kb2 := conv_of (H.out.below B2.out)
        have kc2 := conv_of (I1.out.below hb2)
        clear hb2 kb
        go_wp2_with fail
        refine (HAW.out _ B2.out).mono ?_
        rintro e w3 ⟨rfl, hb3⟩
        have B3 := Lib.hid (below_on B2.out hb3 (Nat.le_refl _))
        clear hb3
        go_wp2
        go_ret
        exact ⟨rfl, B3.out⟩
      · have e1 : ((str (qt l)).toList == s.toList) = false := by
          rw [str_toList, ByteArray.toList_eq]
          simpa using hq
        cases hr : pars s.data.toList with
        | none =>
          rw [hr] at hpa
          have HPA := Lib.hid hpa
          clear hpa hq hr
          go_enter Tryd.func8, Tryd.ntmps8
          go_wp2_with fail
          refine HPA.out.mono ?_
          rintro e w1 ⟨he, hb1⟩
          obtain rfl : e = .returned (.tuple #[.slice none 0 0, .int .i64 2]) := he
          have B1 := Lib.hid hb1
          have kb := conv_of (H.out.below hb1)
          clear hb1
          go_wp2_with fail
          refine (HRP _).out.mono ?_
          rintro e w2 ⟨rfl, hb2⟩
          have B2 := Lib.hid (below_on B1.out hb2 (Nat.le_refl _))
          clear hb2 kb
          go_wp2_with fail
          refine (HAW.out _ B2.out).mono ?_
          rintro e w3 ⟨rfl, hb3⟩
          have B3 := Lib.hid (below_on B2.out hb3 (Nat.le_refl _))
          clear hb3
          go_wp2
          go_ret
          exact ⟨rfl, B3.out⟩
        | some b =>
          have hbl : b ≠ l := fun e => hq (by rw [← e]; exact pars_qt hr)
          have e2 : ((str b).toList == (str l).toList) = false := by
            rw [str_toList, str_toList]
            simpa using hbl
          have e3 : ((str b).toList != (str l).toList) = true := by rw [bne, e2]; rfl
          rw [hr] at hpa
          have HPA := Lib.hid hpa
          clear hpa hq hr hbl
          go_enter Tryd.func8, Tryd.ntmps8
          go_wp2_with fail
          refine HPA.out.mono ?_
          rintro e w1 ⟨⟨q, d, rfl, hI⟩, hb1⟩
          have B1 := Lib.hid hb1
          have I1 := Lib.hid hI
          have kb := conv_of (H.out.below hb1)
          clear hb1 hI
          go_wp2_with fail
          refine (HRP _).out.mono ?_
          rintro e w2 ⟨rfl, hb2⟩
          have B2 := Lib.hid (below_on B1.out hb2 (Nat.le_refl _))
          have kb2 := conv_of (H.out.below B2.out)
          have kc2 := conv_of (I1.out.below hb2)
          clear hb2 kb
          go_wp2_with fail
          refine (HAW.out _ B2.out).mono ?_
          rintro e w3 ⟨rfl, hb3⟩
          have B3 := Lib.hid (below_on B2.out hb3 (Nat.le_refl _))
          clear hb3
          go_wp2
          go_ret
          exact ⟨rfl, B3.out⟩
    · have g1 : (700 : Int) < (s.size : Int) := by omega
      go_enter Tryd.func8, Tryd.ntmps8
      go_wp2_with fail
      refine (HAW.out _ (Below.refl _ _)).mono ?_
      rintro e w2 ⟨rfl, hb2⟩
      have B2 := Lib.hid hb2
      clear hb2
      go_wp2
      go_ret
      exact ⟨rfl, B2.out⟩
  · have g0 : (100 : Int) < (l.length : Int) := by omega
    go_enter Tryd.func8, Tryd.ntmps8
    go_wp2_with fail
    refine (HAW.out _ (Below.refl _ _)).mono ?_
    rintro e w2 ⟨rfl, hb2⟩
    have B2 := Lib.hid hb2
    clear hb2
    go_wp2
    go_ret
    exact ⟨rfl, B2.out⟩
end Go.Proofs.YtgbdoccgdkifjaaDoor
