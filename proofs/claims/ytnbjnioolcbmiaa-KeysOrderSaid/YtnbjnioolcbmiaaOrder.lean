/- The walk of KeysOrder. -/
import Derived.Test.YtnbjnioolcbmiaaAwake
import Derived.Test.YtnbjnioolcbmiaaSmall
namespace Go.Proofs.Ytnbjnioolcbmiaa
open Go.RowKit

set_option maxHeartbeats 2000000 in
set_option maxRecDepth 100000 in
theorem keysOrder_calls (w : World) {p1 p2 p3 : Option Addr} {c1 c2 c3 : Nat} {a b c : List UInt8} (h1 : IsB w p1 c1 a) (h2 : IsB w p2 c2 b) (h3 : IsB w p3 c3 c) :
    Calls Try.prog 3 #[.slice p1 a.length c1, .slice p2 b.length c2, .slice p3 c.length c3] w fun e w' => e = .returned (.bool true) ∧ Below w.heap.size w w' := by
  have H1 := Lib.hid h1
  have H2 := Lib.hid h2
  have H3 := Lib.hid h3
  have hsm := small_lit w [(p1, a.length, c1), (p2, b.length, c2), (p3, c.length, c3)] (by simp)
  have HS := Lib.hid hsm
  clear h1 h2 h3 hsm
  go_enter Try.func3, Try.ntmps3
  go_wp2_with fail
  refine HS.out.mono ?_
  rintro e W ⟨rfl, hb⟩
  cases hsb : smallB [(p1, a.length, c1), (p2, b.length, c2), (p3, c.length, c3)] with
  | false =>
    have HB := Lib.hid hb
    clear hb hsb
    go_wp2_with fail
    refine (awake W).mono ?_
    rintro e w' ⟨rfl, hb2⟩
    go_wp2
    go_ret
    exact ⟨rfl, HB.out.trans (hb2.mono HB.out.size)⟩
  | true =>
    have g1 := H1.out.below hb
    have g2 := H2.out.below hb
    have g3 := H3.out.below hb
    have cab := keysCompare W g1 g2
    have cba := keysCompare W g2 g1
    have caa := keysCompare W g1 g1
    have cbc := keysCompare W g2 g3
    have cac := keysCompare W g1 g3
    have ht : Lib.compareBytes a b ≤ 0 → Lib.compareBytes b c ≤ 0 → Lib.compareBytes a c ≤ 0 := cmp_trans
    have r1 : -1 ≤ Lib.compareBytes a b ∧ Lib.compareBytes a b ≤ 1 := by rcases cmp_range a b with h | h | h <;> omega
    rw [cmp_swap b a] at cba
    rw [cmp_self] at caa
    generalize Lib.compareBytes a b = x at *
    generalize Lib.compareBytes b c = y at *
    generalize Lib.compareBytes a c = z at *
    have Cab := Lib.hid cab
    have Cba := Lib.hid cba
    have Caa := Lib.hid caa
    have Cbc := Lib.hid cbc
    have Cac := Lib.hid cac
    have HB := Lib.hid hb
    have HT : Hid (x ≤ 0 → y ≤ 0 → z ≤ 0) := ht
    obtain ⟨r1, r2⟩ := r1
    clear cab cba caa cbc cac hb ht g1 g2 g3 hsb
    go_wp2_with fail
    refine Cab.out.mono ?_
    rintro e w' ⟨rfl, rfl⟩
    go_wp2_with fail
    refine Cba.out.mono ?_
    rintro e w' ⟨rfl, rfl⟩
    go_wp2_with fail
    refine Caa.out.mono ?_
    rintro e w' ⟨rfl, rfl⟩
    go_wp2_with fail
    refine Cab.out.mono ?_
    rintro e w' ⟨rfl, rfl⟩
    by_cases hx : x ≤ 0
    · go_wp2_with fail
      refine Cbc.out.mono ?_
      rintro e w' ⟨rfl, rfl⟩
      by_cases hy : y ≤ 0
      · have hz : ¬ 0 < z := by have := HT.out hx hy; omega
        go_wp2_with fail
        refine Cac.out.mono ?_
        rintro e w' ⟨rfl, rfl⟩
        go_wp2_with fail
        refine (awake W).mono ?_
        rintro e w' ⟨rfl, hb2⟩
        go_wp2
        go_ret
        exact ⟨rfl, HB.out.trans (hb2.mono HB.out.size)⟩
      · go_wp2_with fail
        refine (awake W).mono ?_
        rintro e w' ⟨rfl, hb2⟩
        go_wp2
        go_ret
        exact ⟨rfl, HB.out.trans (hb2.mono HB.out.size)⟩
    · go_wp2_with fail
      refine (awake W).mono ?_
      rintro e w' ⟨rfl, hb2⟩
      go_wp2
      go_ret
      exact ⟨rfl, HB.out.trans (hb2.mono HB.out.size)⟩
end Go.Proofs.Ytnbjnioolcbmiaa
