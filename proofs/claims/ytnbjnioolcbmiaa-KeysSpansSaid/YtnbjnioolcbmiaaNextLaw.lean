/- The walk of KeysNext. -/
import Derived.Test.YtnbjnioolcbmiaaAwake
import Derived.Test.YtnbjnioolcbmiaaSmall
import Derived.Test.YtnbjnioolcbmiaaNext
namespace Go.Proofs.Ytnbjnioolcbmiaa
open Go.RowKit

theorem cmp_snoc : ∀ l : List UInt8, Lib.compareBytes l (l ++ [0]) = -1
  | [] => rfl
  | x :: l => by
    rw [List.cons_append]
    unfold Lib.compareBytes
    rw [if_neg (UInt8.lt_irrefl x), if_neg (UInt8.lt_irrefl x)]
    exact cmp_snoc l
theorem cmp_between : ∀ x l : List UInt8, 0 < Lib.compareBytes x l → 0 ≤ Lib.compareBytes x (l ++ [0])
  | [], [], h => by simp [Lib.compareBytes] at h
  | [], _ :: _, h => by simp [Lib.compareBytes] at h
  | y :: x, [], _ => by
    rw [List.nil_append]
    unfold Lib.compareBytes
    by_cases h2 : (0 : UInt8) < y
    · simp [h2]
    · have : y = 0 := UInt8.le_antisymm (UInt8.not_lt.1 h2) (UInt8.zero_le)
      subst this
      simp only [UInt8.lt_irrefl, if_false]
      cases x <;> simp [Lib.compareBytes]
  | y :: x, z :: l, h => by
    rw [List.cons_append]
    unfold Lib.compareBytes at h ⊢
    by_cases h1 : y < z
    · simp [h1] at h
    · by_cases h2 : z < y
      · simp [h1, h2]
      · simp only [h1, h2, if_false] at h ⊢
        exact cmp_between x l h

theorem small2 {p1 p2 : Option Addr} {n1 n2 c1 c2 : Nat} (h : smallB [(p1, n1, c1), (p2, n2, c2)] = true) : n1 ≤ 200 ∧ n2 ≤ 200 := by
  simpa [smallB] using h

theorem str_append (a b : List UInt8) : str a ++ str b = str (a ++ b) := by
  apply ByteArray.ext
  show (str a ++ str b).data = (a ++ b).toArray
  rw [ByteArray.data_append]
  simp [str]

set_option maxHeartbeats 2000000 in
set_option maxRecDepth 100000 in
theorem keysNext_calls (w : World) {p1 p2 : Option Addr} {c1 c2 : Nat} {l x : List UInt8} (h1 : IsB w p1 c1 l) (h2 : IsB w p2 c2 x) :
    Calls Try.prog 4 #[.slice p1 l.length c1, .slice p2 x.length c2] w fun e w' => e = .returned (.bool true) ∧ Below w.heap.size w w' := by
  have H1 := Lib.hid h1
  have H2 := Lib.hid h2
  have hsm := small_lit w [(p1, l.length, c1), (p2, x.length, c2)] (by simp)
  have HS := Lib.hid hsm
  clear h1 h2 hsm
  go_enter Try.func4, Try.ntmps4
  go_wp2_with fail
  refine HS.out.mono ?_
  rintro e W ⟨rfl, hb⟩
  cases hsb : smallB [(p1, l.length, c1), (p2, x.length, c2)] with
  | false =>
    have HB := Lib.hid hb
    clear hb hsb
    go_wp2_with fail
    refine (awake W).mono ?_
    rintro e w' ⟨rfl, hb2⟩
    go_wp2
    go_ret
    exact ⟨rfl, HB.out.trans (hb2.mono HB.out.size)⟩
  | true =>
    obtain ⟨hl1, hl2⟩ := small2 hsb
    have g1 := H1.out.below hb
    have g2 := H2.out.below hb
    have k1 := g1.convert (P := Try.prog) Try.underlying22 Try.underlying5 Try.underlying9
    have hn := next W g1 (by omega)
    have HN := Lib.hid hn
    have HB := Lib.hid hb
    have G1 := Lib.hid g1
    have G2 := Lib.hid g2
    clear hb hsb hn g1 g2
    go_wp2_with fail
    refine HN.out.mono ?_
    rintro e W2 ⟨v, rfl, hown, hbel⟩
    obtain ⟨q, d, rfl⟩ := own_slice hown
    have e1 : (l ++ [0]).length = l.length + 1 := by simp
    have hown' : W2.ownsRow W.heap.size 5 1 (.slice q (l ++ [0]).length d) (l ++ [0]).length ((l ++ [0]).map bv) := by rw [e1]; exact hown
    have gn := IsB.own hown'
    have kn := gn.convert (P := Try.prog) Try.underlying22 Try.underlying5 Try.underlying9
    have f1 := G1.out.below hbel
    have f2 := G2.out.below hbel
    have k2 := f1.convert (P := Try.prog) Try.underlying22 Try.underlying5 Try.underlying9
    have cn := keysCompare W2 f1 gn
    have cx := keysCompare W2 f2 f1
    have cxn := keysCompare W2 f2 gn
    rw [cmp_snoc] at cn
    rw [e1] at kn cn cxn
    have hbt := cmp_between x l
    generalize Lib.compareBytes x l = y at *
    generalize Lib.compareBytes x (l ++ [0]) = z at *
    have HBT : Hid (0 < y → 0 ≤ z) := hbt
    have CN := Lib.hid cn
    have CX := Lib.hid cx
    have CXN := Lib.hid cxn
    have HBel : Hid (Below W.heap.size W W2) := hbel
    clear gn f1 f2 cn cx cxn hbt hown hown' e1 hbel
    have hz : (str l).size + 1 ≤ 9223372036854775807 := by rw [str_size]; omega
    have hq : ((str (l ++ [0])).toList == (str l ++ ⟨#[0]⟩).toList) = true := by
      rw [show (⟨#[0]⟩ : ByteArray) = str [0] from rfl, str_append]
      exact beq_self_eq_true _
    go_wp2_with fail
    refine CN.out.mono ?_
    rintro e w' ⟨rfl, rfl⟩
    go_wp2_with fail
    refine CX.out.mono ?_
    rintro e w' ⟨rfl, rfl⟩
    by_cases hy : y ≤ 0
    · go_wp2_with fail
      refine (awake W2).mono ?_
      rintro e w' ⟨rfl, hb2⟩
      go_wp2
      go_ret
      exact ⟨rfl, (HB.out.trans (HBel.out.mono HB.out.size)).trans (hb2.mono (Nat.le_trans HB.out.size HBel.out.size))⟩
    · have hz2 : 0 ≤ z := HBT.out (by omega)
      go_wp2_with fail
      refine CXN.out.mono ?_
      rintro e w' ⟨rfl, rfl⟩
      go_wp2_with fail
      refine (awake W2).mono ?_
      rintro e w' ⟨rfl, hb2⟩
      go_wp2
      go_ret
      exact ⟨rfl, (HB.out.trans (HBel.out.mono HB.out.size)).trans (hb2.mono (Nat.le_trans HB.out.size HBel.out.size))⟩
end Go.Proofs.Ytnbjnioolcbmiaa
