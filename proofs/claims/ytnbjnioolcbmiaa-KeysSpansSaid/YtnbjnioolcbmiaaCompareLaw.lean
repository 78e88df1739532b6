/- The walk of KeysCompare. -/
import Derived.Test.YtnbjnioolcbmiaaAwake
import Derived.Test.YtnbjnioolcbmiaaSmall
import Derived.Test.YtnbjnioolcbmiaaLess
import Derived.Test.YtnbjnioolcbmiaaCommon
import Derived.Test.YtnbjnioolcbmiaaNextLaw
namespace Go.Proofs.Ytnbjnioolcbmiaa
open Go.RowKit

theorem less_swap (a b : List UInt8) : lessB b a = (Lib.compareBytes a b == 1) := by
  unfold lessB
  rw [cmp_swap b a, Bool.eq_iff_iff, beq_iff_eq, beq_iff_eq]
  omega

/-- What is to be known of the bytes ahead of the law's second half. -/
structure Cmp2 (a b : List UInt8) (x : Int) : Prop where
  same : ((x == 0) == (a == b)) = true
theorem cmp2 (a b : List UInt8) : Cmp2 a b (Lib.compareBytes a b) := by
  refine ⟨?_⟩
  rw [beq_iff_eq, Bool.eq_iff_iff, beq_iff_eq, beq_iff_eq]
  exact ⟨cmp_zero, fun h => by rw [h]; exact cmp_self b⟩

theorem IsB.convN {P : Program} {w : World} {p : Option Addr} {c : Nat} {l : List UInt8} (h : IsB w p c l) {src e dst : TypeId} (hs : P.underlying src = some (.slice e)) (he : P.underlying e = some (.int .u8)) (hd : P.underlying dst = some .string) (k : Nat) :
    (Go.convert src dst (.slice p l.length c)).run P (w.drewN k) = .ok (.string (str l)) (w.drewN k) := (h.drewN k).convert hs he hd

set_option maxHeartbeats 4000000 in
set_option maxRecDepth 100000 in
theorem keysCompare_calls (w : World) {p1 p2 : Option Addr} {c1 c2 : Nat} {a b : List UInt8} (h1 : IsB w p1 c1 a) (h2 : IsB w p2 c2 b) :
    Calls Try.prog 5 #[.slice p1 a.length c1, .slice p2 b.length c2] w fun e w' => e = .returned (.bool true) ∧ Below w.heap.size w w' := by
  have H1 := Lib.hid h1
  have H2 := Lib.hid h2
  have hsm := small_lit w [(p1, a.length, c1), (p2, b.length, c2)] (by simp)
  have HS := Lib.hid hsm
  clear h1 h2 hsm
  go_enter Try.func5, Try.ntmps5
  go_wp2_with fail
  refine HS.out.mono ?_
  rintro e W ⟨rfl, hb⟩
  cases hsb : smallB [(p1, a.length, c1), (p2, b.length, c2)] with
  | false =>
    have HB := Lib.hid hb
    clear hb hsb
    go_wp2_with fail
    refine (awake W).mono ?_
    rintro e w' ⟨rfl, hb2⟩
    go_wp2
    go_ret
    exact ⟨rfl, HB.out.trans (hb2.mono HB.out.size)⟩
  | true =>
    obtain ⟨hl1, hl2⟩ := small2 hsb
    have g1 := H1.out.below hb
    have g2 := H2.out.below hb
    have ka := fun k => g1.convN (P := Try.prog) Try.underlying22 Try.underlying5 Try.underlying9 k
    have kb := fun k => g2.convN (P := Try.prog) Try.underlying22 Try.underlying5 Try.underlying9 k
    have ka0 := g1.convert (P := Try.prog) Try.underlying22 Try.underlying5 Try.underlying9
    have kb0 := g2.convert (P := Try.prog) Try.underlying22 Try.underlying5 Try.underlying9
    have HB := Lib.hid hb
    have G1 := Lib.hid g1
    have G2 := Lib.hid g2
    clear hb hsb g1 g2
    have cx := cmp2 a b
    have lab : lessB a b = (Lib.compareBytes a b == -1) := rfl
    have lba := less_swap a b
    have cr := cmp_range a b
    have cc := fun k => keysCompare (W.drewN k) (G1.out.drewN k) (G2.out.drewN k)
    generalize Lib.compareBytes a b = x at *
    have CC := Lib.hid cc
    have CX := Lib.hid cx
    have LAB := Lib.hid lab
    have LBA := Lib.hid lba
    clear cx lab lba cc
    rcases cr with rfl | rfl | rfl
    · have e1 : lessB a b = true := LAB.out
      have e2 : lessB b a = false := LBA.out
      have hs : ((str a).toList == (str b).toList) = false := by rw [str_toList, str_toList]; have := CX.out.same; simpa using this
      have E1 := Lib.hid e1
      have E2 := Lib.hid e2
      clear e1 e2
      go_wp2_with fail
      refine (refLess _ _ _ (by rw [str_size]; omega) (by rw [str_size]; omega)).mono ?_
      rintro e w' ⟨he, n1, rfl⟩
      rw [str_data, str_data, E1.out] at he
      subst he
      go_wp2_with fail
      refine (refLess _ _ _ (by rw [str_size]; omega) (by rw [str_size]; omega)).mono ?_
      rintro e w' ⟨he, n2, rfl⟩
      rw [str_data, str_data, E2.out] at he
      subst he
      go_wp2_with fail
      refine (common _ (G1.out.drewN _) (G2.out.drewN _)).mono ?_
      rintro e w' ⟨n, rfl, ⟨r1, r2, r3, r4⟩, n3, rfl⟩
      have sa := fun k => (G1.out.take n).convN (P := Try.prog) Try.underlying22 Try.underlying5 Try.underlying9 k
      have sb := fun k => (G2.out.take n).convN (P := Try.prog) Try.underlying22 Try.underlying5 Try.underlying9 k
      rw [show (a.take n).length = n from by rw [List.length_take]; omega] at sa
      rw [show (b.take n).length = n from by rw [List.length_take]; omega, ← r3] at sb
      have hca : n ≤ c1 := Nat.le_trans r1 G1.out.cap
      have hcb : n ≤ c2 := Nat.le_trans r2 G2.out.cap
      have hn0 : ¬ ((n : Int) < 0) := by omega
      have hna : ¬ ((a.length : Int) < (n : Int)) := by omega
      have hnb : ¬ ((b.length : Int) < (n : Int)) := by omega
      have hd1 : decide ((n : Int) < 0) = false := by simp
      have hd2 : decide (a.length < n) = false := by simp; omega
      have hd3 : decide (b.length < n) = false := by simp; omega
      have R4 : Hid (n < a.length → n < b.length → a[n]? ≠ b[n]?) := r4
      clear r3 r4
      by_cases t1 : n < a.length
      · have td1 : decide (n < a.length) = true := by simp; omega
        have tt1 : (n : Int) < (a.length : Int) := by omega
        by_cases t2 : n < b.length
        · have td2 : decide (n < b.length) = true := by simp; omega
          have tt2 : (n : Int) < (b.length : Int) := by omega
          obtain ⟨b1, o1, rfl, hb1, hc1⟩ := G1.out.cells (by omega)
          obtain ⟨b2, o2, rfl, hb2, hc2⟩ := G2.out.cells (by omega)
          have k1 : W.cell? ⟨b1, o1 + n, none⟩ = some (.int .u8 (a[n].toNat : Int)) := hc1 n _ (List.getElem?_eq_getElem t1)
          have k2 : W.cell? ⟨b2, o2 + n, none⟩ = some (.int .u8 (b[n].toNat : Int)) := hc2 n _ (List.getElem?_eq_getElem t2)
          have hq : ((a[n].toNat : Int) == (b[n].toNat : Int)) = false := by
            rw [beq_eq_false_iff_ne]
            intro h
            exact R4.out t1 t2 (by rw [List.getElem?_eq_getElem t1, List.getElem?_eq_getElem t2, UInt8.toNat_inj.1 (Int.ofNat_inj.1 h)])
          clear hc1 hc2
          go_wp2_with fail
          go_quiet (fail)
          go_wp2_with fail
          refine (CC.out _).mono ?_
          rintro e w' ⟨rfl, rfl⟩
          go_wp2_with fail
          refine (awake _).mono ?_
          rintro e w' ⟨rfl, hb2⟩
          go_wp2
          go_ret
          exact ⟨rfl, (HB.out.trans ((below_drewN (Below.refl W.heap.size W) _).mono HB.out.size)).trans (hb2.mono HB.out.size)⟩
        · have td2 : decide (n < b.length) = false := by simp; omega
          have tt2 : ¬ ((n : Int) < (b.length : Int)) := by omega
          go_wp2_with fail
          go_quiet (fail)
          go_wp2_with fail
          refine (CC.out _).mono ?_
          rintro e w' ⟨rfl, rfl⟩
          go_wp2_with fail
          refine (awake _).mono ?_
          rintro e w' ⟨rfl, hb2⟩
          go_wp2
          go_ret
          exact ⟨rfl, (HB.out.trans ((below_drewN (Below.refl W.heap.size W) _).mono HB.out.size)).trans (hb2.mono HB.out.size)⟩
      · have td1 : decide (n < a.length) = false := by simp; omega
        have tt1 : ¬ ((n : Int) < (a.length : Int)) := by omega
        go_wp2_with fail
        go_quiet (fail)
        go_wp2_with fail
        refine (CC.out _).mono ?_
        rintro e w' ⟨rfl, rfl⟩
        go_wp2_with fail
        refine (awake _).mono ?_
        rintro e w' ⟨rfl, hb2⟩
        go_wp2
        go_ret
        exact ⟨rfl, (HB.out.trans ((below_drewN (Below.refl W.heap.size W) _).mono HB.out.size)).trans (hb2.mono HB.out.size)⟩
    · have e1 : lessB a b = false := LAB.out
      have e2 : lessB b a = false := LBA.out
      have hs : ((str a).toList == (str b).toList) = true := by rw [str_toList, str_toList]; have := CX.out.same; simpa using this
      have E1 := Lib.hid e1
      have E2 := Lib.hid e2
      clear e1 e2
      go_wp2_with fail
      refine (refLess _ _ _ (by rw [str_size]; omega) (by rw [str_size]; omega)).mono ?_
      rintro e w' ⟨he, n1, rfl⟩
      rw [str_data, str_data, E1.out] at he
      subst he
      go_wp2_with fail
      refine (refLess _ _ _ (by rw [str_size]; omega) (by rw [str_size]; omega)).mono ?_
      rintro e w' ⟨he, n2, rfl⟩
      rw [str_data, str_data, E2.out] at he
      subst he
      go_wp2_with fail
      refine (common _ (G1.out.drewN _) (G2.out.drewN _)).mono ?_
      rintro e w' ⟨n, rfl, ⟨r1, r2, r3, r4⟩, n3, rfl⟩
      have sa := fun k => (G1.out.take n).convN (P := Try.prog) Try.underlying22 Try.underlying5 Try.underlying9 k
      have sb := fun k => (G2.out.take n).convN (P := Try.prog) Try.underlying22 Try.underlying5 Try.underlying9 k
      rw [show (a.take n).length = n from by rw [List.length_take]; omega] at sa
      rw [show (b.take n).length = n from by rw [List.length_take]; omega, ← r3] at sb
      have hca : n ≤ c1 := Nat.le_trans r1 G1.out.cap
      have hcb : n ≤ c2 := Nat.le_trans r2 G2.out.cap
      have hn0 : ¬ ((n : Int) < 0) := by omega
      have hna : ¬ ((a.length : Int) < (n : Int)) := by omega
      have hnb : ¬ ((b.length : Int) < (n : Int)) := by omega
      have hd1 : decide ((n : Int) < 0) = false := by simp
      have hd2 : decide (a.length < n) = false := by simp; omega
      have hd3 : decide (b.length < n) = false := by simp; omega
      have R4 : Hid (n < a.length → n < b.length → a[n]? ≠ b[n]?) := r4
      clear r3 r4
      by_cases t1 : n < a.length
      · have td1 : decide (n < a.length) = true := by simp; omega
        have tt1 : (n : Int) < (a.length : Int) := by omega
        by_cases t2 : n < b.length
        · have td2 : decide (n < b.length) = true := by simp; omega
          have tt2 : (n : Int) < (b.length : Int) := by omega
          obtain ⟨b1, o1, rfl, hb1, hc1⟩ := G1.out.cells (by omega)
          obtain ⟨b2, o2, rfl, hb2, hc2⟩ := G2.out.cells (by omega)
          have k1 : W.cell? ⟨b1, o1 + n, none⟩ = some (.int .u8 (a[n].toNat : Int)) := hc1 n _ (List.getElem?_eq_getElem t1)
          have k2 : W.cell? ⟨b2, o2 + n, none⟩ = some (.int .u8 (b[n].toNat : Int)) := hc2 n _ (List.getElem?_eq_getElem t2)
          have hq : ((a[n].toNat : Int) == (b[n].toNat : Int)) = false := by
            rw [beq_eq_false_iff_ne]
            intro h
            exact R4.out t1 t2 (by rw [List.getElem?_eq_getElem t1, List.getElem?_eq_getElem t2, UInt8.toNat_inj.1 (Int.ofNat_inj.1 h)])
          clear hc1 hc2
          go_wp2_with fail
          go_quiet (fail)
          go_wp2_with fail
          refine (CC.out _).mono ?_
          rintro e w' ⟨rfl, rfl⟩
          go_wp2_with fail
          refine (awake _).mono ?_
          rintro e w' ⟨rfl, hb2⟩
          go_wp2
          go_ret
          exact ⟨rfl, (HB.out.trans ((below_drewN (Below.refl W.heap.size W) _).mono HB.out.size)).trans (hb2.mono HB.out.size)⟩
        · have td2 : decide (n < b.length) = false := by simp; omega
          have tt2 : ¬ ((n : Int) < (b.length : Int)) := by omega
          go_wp2_with fail
          go_quiet (fail)
          go_wp2_with fail
          refine (CC.out _).mono ?_
          rintro e w' ⟨rfl, rfl⟩
          go_wp2_with fail
          refine (awake _).mono ?_
          rintro e w' ⟨rfl, hb2⟩
          go_wp2
          go_ret
          exact ⟨rfl, (HB.out.trans ((below_drewN (Below.refl W.heap.size W) _).mono HB.out.size)).trans (hb2.mono HB.out.size)⟩
      · have td1 : decide (n < a.length) = false := by simp; omega
        have tt1 : ¬ ((n : Int) < (a.length : Int)) := by omega
        go_wp2_with fail
        go_quiet (fail)
        go_wp2_with fail
        refine (CC.out _).mono ?_
        rintro e w' ⟨rfl, rfl⟩
        go_wp2_with fail
        refine (awake _).mono ?_
        rintro e w' ⟨rfl, hb2⟩
        go_wp2
        go_ret
        exact ⟨rfl, (HB.out.trans ((below_drewN (Below.refl W.heap.size W) _).mono HB.out.size)).trans (hb2.mono HB.out.size)⟩
    · have e1 : lessB a b = false := LAB.out
      have e2 : lessB b a = true := LBA.out
      have hs : ((str a).toList == (str b).toList) = false := by rw [str_toList, str_toList]; have := CX.out.same; simpa using this
      have E1 := Lib.hid e1
      have E2 := Lib.hid e2
      clear e1 e2
      go_wp2_with fail
      refine (refLess _ _ _ (by rw [str_size]; omega) (by rw [str_size]; omega)).mono ?_
      rintro e w' ⟨he, n1, rfl⟩
      rw [str_data, str_data, E1.out] at he
      subst he
      go_wp2_with fail
      refine (refLess _ _ _ (by rw [str_size]; omega) (by rw [str_size]; omega)).mono ?_
      rintro e w' ⟨he, n2, rfl⟩
      rw [str_data, str_data, E2.out] at he
      subst he
      go_wp2_with fail
      refine (common _ (G1.out.drewN _) (G2.out.drewN _)).mono ?_
      rintro e w' ⟨n, rfl, ⟨r1, r2, r3, r4⟩, n3, rfl⟩
      have sa := fun k => (G1.out.take n).convN (P := Try.prog) Try.underlying22 Try.underlying5 Try.underlying9 k
      have sb := fun k => (G2.out.take n).convN (P := Try.prog) Try.underlying22 Try.underlying5 Try.underlying9 k
      rw [show (a.take n).length = n from by rw [List.length_take]; omega] at sa
      rw [show (b.take n).length = n from by rw [List.length_take]; omega, ← r3] at sb
      have hca : n ≤ c1 := Nat.le_trans r1 G1.out.cap
      have hcb : n ≤ c2 := Nat.le_trans r2 G2.out.cap
      have hn0 : ¬ ((n : Int) < 0) := by omega
      have hna : ¬ ((a.length : Int) < (n : Int)) := by omega
      have hnb : ¬ ((b.length : Int) < (n : Int)) := by omega
      have hd1 : decide ((n : Int) < 0) = false := by simp
      have hd2 : decide (a.length < n) = false := by simp; omega
      have hd3 : decide (b.length < n) = false := by simp; omega
      have R4 : Hid (n < a.length → n < b.length → a[n]? ≠ b[n]?) := r4
      clear r3 r4
      by_cases t1 : n < a.length
      · have td1 : decide (n < a.length) = true := by simp; omega
        have tt1 : (n : Int) < (a.length : Int) := by omega
        by_cases t2 : n < b.length
        · have td2 : decide (n < b.length) = true := by simp; omega
          have tt2 : (n : Int) < (b.length : Int) := by omega
          obtain ⟨b1, o1, rfl, hb1, hc1⟩ := G1.out.cells (by omega)
          obtain ⟨b2, o2, rfl, hb2, hc2⟩ := G2.out.cells (by omega)
          have k1 : W.cell? ⟨b1, o1 + n, none⟩ = some (.int .u8 (a[n].toNat : Int)) := hc1 n _ (List.getElem?_eq_getElem t1)
          have k2 : W.cell? ⟨b2, o2 + n, none⟩ = some (.int .u8 (b[n].toNat : Int)) := hc2 n _ (List.getElem?_eq_getElem t2)
          have hq : ((a[n].toNat : Int) == (b[n].toNat : Int)) = false := by
            rw [beq_eq_false_iff_ne]
            intro h
            exact R4.out t1 t2 (by rw [List.getElem?_eq_getElem t1, List.getElem?_eq_getElem t2, UInt8.toNat_inj.1 (Int.ofNat_inj.1 h)])
          clear hc1 hc2
          go_wp2_with fail
          go_quiet (fail)
          go_wp2_with fail
          refine (CC.out _).mono ?_
          rintro e w' ⟨rfl, rfl⟩
          go_wp2_with fail
          refine (awake _).mono ?_
          rintro e w' ⟨rfl, hb2⟩
          go_wp2
          go_ret
          exact ⟨rfl, (HB.out.trans ((below_drewN (Below.refl W.heap.size W) _).mono HB.out.size)).trans (hb2.mono HB.out.size)⟩
        · have td2 : decide (n < b.length) = false := by simp; omega
          have tt2 : ¬ ((n : Int) < (b.length : Int)) := by omega
          go_wp2_with fail
          go_quiet (fail)
          go_wp2_with fail
          refine (CC.out _).mono ?_
          rintro e w' ⟨rfl, rfl⟩
          go_wp2_with fail
          refine (awake _).mono ?_
          rintro e w' ⟨rfl, hb2⟩
          go_wp2
          go_ret
          exact ⟨rfl, (HB.out.trans ((below_drewN (Below.refl W.heap.size W) _).mono HB.out.size)).trans (hb2.mono HB.out.size)⟩
      · have td1 : decide (n < a.length) = false := by simp; omega
        have tt1 : ¬ ((n : Int) < (a.length : Int)) := by omega
        go_wp2_with fail
        go_quiet (fail)
        go_wp2_with fail
        refine (CC.out _).mono ?_
        rintro e w' ⟨rfl, rfl⟩
        go_wp2_with fail
        refine (awake _).mono ?_
        rintro e w' ⟨rfl, hb2⟩
        go_wp2
        go_ret
        exact ⟨rfl, (HB.out.trans ((below_drewN (Below.refl W.heap.size W) _).mono HB.out.size)).trans (hb2.mono HB.out.size)⟩
end Go.Proofs.Ytnbjnioolcbmiaa
