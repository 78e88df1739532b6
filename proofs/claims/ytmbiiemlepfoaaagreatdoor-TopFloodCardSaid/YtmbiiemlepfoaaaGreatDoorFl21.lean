/- The walks of the reference's times, length. -/
import Derived.Test.YtmbiiemlepfoaaaGreatDoorFl20

namespace Go.Proofs.YtmbiiemlepfoaaaGreatDoor
open Go.RowKit
set_option maxHeartbeats 2000000 in
set_option maxRecDepth 100000 in
theorem timesN (w : World) {p : Option Addr} {c : Nat} {D : List Nat} (n : Nat) (h : IsN w p c D) (hD : ∀ d ∈ D, d < 65536) (hl : D.length ≤ 1000) (hn : n ≤ 1048577) :
    Calls Tryz.prog 50 #[.slice p D.length c, .int .i64 (n : Int)] w fun e w' => ∃ v, e = .returned v ∧ ∃ R, TimesR w w' v D n R := by
  obtain ⟨i0, hi, hz0, hz1, hz2⟩ := info_parts infoIntN
  have H := Lib.hid h
  have HD := Lib.hid hD
  clear h hD
  go_enter Tryz.func50, Tryz.ntmps50
  go_wp2
  go_loopw [5, 6, 7] (fun v5 v6 v7 wr => ∃ (R : List Nat) (q : Option Addr) (d k : Nat), v5 = .slice q R.length d ∧ v6 = .int .i64 k ∧ v7 = .int .i64 (R.length : Int) ∧ wr.ownsRow w.heap.size 3 1 (.slice q R.length d) R.length (R.map ivN) ∧ Below w.heap.size w wr ∧ TimesI D n R k)
    (fun _ v6 v7 _ => (D.length - (intOf v7).toNat) * 4000000 + (intOf v6).toNat)
  case atStart => exact ⟨[], none, 0, 0, rfl, rfl, rfl, World.ownsRow_nil _ _ _ _, Below.refl _ _, times_start D n⟩
  case round =>
    obtain ⟨R, q, d, k, rfl, rfl, rfl, hown, hbel, HI⟩ := hrel
    have hcar := HI.carry
    have hgr : R.length ≤ D.length + 2 := by have := HI.len; unfold growN at this; omega
    have HOWN := Lib.hid hown
    have HBEL := Lib.hid hbel
    have hs := hbel.size
    clear hown hbel
    by_cases h1 : R.length < D.length
    · have g1 : (R.length : Int) < (D.length : Int) := by omega
      obtain ⟨b, o, rfl, hb, hc⟩ := H.out.cells (by omega)
      have hcell : wr.cell? ⟨b, o + R.length, none⟩ = some (.int .i64 (D[R.length] : Int)) := (HBEL.out.cell (p := ⟨b, o + R.length, none⟩) hb).trans (hc _ _ (List.getElem?_eq_getElem h1))
      have hst := times_step HI h1 HD.out hn
      have hd := HD.out D[R.length] (List.getElem_mem h1)
      have hm : D[R.length] * n ≤ 65535 * 1048577 := Nat.mul_le_mul (by omega) hn
      have hp : ((D[R.length] : Nat) : Int) * (n : Int) = ((D[R.length] * n : Nat) : Int) := by rw [Int.natCast_mul]
      generalize D[R.length] * n = a at *
      have HST := Lib.hid hst
      clear hst hc
      go_wp2_with (at_builtin; refine wpList_append_own _ rfl _ _ 32 rfl w.heap.size 3 i0 (.int .i64 0) 1 8 Tryz.underlying32 hi hz0 hz1 hz2 rfl (by decide) _ _ _ rfl (World.ownsRow.alloc HOWN.out _) ⟨wr.heap.size, 0, none⟩ 1 1 [.int .i64 (((k : Int) + (a : Int)) % 65536)] rfl ?qc1 ?qc2 ?qc3 ?qc4 ?qc5 ?qc6 ?_)
      case qc1 => rfl
      case qc2 => exact cell_one_new _ _ _
      case qc3 => intro u hu; simp at hu; subst hu; rfl
      case qc4 => unfold maxLen; omega
      case qc5 => omega
      case qc6 => simp; omega
      intro v' w2 hown2 hgrow hnil
      have e1 : R.map ivN ++ [.int .i64 (((k : Int) + (a : Int)) % 65536)] = (R ++ [(k + a) % 65536]).map ivN := by simp [ivN]
      rw [e1] at hown2
      have hbel2 : Below w.heap.size w w2 := (HBEL.out.alloc hs _).grown hgrow (by simp; omega) (fun g hg => (HOWN.out.lt g hg).1)
      obtain ⟨q2, d2, rfl⟩ := own_sliceN hown2
      have e2 : R.length + 1 = (R ++ [(k + a) % 65536]).length := by simp
      have HOWN2 : Hid (w2.ownsRow w.heap.size 3 1 (.slice q2 (R.length + 1) d2) (R.length + 1) ((R ++ [(k + a) % 65536]).map ivN)) := hown2
      have HBEL2 : Hid (Below w.heap.size w w2) := hbel2
      clear hown2 hbel2 e1 hgrow hnil e2
      go_wp2
      go_roundw
      case rel =>
        refine ⟨R ++ [(k + a) % 65536], q2, d2, (k + a) / 65536, ?_, ?_, ?_, ?_, HBEL2.out, HST.out⟩
        · simp
        · simp
        · simp
        · rw [List.length_append]; exact HOWN2.out
      case measure => simp [intOf]; omega
    · have g1 : ¬ (R.length : Int) < (D.length : Int) := by omega
      have gd : decide (R.length < D.length) = false := by simp; omega
      by_cases h2 : 0 < k
      · have g2 : (0 : Int) < (k : Int) := by omega
        have hst := times_tail HI h1 h2
        have HST := Lib.hid hst
        have hgr2 : R.length ≤ D.length + 1 := by have := HI.len; unfold growN at this; omega
        clear hst
        go_wp2_with (at_builtin; refine wpList_append_own _ rfl _ _ 32 rfl w.heap.size 3 i0 (.int .i64 0) 1 8 Tryz.underlying32 hi hz0 hz1 hz2 rfl (by decide) _ _ _ rfl (World.ownsRow.alloc HOWN.out _) ⟨wr.heap.size, 0, none⟩ 1 1 [.int .i64 ((k : Int) % 65536)] rfl ?rc1 ?rc2 ?rc3 ?rc4 ?rc5 ?rc6 ?_)
        case rc3 => first | rfl | (intro u hu; simp at hu; subst hu; rfl)
        case rc4 => first | omega | (unfold maxLen; omega)
        case rc5 => omega
        case rc6 => first | omega | (simp; omega)
        intro v' w2 hown2 hgrow hnil
        have e1 : R.map ivN ++ [.int .i64 ((k : Int) % 65536)] = (R ++ [k % 65536]).map ivN := by simp [ivN]
        rw [e1] at hown2
        have hbel2 : Below w.heap.size w w2 := (HBEL.out.alloc hs _).grown hgrow (by simp; omega) (fun g hg => (HOWN.out.lt g hg).1)
        obtain ⟨q2, d2, rfl⟩ := own_sliceN hown2
        have HOWN2 : Hid (w2.ownsRow w.heap.size 3 1 (.slice q2 (R.length + 1) d2) (R.length + 1) ((R ++ [k % 65536]).map ivN)) := hown2
        have HBEL2 : Hid (Below w.heap.size w w2) := hbel2
        clear hown2 hbel2 e1 hgrow hnil
        go_wp2
        go_roundw
        case rel =>
          refine ⟨R ++ [k % 65536], q2, d2, k / 65536, ?_, ?_, ?_, ?_, HBEL2.out, HST.out⟩
          · simp
          · simp
          · simp
          · rw [List.length_append]; exact HOWN2.out
        case measure => simp [intOf]; omega
      · have hv := times_end HI h1 h2
        have g2 : ¬ (0 : Int) < (k : Int) := by omega
        have HV := Lib.hid hv
        clear hv
        go_wp2
        go_ret
        exact ⟨_, rfl, R, HOWN.out, HI.digits, HV.out, hgr, HBEL.out⟩
set_option maxHeartbeats 2000000 in
set_option maxRecDepth 100000 in
theorem lengthN (w : World) {p : Option Addr} {c : Nat} {D : List Nat} (h : IsN w p c D) (hD : ∀ d ∈ D, d < 65536) (hl : D.length ≤ 1000) :
    Calls Tryz.prog 51 #[.slice p D.length c] w fun e w' => e = .returned (.int .i64 (blen (val D) : Int)) ∧ w = w' := by
  have H := Lib.hid h
  have HD := Lib.hid hD
  clear h hD
  go_enter Tryz.func51, Tryz.ntmps51
  go_wp2
  go_loop [3, 4, 5] (fun v3 _ _ => ∃ j : Nat, v3 = .int .i64 ((j : Int) - 1) ∧ j ≤ D.length ∧ Hid (val D = val (D.take j))) (fun v3 _ _ => ((intOf v3) + 1).toNat)
  case atStart => exact ⟨D.length, rfl, Nat.le_refl _, by rw [List.take_length]; rfl⟩
  case round =>
    obtain ⟨j, rfl, hj, HV⟩ := hrel
    rcases j with _ | m
    · have hz : val D = 0 := HV.out.trans (by rw [List.take_zero]; rfl)
      have HZ := Lib.hid hz
      have g0 : ¬ (0 : Int) ≤ ((0 : Nat) : Int) - 1 := by omega
      clear hz
      go_wp2
      go_ret
      exact ⟨by rw [HZ.out]; rfl, rfl⟩
    · obtain ⟨b, o, rfl, hb, hc⟩ := H.out.cells (by omega)
      have hm : m < D.length := by omega
      have hcell : w.cell? ⟨b, o + m, none⟩ = some (.int .i64 (D[m] : Int)) := hc _ _ (List.getElem?_eq_getElem hm)
      have hd := HD.out D[m] (List.getElem_mem hm)
      have e0 : ((m + 1 : Nat) : Int) - 1 = (m : Int) := by omega
      have hz1 : D[m] = 0 → Hid (val D = val (D.take m)) := fun hz => HV.out.trans (val_take_zero hm hz)
      have hz2 : D[m] ≠ 0 → Hid (blen (val D) = 16 * m + blen D[m]) := fun hz => by show blen (val D) = _; rw [HV.out]; exact blen_take HD.out hm hz
      generalize D[m] = a at *
      have HZ1 : Hid (a = 0 → Hid (val D = val (D.take m))) := hz1
      have HZ2 : Hid (a ≠ 0 → Hid (blen (val D) = 16 * m + blen a)) := hz2
      rw [e0]
      clear hc hz1 hz2 e0
      go_wp2
      go_loop [4, 5] (fun v4 v5 => ∃ n x : Nat, v4 = .int .i64 n ∧ v5 = .int .i64 x ∧ x < 65536 ∧ n ≤ 65536 ∧ Hid (n + blen x = blen a)) (fun _ v5 => (intOf v5).toNat)
      case atStart => exact ⟨0, a, rfl, rfl, hd, by omega, by show 0 + blen a = blen a; omega⟩
      case round =>
        obtain ⟨n, x, rfl, rfl, hx, hn, HN⟩ := hrel
        by_cases h3 : 0 < x
        · have g3 : (0 : Int) < (x : Int) := by omega
          have hh := blen_half (x := x) (by omega)
          have hb1 : blen a ≤ 16 := blen_le hd
          have hn2 : n + 1 ≤ 16 := by have := HN.out; omega
          have HN2 : Hid (n + 1 + blen (x / 2) = blen a) := by have := HN.out; show n + 1 + blen (x / 2) = blen a; omega
          clear hh hb1
          go_wp2
          go_round
          case rel => exact ⟨n + 1, x / 2, by go_num, by simp, by omega, by omega, HN2⟩
          case measure => simp [intOf]; omega
        · obtain rfl : x = 0 := by omega
          have hna : n = blen a := by have := HN.out; rw [blen_zero] at this; omega
          by_cases h4 : a = 0
          · have hv := HZ1.out h4
            have hn0 : n = 0 := by rw [hna, h4]; rfl
            clear hna
            subst hn0
            go_wp2
            go_round
            case rel => exact ⟨m, rfl, by omega, hv⟩
            case measure => simp [intOf]
          · have hv := HZ2.out h4
            have hpos := (blen_bounds h4).1
            have g4 : (0 : Int) < (n : Int) := by omega
            have HNA := Lib.hid hna
            have hb1 : n ≤ 16 := by rw [hna]; exact blen_le hd
            have hfin : Hid (((blen (val D) : Nat) : Int) = 16 * (m : Int) + (n : Int)) := by show ((blen (val D) : Nat) : Int) = _; rw [hv.out, hna]; omega
            clear hna hv
            go_wp2
            go_ret
            exact ⟨by rw [hfin.out]; rfl, rfl⟩
end Go.Proofs.YtmbiiemlepfoaaaGreatDoor
