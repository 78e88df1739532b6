/- The walk of frame's number. -/
import Derived.Test.YtdiliajpcgfpoaaRdWalk
import Derived.Laws.BitsAllLaws
namespace Go.Proofs.Ytdiliajpcgfpoaa
open Go.RowKit

theorem dec_first {l : List UInt8} (h0 : 0 < l.length) (hc : l[0].toNat ≠ 128) : dec l = decGo 0 0 l := by
  cases l with
  | nil => simp at h0
  | cons c r =>
    exact if_neg hc
theorem dec_form {l : List UInt8} (h0 : 0 < l.length) (hc : l[0].toNat = 128) : dec l = (0, 0, 2) := by
  cases l with
  | nil => simp at h0
  | cons c r =>
    exact if_pos hc
theorem dec_nil : dec [] = (0, 0, 3) := rfl
theorem decGo_at {l : List UInt8} {k acc : Nat} (hk : k < l.length) : decGo acc k (l.drop k) =
    if 2 ^ 57 ≤ acc then (0, 0, 4) else if l[k].toNat < 128 then (acc * 128 + l[k].toNat % 128, k + 1, 0) else decGo (acc * 128 + l[k].toNat % 128) (k + 1) (l.drop (k + 1)) := by
  rw [List.drop_eq_getElem_cons hk]
  rfl
theorem or7 (acc c : Nat) : acc * 128 ||| c % 128 = acc * 128 + c % 128 := nat_join 7 (acc * 128) (c % 128) (by omega) (by omega)
theorem or7_int (acc x : Nat) (ha : acc < 144115188075855872) : bits .or .u64 ((acc : Int) * 128) ((x : Int) % 128) = ((acc * 128 + x % 128 : Nat) : Int) := by
  have := u64_or_nat (acc * 128) (x % 128) (by omega) (by omega)
  rw [or7] at this
  exact this
theorem and7 (c : Nat) (hc : c < 256) : bits .and .u8 (c : Int) 127 = ((c % 128 : Nat) : Int) := by
  have := u8_and_nat c 127 hc (by omega)
  rw [nat_mask7] at this
  exact this

set_option maxHeartbeats 1000000 in
set_option maxRecDepth 100000 in
theorem number (w : World) {p : Option Addr} {c : Nat} {l : List UInt8} (h : IsB w p c l) :
    Calls Try.prog 25 #[.slice p l.length c] w fun e w' => e = .returned (.tuple #[.int .u64 ((dec l).1 : Int), .int .i64 ((dec l).2.1 : Int), .int .i64 ((dec l).2.2 : Int)]) ∧ w = w' := by
  have hlen : l.length ≤ maxLen := Nat.le_trans h.cap h.big
  unfold maxLen at hlen
  have H := Lib.hid h
  clear h
  go_enter Try.func25, Try.ntmps25
  go_wp2
  go_loop [5, 6, 7, 10] (fun v5 _ _ v10 => ∃ k acc : Nat, v5 = .int .u64 acc ∧ v10 = .int .i64 k ∧ k ≤ l.length ∧ acc < 18446744073709551616 ∧ Hid ((k = 0 ∧ acc = 0) ∨ (0 < k ∧ dec l = decGo acc k (l.drop k)))) (fun _ _ _ v10 => l.length - (intOf v10).toNat)
  case atStart => exact ⟨0, 0, rfl, rfl, Nat.zero_le _, by omega, .inl ⟨rfl, rfl⟩⟩
  case round =>
    obtain ⟨k, acc, rfl, rfl, hk, hacc, HI⟩ := hrel
    by_cases h1 : k < l.length
    · have g1 : (k : Int) < (l.length : Int) := by omega
      obtain ⟨b, o, rfl, hb, hc⟩ := H.out.cells (by omega)
      have hcell : w.cell? ⟨b, o + k, none⟩ = some (.int .u8 (l[k].toNat : Int)) := hc k _ (List.getElem?_eq_getElem h1)
      have hd : (¬ (k = 0 ∧ l[k].toNat = 128)) → dec l = decGo acc k (l.drop k) := fun hn => by
        rcases HI.out with ⟨h2, h3⟩ | ⟨_, h3⟩
        · subst h2; subst h3
          exact dec_first h1 (fun e => hn ⟨rfl, e⟩)
        · exact h3
      have hf : k = 0 → l[k].toNat = 128 → dec l = (0, 0, 2) := fun h2 h3 => by subst h2; exact dec_form h1 h3
      have hat := decGo_at (acc := acc) h1
      have hlt := l[k].toNat_lt
      have hand := and7 l[k].toNat hlt
      generalize l[k].toNat = x at *
      have HD : Hid (¬ (k = 0 ∧ x = 128) → dec l = decGo acc k (l.drop k)) := hd
      have HF : Hid (k = 0 → x = 128 → dec l = (0, 0, 2)) := hf
      have HAT := Lib.hid hat
      clear hc hd hf hat
      by_cases h2 : k = 0 ∧ x = 128
      · have hdd := HF.out h2.1 h2.2
        have HDD := Lib.hid hdd
        have t1 : ((k : Int) == 0) = true := by rw [beq_iff_eq]; omega
        have t2 : ((x : Int) == 128) = true := by rw [beq_iff_eq]; omega
        clear hdd h2
        go_wp2
        go_ret3
        exact ⟨by rw [HDD.out]; rfl, rfl⟩
      · have hdd := HD.out h2
        have hlen := Try.bits_Len64 (acc : Int) w (by omega) (by omega)
        rw [Int.toNat_natCast, bitLen_blen _ hacc] at hlen
        rw [HAT.out] at hdd
        have hb57 : 57 < blen acc ↔ 2 ^ 57 ≤ acc := ⟨fun h => by
          rcases Nat.lt_or_ge acc (2 ^ 57) with h3 | h3
          · have := blen_le h3; omega
          · exact h3, fun h => by have := blen_ge h; omega⟩
        generalize blen acc = B at *
        have HL := Lib.hid hlen
        have HDD := Lib.hid hdd
        have HB := Lib.hid hb57
        clear hlen hdd hb57
        by_cases h3 : 2 ^ 57 ≤ acc
        · have g3 : (57 : Int) < (B : Int) := by have := HB.out.2 h3; omega
          have hfin : Hid (dec l = (0, 0, 4)) := by show dec l = _; rw [HDD.out, if_pos h3]
          clear h3 HDD
          by_cases hk0 : k = 0
          · have t1 : ((k : Int) == 0) = true := by rw [beq_iff_eq]; omega
            have t2 : ((x : Int) == 128) = false := by rw [beq_eq_false_iff_ne]; omega
            clear h2 hk0
            go_wp2_with fail
            refine HL.out.mono ?_
            rintro e w' ⟨rfl, hw⟩
            subst hw
            go_wp2
            go_ret3
            exact ⟨by rw [hfin.out]; rfl, rfl⟩
          · have t1 : ((k : Int) == 0) = false := by rw [beq_eq_false_iff_ne]; omega
            clear h2 hk0
            go_wp2_with fail
            refine HL.out.mono ?_
            rintro e w' ⟨rfl, hw⟩
            subst hw
            go_wp2
            go_ret3
            exact ⟨by rw [hfin.out]; rfl, rfl⟩
        · have g3 : ¬ (57 : Int) < (B : Int) := by have : ¬ 57 < B := fun h => h3 (HB.out.1 h); omega
          have hacc2 : acc < 144115188075855872 := by omega
          have hfin : dec l = if x < 128 then (acc * 128 + x % 128, k + 1, 0) else decGo (acc * 128 + x % 128) (k + 1) (l.drop (k + 1)) := by rw [HDD.out, if_neg h3]
          have hor := or7_int acc x hacc2
          have hy : acc * 128 + x % 128 < 18446744073709551616 := by omega
          generalize acc * 128 + x % 128 = y at *
          have hlo : x < 128 → Hid (dec l = (y, k + 1, 0)) := fun h => by show dec l = _; rw [hfin, if_pos h]
          have hhi : ¬ x < 128 → Hid (dec l = decGo y (k + 1) (l.drop (k + 1))) := fun h => by show dec l = _; rw [hfin, if_neg h]
          have HLO := Lib.hid hlo
          have HHI := Lib.hid hhi
          clear h3 HDD hfin hlo hhi
          by_cases hx : x < 128
          · have hfin := HLO.out hx
            have g4 : (x : Int) < 128 := by omega
            by_cases hk0 : k = 0
            · have t1 : ((k : Int) == 0) = true := by rw [beq_iff_eq]; omega
              have t2 : ((x : Int) == 128) = false := by rw [beq_eq_false_iff_ne]; omega
              clear h2 hk0
              go_wp2_with fail
              refine HL.out.mono ?_
              rintro e w' ⟨rfl, hw⟩
              subst hw
              go_wp2
              go_ret3
              exact ⟨by rw [hfin.out]; rfl, rfl⟩
            · have t1 : ((k : Int) == 0) = false := by rw [beq_eq_false_iff_ne]; omega
              clear h2 hk0
              go_wp2_with fail
              refine HL.out.mono ?_
              rintro e w' ⟨rfl, hw⟩
              subst hw
              go_wp2
              go_ret3
              exact ⟨by rw [hfin.out]; rfl, rfl⟩
          · have hfin := HHI.out hx
            have g4 : ¬ (x : Int) < 128 := by omega
            by_cases hk0 : k = 0
            · have t1 : ((k : Int) == 0) = true := by rw [beq_iff_eq]; omega
              have t2 : ((x : Int) == 128) = false := by rw [beq_eq_false_iff_ne]; omega
              clear h2 hk0
              go_wp2_with fail
              refine HL.out.mono ?_
              rintro e w' ⟨rfl, hw⟩
              subst hw
              go_wp2
              go_round
              case rel => exact ⟨k + 1, y, rfl, by go_num, by omega, hy, .inr ⟨by omega, hfin⟩⟩
              case measure => simp [intOf]; omega
            · have t1 : ((k : Int) == 0) = false := by rw [beq_eq_false_iff_ne]; omega
              clear h2 hk0
              go_wp2_with fail
              refine HL.out.mono ?_
              rintro e w' ⟨rfl, hw⟩
              subst hw
              go_wp2
              go_round
              case rel => exact ⟨k + 1, y, rfl, by go_num, by omega, hy, .inr ⟨by omega, hfin⟩⟩
              case measure => simp [intOf]; omega
    · have g1 : ¬ (k : Int) < (l.length : Int) := by omega
      have hfin : Hid (dec l = (0, 0, 3)) := by
        rcases HI.out with ⟨h2, _⟩ | ⟨_, h3⟩
        · obtain rfl : l = [] := List.eq_nil_of_length_eq_zero (by omega)
          exact dec_nil
        · rw [List.drop_eq_nil_of_le (by omega)] at h3
          exact h3
      go_wp2
      go_ret3
      exact ⟨by rw [hfin.out]; rfl, rfl⟩
end Go.Proofs.Ytdiliajpcgfpoaa
