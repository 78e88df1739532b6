/- The walk of frame's number. The walks of Size, frame.Number, frame.Text. The walks of the reference's Number, Text, Read, Take. The walk of a reader's Number. The walk of a reader's Take. -/
import Derived.Test.YtmbiiemlepfoaaaGreatDoorBa18
import Derived.Laws.BitsAllLaws
import Derived.Test.YtmbiiemlepfoaaaGreatDoorBa02
import Derived.Lib.IndexBytes

/-! The walk of frame's number. -/
namespace Go.Proofs.YtmbiiemlepfoaaaGreatDoor
open Go.RowKit

theorem dec_first {l : List UInt8} (h0 : 0 < l.length) (hc : l[0].toNat ≠ 128) : dec l = decGo 0 0 l := by
  cases l with
  | nil => simp at h0
  | cons c r =>
    exact if_neg hc
theorem dec_form {l : List UInt8} (h0 : 0 < l.length) (hc : l[0].toNat = 128) : dec l = (0, 0, 2) := by
  cases l with
  | nil => simp at h0
  | cons c r =>
    exact if_pos hc
theorem dec_nil : dec [] = (0, 0, 3) := rfl
theorem decGo_at {l : List UInt8} {k acc : Nat} (hk : k < l.length) : decGo acc k (l.drop k) =
    if 2 ^ 57 ≤ acc then (0, 0, 4) else if l[k].toNat < 128 then (acc * 128 + l[k].toNat % 128, k + 1, 0) else decGo (acc * 128 + l[k].toNat % 128) (k + 1) (l.drop (k + 1)) := by
  rw [List.drop_eq_getElem_cons hk]
  rfl
theorem or7 (acc c : Nat) : acc * 128 ||| c % 128 = acc * 128 + c % 128 := nat_join 7 (acc * 128) (c % 128) (by omega) (by omega)
theorem or7_int (acc x : Nat) (ha : acc < 144115188075855872) : bits .or .u64 ((acc : Int) * 128) ((x : Int) % 128) = ((acc * 128 + x % 128 : Nat) : Int) := by
  have := u64_or_nat (acc * 128) (x % 128) (by omega) (by omega)
  rw [or7] at this
  exact this
theorem and7 (c : Nat) (hc : c < 256) : bits .and .u8 (c : Int) 127 = ((c % 128 : Nat) : Int) := by
  have := u8_and_nat c 127 hc (by omega)
  rw [nat_mask7] at this
  exact this

set_option maxHeartbeats 1000000 in
set_option maxRecDepth 100000 in
theorem number (w : World) {p : Option Addr} {c : Nat} {l : List UInt8} (h : IsB w p c l) :
    Calls Tryz.prog 161 #[.slice p l.length c] w fun e w' => e = .returned (.tuple #[.int .u64 ((dec l).1 : Int), .int .i64 ((dec l).2.1 : Int), .int .i64 ((dec l).2.2 : Int)]) ∧ w = w' := by
  have hlen : l.length ≤ maxLen := Nat.le_trans h.cap h.big
  unfold maxLen at hlen
  have H := Lib.hid h
  clear h
  go_enter Tryz.func161, Tryz.ntmps161
  go_wp2
  go_loop [5, 6, 7, 10] (fun v5 _ _ v10 => ∃ k acc : Nat, v5 = .int .u64 acc ∧ v10 = .int .i64 k ∧ k ≤ l.length ∧ acc < 18446744073709551616 ∧ Hid ((k = 0 ∧ acc = 0) ∨ (0 < k ∧ dec l = decGo acc k (l.drop k)))) (fun _ _ _ v10 => l.length - (intOf v10).toNat)
  case atStart => exact ⟨0, 0, rfl, rfl, Nat.zero_le _, by omega, .inl ⟨rfl, rfl⟩⟩
  case round =>
    obtain ⟨k, acc, rfl, rfl, hk, hacc, HI⟩ := hrel
    by_cases h1 : k < l.length
    · have g1 : (k : Int) < (l.length : Int) := by omega
      obtain ⟨b, o, rfl, hb, hc⟩ := H.out.cells (by omega)
      have hcell : w.cell? ⟨b, o + k, none⟩ = some (.int .u8 (l[k].toNat : Int)) := hc k _ (List.getElem?_eq_getElem h1)
      have hd : (¬ (k = 0 ∧ l[k].toNat = 128)) → dec l = decGo acc k (l.drop k) := fun hn => by
        rcases HI.out with ⟨h2, h3⟩ | ⟨_, h3⟩
        · subst h2; subst h3
          exact dec_first h1 (fun e => hn ⟨rfl, e⟩)
        · exact h3
      have hf : k = 0 → l[k].toNat = 128 → dec l = (0, 0, 2) := fun h2 h3 => by subst h2; exact dec_form h1 h3
      have hat := decGo_at (acc := acc) h1
      have hlt := l[k].toNat_lt
      have hand := and7 l[k].toNat hlt
      generalize l[k].toNat = x at *
      have HD : Hid (¬ (k = 0 ∧ x = 128) → dec l = decGo acc k (l.drop k)) := hd
      have HF : Hid (k = 0 → x = 128 → dec l = (0, 0, 2)) := hf
      have HAT := Lib.hid hat
      clear hc hd hf hat
      by_cases h2 : k = 0 ∧ x = 128
      · have hdd := HF.out h2.1 h2.2
        have HDD := Lib.hid hdd
        have t1 : ((k : Int) == 0) = true := by rw [beq_iff_eq]; omega
        have t2 : ((x : Int) == 128) = true := by rw [beq_iff_eq]; omega
        clear hdd h2
        go_wp2
        go_ret3
        exact ⟨by rw [HDD.out]; rfl, rfl⟩
      · have hdd := HD.out h2
        have hlen := Tryz.bits_Len64 (acc : Int) w (by omega) (by omega)
        rw [Int.toNat_natCast, bitLen_blen _ hacc] at hlen
        rw [HAT.out] at hdd
        have hb57 : 57 < blen acc ↔ 2 ^ 57 ≤ acc := ⟨fun h => by
          rcases Nat.lt_or_ge acc (2 ^ 57) with h3 | h3
          · have := blen_le h3; omega
          · exact h3, fun h => by have := blen_ge h; omega⟩
        generalize blen acc = B at *
        have HL := Lib.hid hlen
        have HDD := Lib.hid hdd
        have HB := Lib.hid hb57
        clear hlen hdd hb57
        by_cases h3 : 2 ^ 57 ≤ acc
        · have g3 : (57 : Int) < (B : Int) := by have := HB.out.2 h3; omega
          have hfin : Hid (dec l = (0, 0, 4)) := by show dec l = _; rw [HDD.out, if_pos h3]
          clear h3 HDD
          by_cases hk0 : k = 0
          · have t1 : ((k : Int) == 0) = true := by rw [beq_iff_eq]; omega
            have t2 : ((x : Int) == 128) = false := by rw [beq_eq_false_iff_ne]; omega
            clear h2 hk0
            go_wp2_with fail
            refine HL.out.mono ?_
            rintro e w' ⟨rfl, hw⟩
            subst hw
            go_wp2
            go_ret3
            exact ⟨by rw [hfin.out]; rfl, rfl⟩
          · have t1 : ((k : Int) == 0) = false := by rw [beq_eq_false_iff_ne]; omega
            clear h2 hk0
            go_wp2_with fail
            refine HL.out.mono ?_
            rintro e w' ⟨rfl, hw⟩
            subst hw
            go_wp2
            go_ret3
            exact ⟨by rw [hfin.out]; rfl, rfl⟩
        · have g3 : ¬ (57 : Int) < (B : Int) := by have : ¬ 57 < B := fun h => h3 (HB.out.1 h); omega
          have hacc2 : acc < 144115188075855872 := by omega
          have hfin : dec l = if x < 128 then (acc * 128 + x % 128, k + 1, 0) else decGo (acc * 128 + x % 128) (k + 1) (l.drop (k + 1)) := by rw [HDD.out, if_neg h3]
          have hor := or7_int acc x hacc2
          have hy : acc * 128 + x % 128 < 18446744073709551616 := by omega
          generalize acc * 128 + x % 128 = y at *
          have hlo : x < 128 → Hid (dec l = (y, k + 1, 0)) := fun h => by show dec l = _; rw [hfin, if_pos h]
          have hhi : ¬ x < 128 → Hid (dec l = decGo y (k + 1) (l.drop (k + 1))) := fun h => by show dec l = _; rw [hfin, if_neg h]
          have HLO := Lib.hid hlo
          have HHI := Lib.hid hhi
          clear h3 HDD hfin hlo hhi
          by_cases hx : x < 128
          · have hfin := HLO.out hx
            have g4 : (x : Int) < 128 := by omega
            by_cases hk0 : k = 0
            · have t1 : ((k : Int) == 0) = true := by rw [beq_iff_eq]; omega
              have t2 : ((x : Int) == 128) = false := by rw [beq_eq_false_iff_ne]; omega
              clear h2 hk0
              go_wp2_with fail
              refine HL.out.mono ?_
              rintro e w' ⟨rfl, hw⟩
              subst hw
              go_wp2
              go_ret3
              exact ⟨by rw [hfin.out]; rfl, rfl⟩
            · have t1 : ((k : Int) == 0) = false := by rw [beq_eq_false_iff_ne]; omega
              clear h2 hk0
              go_wp2_with fail
              refine HL.out.mono ?_
              rintro e w' ⟨rfl, hw⟩
              subst hw
              go_wp2
              go_ret3
              exact ⟨by rw [hfin.out]; rfl, rfl⟩
          · have hfin := HHI.out hx
            have g4 : ¬ (x : Int) < 128 := by omega
            by_cases hk0 : k = 0
            · have t1 : ((k : Int) == 0) = true := by rw [beq_iff_eq]; omega
              have t2 : ((x : Int) == 128) = false := by rw [beq_eq_false_iff_ne]; omega
              clear h2 hk0
              go_wp2_with fail
              refine HL.out.mono ?_
              rintro e w' ⟨rfl, hw⟩
              subst hw
              go_wp2
              go_round
              case rel => exact ⟨k + 1, y, rfl, by go_num, by omega, hy, .inr ⟨by omega, hfin⟩⟩
              case measure => simp [intOf]; omega
            · have t1 : ((k : Int) == 0) = false := by rw [beq_eq_false_iff_ne]; omega
              clear h2 hk0
              go_wp2_with fail
              refine HL.out.mono ?_
              rintro e w' ⟨rfl, hw⟩
              subst hw
              go_wp2
              go_round
              case rel => exact ⟨k + 1, y, rfl, by go_num, by omega, hy, .inr ⟨by omega, hfin⟩⟩
              case measure => simp [intOf]; omega
    · have g1 : ¬ (k : Int) < (l.length : Int) := by omega
      have hfin : Hid (dec l = (0, 0, 3)) := by
        rcases HI.out with ⟨h2, _⟩ | ⟨_, h3⟩
        · obtain rfl : l = [] := List.eq_nil_of_length_eq_zero (by omega)
          exact dec_nil
        · rw [List.drop_eq_nil_of_le (by omega)] at h3
          exact h3
      go_wp2
      go_ret3
      exact ⟨by rw [hfin.out]; rfl, rfl⟩
end Go.Proofs.YtmbiiemlepfoaaaGreatDoor

/-! The walks of Size, frame.Number, frame.Text. -/
namespace Go.Proofs.YtmbiiemlepfoaaaGreatDoor
open Go.RowKit

set_option maxHeartbeats 400000 in
theorem frSize (w : World) (n : Nat) (hn : n < 18446744073709551616) : Calls Tryz.prog 170 #[.int .u64 (n : Int)] w fun e w' => e = .returned (.int .i64 (sizeN n : Int)) ∧ w = w' := by
  have hlen := Tryz.bits_Len64 (n : Int) w (by omega) (by omega)
  rw [Int.toNat_natCast, bitLen_blen _ hn] at hlen
  have hb := blen_le (x := n) (k := 64) hn
  have hz : ((sizeN n : Nat) : Int) = max 1 ((((blen n : Nat) : Int) + 7 - 1) / 7) := by unfold sizeN; omega
  generalize blen n = B at *
  have HL := Lib.hid hlen
  have HZ := Lib.hid hz
  clear hlen hz
  go_enter Tryz.func170, Tryz.ntmps170
  go_wp2_with fail
  refine HL.out.mono ?_
  rintro e w' ⟨rfl, hw⟩
  subst hw
  go_wp2
  go_ret
  refine ⟨?_, rfl⟩
  rw [HZ.out]
  rfl

/-- The digits, each with more behind it. -/
def digs : Nat → Nat → List UInt8
  | 0, _ => []
  | i + 1, n => u8 (128 + n / 128 ^ i % 128) :: digs i n
theorem digs_length : ∀ i n, (digs i n).length = i
  | 0, _ => rfl
  | i + 1, n => by rw [digs, List.length_cons, digs_length i n]
theorem digs_snoc : ∀ i n, digs (i + 1) n = digs i (n / 128) ++ [u8 (128 + n % 128)]
  | 0, n => by simp [digs]
  | i + 1, n => by
    rw [digs, digs_snoc i n, digs, List.cons_append, Nat.div_div_eq_div_mul, Nat.pow_succ, Nat.mul_comm 128]
theorem digs_encP : ∀ m : Nat, digs (encP m).length m = encP m := by
  intro m
  induction m using Nat.strongRecOn with
  | ind m ih =>
    by_cases h : m = 0
    · subst h; rw [encP_zero]; rfl
    · rw [encP_pos h, List.length_append, List.length_singleton, digs_snoc, ih (m / 128) (by omega)]
theorem digs_enc (n : Nat) : digs (sizeN n) n = encP (n / 128) ++ [u8 (128 + n % 128)] := by
  have h := enc_length n
  unfold enc at h
  rw [List.length_append, List.length_singleton] at h
  rw [← h, digs_snoc, digs_encP]
theorem set_last_enc (n : Nat) : (digs (sizeN n) n).set (sizeN n - 1) (u8 (n % 128)) = enc n := by
  have h := enc_length n
  unfold enc at h ⊢
  rw [List.length_append, List.length_singleton] at h
  rw [digs_enc, List.set_append, if_neg (by omega), show sizeN n - 1 - (encP (n / 128)).length = 0 from by omega]
  rfl
/-- The row behind i rounds. -/
def rowAt (s i n : Nat) : List UInt8 := List.replicate (s - i) 0 ++ digs i n
theorem rowAt_length {s i n : Nat} (h : i ≤ s) : (rowAt s i n).length = s := by
  unfold rowAt
  rw [List.length_append, List.length_replicate, digs_length]
  omega
theorem rowAt_set {s i n j : Nat} (h : s = i + j + 1) : (rowAt s i n).set j (u8 (128 + n / 128 ^ i % 128)) = rowAt s (i + 1) n := by
  unfold rowAt
  rw [List.set_append, if_pos (by rw [List.length_replicate]; omega), show s - i = j + 1 from by omega, show s - (i + 1) = j from by omega, digs]
  rw [List.replicate_succ', List.set_append, if_neg (by simp), List.length_replicate, Nat.sub_self]
  simp

theorem byte_and (n : Nat) : bits .and .u8 ((n : Int) % 256) 127 = ((n % 128 : Nat) : Int) := by
  have h := and7 (n % 256) (by omega)
  rw [show n % 256 % 128 = n % 128 from by omega] at h
  rw [← h]
  rfl
theorem byte_or (n : Nat) : bits .or .u8 ((n % 128 : Nat) : Int) 128 = ((128 + n % 128 : Nat) : Int) := by
  have := u8_or_nat (n % 128) 128 (by omega) (by omega)
  rw [Nat.or_comm, nat_join 7 128 (n % 128) (by decide) (by omega)] at this
  exact this
theorem byte_andNot (n : Nat) : bits .andNot .u8 ((128 + n % 128 : Nat) : Int) 128 = ((n % 128 : Nat) : Int) := by
  have h := u8_andNot_nat (128 + n % 128) 128 (by omega) (by omega)
  have : (128 + n % 128) &&& (255 - 128) = n % 128 := by
    show (128 + n % 128) &&& 127 = n % 128
    rw [nat_mask7]
    omega
  rw [this] at h
  exact h
theorem bv_u8 {x : Nat} (h : x < 256) : bv (u8 x) = .int .u8 (x : Int) := by unfold bv; rw [u8_toNat h]

/-- What frame.Number hands back. -/
structure NumR (w w' : World) (q : Option Addr) (d : Nat) (l : List UInt8) : Prop where
  own : w'.ownsRow w.heap.size 5 1 (.slice q l.length d) l.length (l.map bv)
  below : Below w.heap.size w w'

set_option maxHeartbeats 2000000 in
set_option maxRecDepth 100000 in
theorem frNumber (w : World) (n : Nat) (hn : n < 18446744073709551616) : Calls Tryz.prog 97 #[.int .u64 (n : Int)] w fun e w' => ∃ q d, e = .returned (.slice q (enc n).length d) ∧ NumR w w' q d (enc n) := by
  obtain ⟨i0, hi, hz0, hz1, hz2⟩ := info_parts info5
  have hsz := frSize w n hn
  have hsl := size_le hn
  have hsp := size_pos n
  have hel := enc_length n
  have hset := set_last_enc n
  obtain ⟨s, hs⟩ : ∃ s, sizeN n = s := ⟨_, rfl⟩
  rw [hs] at hsz hsl hsp hel hset
  have HSZ := Lib.hid hsz
  have HEL := Lib.hid hel
  have HSET := Lib.hid hset
  have hmk : (madeCells #[Value.int .u8 0] s).toList = (rowAt s 0 n).map bv := by
    rw [toList_madeCells_one]
    unfold rowAt digs
    simp [bv]
  have HMK := Lib.hid hmk
  clear hsz hel hset hs hmk
  go_enter Tryz.func97, Tryz.ntmps97
  go_wp2_with fail
  refine HSZ.out.mono ?_
  rintro e w' ⟨rfl, rfl⟩
  go_wp2_with (at_make; refine wpList_make_full _ rfl _ _ 22 rfl w.heap.size 5 i0 (.int .u8 0) 1 Tryz.underlying22 hi hz0 hz1 _ _ _ _ s rfl rfl rfl rfl (by rw [hz2]; omega) (by unfold maxLen; omega) (Nat.le_refl _) ?_)
  intro w1 hown hgr
  rw [HMK.out] at hown
  have hb1 := (Below.refl _ w).grown hgr (Nat.le_refl _) (fun _ h => by cases h)
  have HOWN := Lib.hid hown
  have HB1 : Hid (Below w.heap.size w w1) := hb1
  clear hown hgr hb1
  go_wp2
  go_loopw [0, 4, 10] (fun v0 _ v10 wr => ∃ i : Nat, v0 = .int .u64 ((n / 128 ^ i : Nat) : Int) ∧ v10 = .int .i64 i ∧ i ≤ s ∧ wr.ownsRow w.heap.size 5 1 (.slice (some ⟨w.heap.size, 0, none⟩) s s) s ((rowAt s i n).map bv) ∧ Below w.heap.size w wr)
    (fun _ _ v10 _ => s - (intOf v10).toNat)
  case atStart => exact ⟨0, by simp, rfl, Nat.zero_le _, HOWN.out, HB1.out⟩
  case round =>
    obtain ⟨i, rfl, rfl, hi2, hown, hbel⟩ := hrel
    by_cases h1 : i < s
    · have g1 : (i : Int) < (s : Int) := by omega
      obtain ⟨j, hj⟩ : ∃ j, s = i + j + 1 := ⟨s - i - 1, by omega⟩
      have hji : (s : Int) - 1 - (i : Int) = (j : Int) := by omega
      have hjs : (j : Int) < (s : Int) := by omega
      have hrow : (rowAt s i n).length = s := rowAt_length hi2
      obtain ⟨old, hold⟩ : ∃ y, (rowAt s i n)[j]? = some y := ⟨_, List.getElem?_eq_getElem (by omega)⟩
      have hcell : wr.cell? ⟨w.heap.size, j, none⟩ = some (.int .u8 (old.toNat : Int)) := by
        rw [hown.cellAt j (by omega), List.getElem?_map, hold]
        rfl
      have hfr : wr.frozen? ⟨w.heap.size, j, none⟩ = false := hown.frozenAt j
      have hst := (hown.stored j (bv (u8 (128 + n / 128 ^ i % 128)))).1
      rw [← List.map_set, rowAt_set hj, bv_u8 (by omega)] at hst
      have hb2 := hbel.setCell (p := ⟨w.heap.size, j, none⟩) (Nat.le_refl _) (.int .u8 ((128 + n / 128 ^ i % 128 : Nat) : Int))
      have hdiv : n / 128 ^ (i + 1) = n / 128 ^ i / 128 := by rw [Nat.pow_succ, Nat.div_div_eq_div_mul]
      have hsm : n / 128 ^ i < 18446744073709551616 := Nat.lt_of_le_of_lt (Nat.div_le_self _ _) hn
      generalize n / 128 ^ i = x at *
      have ha := byte_and x
      have ho := byte_or x
      generalize x % 128 = y at *
      have ey : ((128 + y : Nat) : Int) = 128 + (y : Int) := by omega
      rw [ey] at hst hb2 ho
      have HST := Lib.hid hst
      have HB2 : Hid (Below w.heap.size w (wr.setCell ⟨w.heap.size, j, none⟩ (.int .u8 (128 + (y : Int))))) := hb2
      have HDIV := Lib.hid hdiv
      clear hst hb2 hdiv hold hown hbel hrow hj ey
      go_wp2
      go_roundw
      case rel => exact ⟨i + 1, by rw [HDIV.out]; simp, by go_num, by omega, HST.out, HB2.out⟩
      case measure => simp [intOf]; omega
    · obtain rfl : i = s := by omega
      have g1 : ¬ (i : Int) < (i : Int) := by omega
      have hrw : rowAt i i n = digs i n := by unfold rowAt; rw [Nat.sub_self]; rfl
      rw [hrw] at hown
      obtain ⟨j, hj⟩ : ∃ j, i = j + 1 := ⟨i - 1, by omega⟩
      have hji : (i : Int) - 1 = (j : Int) := by omega
      have hjs : (j : Int) < (i : Int) := by omega
      have hlast : (digs i n)[j]? = some (u8 (128 + n % 128)) := by
        have h0 := digs_enc n
        have hle := enc_length n
        rw [HEL.out] at hle
        rw [← hle] at h0
        have h2 : (encP (n / 128)).length + 1 = i := by
          have := HEL.out
          unfold enc at this
          rw [List.length_append, List.length_singleton] at this
          exact this
        rw [h0, List.getElem?_append_right (by omega), show j - (encP (n / 128)).length = 0 from by omega]
        rfl
      have hcell : wr.cell? ⟨w.heap.size, j, none⟩ = some (.int .u8 ((128 + n % 128 : Nat) : Int)) := by
        rw [hown.cellAt j (by omega), List.getElem?_map, hlast]
        show some (bv _) = _
        rw [bv_u8 (by omega)]
      have hfr : wr.frozen? ⟨w.heap.size, j, none⟩ = false := hown.frozenAt j
      have hst := (hown.stored j (bv (u8 (n % 128)))).1
      have hs2 := HSET.out
      rw [show i - 1 = j from by omega] at hs2
      rw [← List.map_set, hs2, bv_u8 (by omega)] at hst
      have hb2 := hbel.setCell (p := ⟨w.heap.size, j, none⟩) (Nat.le_refl _) (.int .u8 ((n % 128 : Nat) : Int))
      have han := byte_andNot n
      have hz : n % 128 < 128 := Nat.mod_lt _ (by omega)
      generalize n % 128 = z at *
      have ez : ((128 + z : Nat) : Int) = 128 + (z : Int) := by omega
      rw [ez] at hcell han
      have HST := Lib.hid hst
      have HB2 : Hid (Below w.heap.size w (wr.setCell ⟨w.heap.size, j, none⟩ (.int .u8 (z : Int)))) := hb2
      clear hst hb2 hlast hown hbel hrw hj ez hs2
      go_wp2
      go_ret
      have hel := HEL.out
      exact ⟨some ⟨w.heap.size, 0, none⟩, i, by rw [hel]; rfl, by rw [hel]; exact HST.out, HB2.out⟩

set_option maxHeartbeats 1000000 in
set_option maxRecDepth 100000 in
/-- frame.Text: the length as a number, the bytes behind it. -/
theorem frText (w : World) {p : Option Addr} {c : Nat} {l : List UInt8} (h : IsB w p c l) (hl : l.length ≤ 1000000) :
    Calls Tryz.prog 101 #[.slice p l.length c] w fun e w' => ∃ q d, e = .returned (.slice q (enc l.length ++ l).length d) ∧ NumR w w' q d (enc l.length ++ l) := by
  have H := Lib.hid h
  have HN := Lib.hid (frNumber w l.length (by omega))
  have hel := size_le (n := l.length) (by omega)
  rw [← enc_length] at hel
  clear h
  go_enter Tryz.func101, Tryz.ntmps101
  go_wp2_with fail
  refine HN.out.mono ?_
  rintro e w1 ⟨q, d, rfl, hown, hbel⟩
  have h1 := H.out.below hbel
  have hs := hbel.size
  obtain ⟨E, hE⟩ : ∃ E, enc l.length = E := ⟨_, rfl⟩
  rw [hE] at hown hel
  have HE := Lib.hid hE
  rw [hE]
  have HOWN := Lib.hid hown
  have HB1 : Hid (Below w.heap.size w w1) := hbel
  have H1 := Lib.hid h1
  clear hown hbel h1 hE HN
  go_wp2_with (at_builtin; refine wp_append_bytes _ rfl _ _ rfl w.heap.size _ _ _ rfl HOWN.out hs H1.out _ rfl rfl ?rb ?_)
  case rb => omega
  intro v' w2 hown2 hb2
  obtain ⟨q2, d2, rfl⟩ := own_slice hown2
  have he : E.length + l.length = (E ++ l).length := by simp
  rw [he, ← List.map_append] at hown2
  have HO2 := Lib.hid hown2
  have HB2 : Hid (Below w.heap.size w w2) := HB1.out.trans hb2
  clear hown2 hb2 he
  go_wp2
  go_ret
  rw [HE.out]
  exact ⟨q2, d2, by rw [List.length_append]; rfl, HO2.out, HB2.out⟩
end Go.Proofs.YtmbiiemlepfoaaaGreatDoor

/-! The walks of the reference's Number, Text, Read, Take. -/
namespace Go.Proofs.YtmbiiemlepfoaaaGreatDoor
open Go.RowKit

theorem str_append (a b : List UInt8) : str a ++ str b = str (a ++ b) := by
  apply ByteArray.ext
  show (str a ++ str b).data = (a ++ b).toArray
  rw [ByteArray.data_append]
  simp [str]
theorem str_of (t : ByteArray) : str t.data.toList = t := by
  apply ByteArray.ext
  simp [str]
/-- A string of one byte, out of a row that the call has just made. -/
theorem conv_byte (w : World) (x : Nat) (h : x < 256) : (Go.convert 22 9 (.slice (some ⟨w.heap.size, 0, none⟩) 1 1)).run Tryz.prog (w.alloc (.cells #[.int .u8 (x : Int)] 5)) =
    .ok (.string (str [u8 x])) (w.alloc (.cells #[.int .u8 (x : Int)] 5)) := by
  have := (IsB.lit w [u8 x] 5 (0, 0) (by unfold maxLen; simp)).convert (P := Tryz.prog) Tryz.underlying22 Tryz.underlying5 Tryz.underlying9
  have e : ([u8 x].map bv).toArray = #[.int .u8 (x : Int)] := by simp [bv_u8 h]
  rw [e] at this
  exact this

set_option maxHeartbeats 1000000 in
set_option maxRecDepth 100000 in
theorem refNumber (w : World) (n : Nat) (hn : n < 18446744073709551616) : Calls Tryz.prog 195 #[.int .u64 (n : Int)] w fun e w' => e = .returned (.string (str (enc n))) ∧ Below w.heap.size w w' := by
  have hm : n % 128 < 128 := Nat.mod_lt _ (by omega)
  have k1 := conv_byte w (n % 128) (by omega)
  have he : enc n = encP (n / 128) ++ [u8 (n % 128)] := rfl
  have e1 : ((n : Int) % 128) = ((n % 128 : Nat) : Int) := by omega
  have HE := Lib.hid he
  have hdiv : n / 128 < 18446744073709551616 := by omega
  have e2 : ((n : Int) / 128) = ((n / 128 : Nat) : Int) := by omega
  generalize n % 128 = z at *
  generalize n / 128 = m0 at *
  clear he
  go_enter Tryz.func195, Tryz.ntmps195
  go_wp2
  go_loopw [0, 3] (fun v0 v3 wr => ∃ (m : Nat) (t : List UInt8), v0 = .int .u64 m ∧ v3 = .string (str t) ∧ m < 18446744073709551616 ∧ t.length ≤ 1000 ∧ Hid (encP m ++ t = enc n) ∧ Below w.heap.size w wr) (fun v0 _ _ => (intOf v0).toNat)
  case atStart => exact ⟨m0, [u8 z], rfl, rfl, hdiv, by simp, HE.out.symm, (Below.refl _ _).alloc (Nat.le_refl _) _⟩
  case round =>
    obtain ⟨m, t, rfl, rfl, hm64, ht, HI, hbel⟩ := hrel
    have HB := Lib.hid hbel
    have hs := hbel.size
    clear hbel k1 e1 e2
    have hlen : t.length ≤ 10 := by
      have h1 := congrArg List.length HI.out
      rw [List.length_append, enc_length] at h1
      have h2 := size_le hn
      omega
    by_cases h0 : 0 < m
    · have hy : m % 128 < 128 := Nat.mod_lt _ (by omega)
      have hst : Hid (encP (m / 128) ++ (u8 (m % 128 + 128) :: t) = enc n) := by
        show encP (m / 128) ++ (u8 (m % 128 + 128) :: t) = enc n
        rw [← HI.out, encP_pos (m := m) (by omega), List.append_assoc, Nat.add_comm (m % 128) 128]
        rfl
      have e1 : (m : Int) % 128 = ((m % 128 : Nat) : Int) := by omega
      have e2 : (m : Int) / 128 = ((m / 128 : Nat) : Int) := by omega
      have k1 := conv_byte wr (m % 128 + 128) (by omega)
      have hd : m / 128 < m := by omega
      generalize m % 128 = y at *
      generalize m / 128 = m1 at *
      have ey : ((y + 128 : Nat) : Int) = (y : Int) + 128 := by omega
      rw [ey] at k1
      have hsz : (str [u8 (y + 128)]).size + (str t).size ≤ 9223372036854775807 := by rw [str_size, str_size]; simp; omega
      have hap : str [u8 (y + 128)] ++ str t = str (u8 (y + 128) :: t) := str_append _ _
      have g0 : (0 : Int) < (m : Int) := by omega
      clear ey
      go_wp2
      go_roundw
      case rel => exact ⟨m1, u8 (y + 128) :: t, rfl, rfl, by omega, by simp; omega, hst, HB.out.alloc hs _⟩
      case measure => simp [intOf]; omega
    · have g0 : ¬ (0 : Int) < (m : Int) := by omega
      have hfin : Hid (t = enc n) := by
        have := HI.out
        rw [show m = 0 from by omega, encP_zero] at this
        exact this
      go_wp2
      go_ret
      exact ⟨by rw [← hfin.out]; rfl, HB.out⟩

set_option maxHeartbeats 400000 in
theorem refText (w : World) (l : List UInt8) (hl : l.length ≤ 1000000) : Calls Tryz.prog 196 #[.string (str l)] w fun e w' => e = .returned (.string (str (enc l.length ++ l))) ∧ Below w.heap.size w w' := by
  have HN := Lib.hid (refNumber w l.length (by omega))
  have hel := size_le (n := l.length) (by omega)
  rw [← enc_length] at hel
  have hz : (str (enc l.length)).size + (str l).size ≤ 9223372036854775807 := by rw [str_size, str_size]; omega
  have hap : str (enc l.length) ++ str l = str (enc l.length ++ l) := str_append _ _
  have hsl : (str l).size = l.length := rfl
  go_enter Tryz.func196, Tryz.ntmps196
  go_wp2_with fail
  refine HN.out.mono ?_
  rintro e w1 ⟨rfl, hbel⟩
  have HB : Hid (Below w.heap.size w w1) := hbel
  clear hbel
  go_wp2
  go_ret
  exact ⟨rfl, HB.out⟩

theorem quot_ge (acc g : Nat) (hg : g < 128) : ((18446744073709551615 - g) / 128 < acc) ↔ 2 ^ 57 ≤ acc := by
  constructor
  · intro h
    have : 2 ^ 57 - 1 ≤ (18446744073709551615 - g) / 128 := by omega
    omega
  · intro h
    omega

set_option maxHeartbeats 2000000 in
set_option maxRecDepth 100000 in
theorem refRead (w : World) (s : ByteArray) (hs : s.size ≤ 1000000) : Calls Tryz.prog 32 #[.string s] w fun e w' => ∃ t : ByteArray, e = .returned (.tuple #[.int .u64 ((dec s.data.toList).1 : Int), .string t, .int .i64 ((dec s.data.toList).2.2 : Int)]) ∧ t.data.toList = s.data.toList.drop (dec s.data.toList).2.1 ∧ ∃ n, w' = w.drewN n := by
  have hls : s.data.toList.length = s.size := by simp
  have LS := Lib.hid hls
  clear hls
  go_enter Tryz.func32, Tryz.ntmps32
  go_wp2
  go_loop [5, 6, 7, 8] (fun v5 v6 _ _ => ∃ k acc : Nat, v5 = .int .u64 acc ∧ v6 = .int .i64 k ∧ k ≤ s.size ∧ acc < 18446744073709551616 ∧ Hid ((k = 0 ∧ acc = 0) ∨ (0 < k ∧ dec s.data.toList = decGo acc k (s.data.toList.drop k)))) (fun _ v6 _ _ => s.size - (intOf v6).toNat)
  case atStart => exact ⟨0, 0, rfl, rfl, Nat.zero_le _, by omega, .inl ⟨rfl, rfl⟩⟩
  case round =>
    obtain ⟨k, acc, rfl, rfl, hk, hacc, HI⟩ := hrel
    by_cases h1 : k < s.size
    · have g1 : (k : Int) < (s.size : Int) := by omega
      obtain ⟨x, hxn⟩ : ∃ x, (s[k]'h1).toNat = x := ⟨_, rfl⟩
      have hlt : x < 256 := by rw [← hxn]; exact (s[k]'h1).toNat_lt
      have hkl : k < s.data.toList.length := by rw [LS.out]; exact h1
      have hx : (s.data.toList[k]'hkl).toNat = x := hxn
      have hd : (¬ (k = 0 ∧ x = 128)) → dec s.data.toList = decGo acc k (s.data.toList.drop k) := fun hn => by
        rcases HI.out with ⟨h2, h3⟩ | ⟨_, h3⟩
        · subst h2; subst h3
          exact dec_first hkl (fun e => hn ⟨rfl, by rw [← hx]; exact e⟩)
        · exact h3
      have hf : k = 0 → x = 128 → dec s.data.toList = (0, 0, 2) := fun h2 h3 => by subst h2; exact dec_form hkl (by rw [hx]; exact h3)
      have hat := decGo_at (acc := acc) hkl
      rw [hx] at hat
      have HD : Hid (¬ (k = 0 ∧ x = 128) → dec s.data.toList = decGo acc k (s.data.toList.drop k)) := hd
      have HF : Hid (k = 0 → x = 128 → dec s.data.toList = (0, 0, 2)) := hf
      have HAT := Lib.hid hat
      clear hd hf hat hx hkl
      by_cases h2 : k = 0 ∧ x = 128
      · have hdd := HF.out h2.1 h2.2
        have HDD := Lib.hid hdd
        have t1 : ((k : Int) == 0) = true := by rw [beq_iff_eq]; omega
        have t2 : ((x : Int) == 128) = true := by rw [beq_iff_eq]; omega
        clear hdd h2
        go_wp2
        go_ret3
        rw [HDD.out]
        exact ⟨s, rfl, rfl, 0, rfl⟩
      · have hdd := HD.out h2
        rw [HAT.out] at hdd
        have hy : x % 128 < 128 := Nat.mod_lt _ (by omega)
        have hq := quot_ge acc (x % 128) hy
        have hxy : (x : Int) % 128 = ((x % 128 : Nat) : Int) := by omega
        generalize x % 128 = y at *
        have HDD := Lib.hid hdd
        have HQ := Lib.hid hq
        have t3 : ((k : Int) == 0) = true ∧ ((x : Int) == 128) = false ∨ ((k : Int) == 0) = false := by
          by_cases hk0 : k = 0
          · exact .inl ⟨by rw [beq_iff_eq]; omega, by rw [beq_eq_false_iff_ne]; omega⟩
          · exact .inr (by rw [beq_eq_false_iff_ne]; omega)
        clear hdd hq h2
        by_cases hbig : 2 ^ 57 ≤ acc
        · have hfin : Hid (dec s.data.toList = (0, 0, 4)) := by show dec s.data.toList = _; rw [HDD.out, if_pos hbig]
          have gq : (18446744073709551615 - (y : Int)) / 128 < (acc : Int) := by have := HQ.out.2 hbig; omega
          clear hbig
          rcases t3 with ⟨t1, t2⟩ | t1
          · go_wp2
            go_ret3
            rw [hfin.out]
            exact ⟨s, rfl, rfl, 0, rfl⟩
          · go_wp2
            go_ret3
            rw [hfin.out]
            exact ⟨s, rfl, rfl, 0, rfl⟩
        · have gq : ¬ ((18446744073709551615 - (y : Int)) / 128 < (acc : Int)) := by have : ¬ (18446744073709551615 - y) / 128 < acc := fun h => hbig (HQ.out.1 h); omega
          have hfin0 : dec s.data.toList = if x < 128 then (acc * 128 + y, k + 1, 0) else decGo (acc * 128 + y) (k + 1) (s.data.toList.drop (k + 1)) := by rw [HDD.out, if_neg hbig]
          have hz : acc * 128 + y < 18446744073709551616 := by omega
          have hzi : (acc : Int) * 128 + (y : Int) = ((acc * 128 + y : Nat) : Int) := by omega
          have hacc2 : acc < 144115188075855872 := by omega
          generalize acc * 128 + y = z at *
          have hlo : x < 128 → Hid (dec s.data.toList = (z, k + 1, 0)) := fun h => by show dec s.data.toList = _; rw [hfin0, if_pos h]
          have hhi : ¬ x < 128 → Hid (dec s.data.toList = decGo z (k + 1) (s.data.toList.drop (k + 1))) := fun h => by show dec s.data.toList = _; rw [hfin0, if_neg h]
          have HLO := Lib.hid hlo
          have HHI := Lib.hid hhi
          clear hbig HDD hfin0 hlo hhi
          by_cases hx : x < 128
          · have hfin := HLO.out hx
            have g4 : (x : Int) < 128 := by omega
            rcases t3 with ⟨t1, t2⟩ | t1
            · go_wp2_with fail
              go_quiet (fail)
              go_wp2
              go_ret3
              rw [hfin.out]
              exact ⟨_, rfl, Lib.extract_to_end _ _, _, rfl⟩
            · go_wp2_with fail
              go_quiet (fail)
              go_wp2
              go_ret3
              rw [hfin.out]
              exact ⟨_, rfl, Lib.extract_to_end _ _, _, rfl⟩
          · have hfin := HHI.out hx
            have g4 : ¬ (x : Int) < 128 := by omega
            rcases t3 with ⟨t1, t2⟩ | t1
            · go_wp2
              go_round
              case rel => exact ⟨k + 1, z, by first | rfl | go_num, by go_num, by omega, by omega, .inr ⟨by omega, hfin⟩⟩
              case measure => simp [intOf]; omega
            · go_wp2
              go_round
              case rel => exact ⟨k + 1, z, by first | rfl | go_num, by go_num, by omega, by omega, .inr ⟨by omega, hfin⟩⟩
              case measure => simp [intOf]; omega
    · have g1 : ¬ (k : Int) < (s.size : Int) := by omega
      have hfin : Hid (dec s.data.toList = (0, 0, 3)) := by
        have hl := LS.out
        rcases HI.out with ⟨h2, _⟩ | ⟨_, h3⟩
        · rw [List.eq_nil_of_length_eq_zero (by omega : s.data.toList.length = 0)]
          exact dec_nil
        · rw [List.drop_eq_nil_of_le (by omega)] at h3
          exact h3
      go_wp2
      go_ret3
      rw [hfin.out]
      exact ⟨s, rfl, rfl, 0, rfl⟩
end Go.Proofs.YtmbiiemlepfoaaaGreatDoor

/-! The walk of a reader's Number. -/
namespace Go.Proofs.YtmbiiemlepfoaaaGreatDoor
open Go.RowKit

def numOp (l : List UInt8) (e : Nat) : Nat × List UInt8 × Nat := if e = 0 then ((dec l).1, l.drop (dec l).2.1, (dec l).2.2) else (0, l, e)
theorem decGo_le : ∀ (l : List UInt8) (acc k : Nat), (decGo acc k l).2.1 ≤ k + l.length
  | [], _, _ => by simp [decGo]
  | c :: r, acc, k => by
    unfold decGo
    split
    · simp
    · split
      · simp
      · have := decGo_le r (acc * 128 + c.toNat % 128) (k + 1)
        rw [List.length_cons]
        omega
theorem dec_le (l : List UInt8) : (dec l).2.1 ≤ l.length := by
  unfold dec
  cases l with
  | nil => simp
  | cons c r =>
    simp only
    split
    · simp
    · have := decGo_le (c :: r) 0 0
      omega

set_option maxHeartbeats 1000000 in
set_option maxRecDepth 100000 in
theorem rdNumber (w : World) {g : Nat} {l : List UInt8} {e : Nat} (h : Rd w g l e) :
    Calls Tryz.prog 83 #[.pointer (some ⟨g, 0, none⟩)] w fun en w' => en = .returned (.int .u64 ((numOp l e).1 : Int)) ∧ Rd w' g (numOp l e).2.1 (numOp l e).2.2 ∧ w.grownBy w' (some g) := by
  obtain ⟨q, d, c0, c1, f0, f1, ob⟩ := h.cells
  by_cases he : e = 0
  · subst he
    have hop : numOp l 0 = ((dec l).1, l.drop (dec l).2.1, (dec l).2.2) := rfl
    have hnum := number w ob.isB
    have hle := dec_le l
    have hfail := fun e' => rdFail w e' h
    obtain ⟨n, s, e', hdec⟩ : ∃ n s e', dec l = (n, s, e') := ⟨_, _, _, rfl⟩
    rw [hdec] at hop hnum hle
    dsimp only at hop hnum hle
    have hf0 : failE 0 e' = e' := rfl
    have HOP := Lib.hid hop
    have HNUM := Lib.hid hnum
    have HFAIL := Lib.hid (hfail e')
    clear hop hnum hdec hfail ob h
    go_enter Tryz.func83, Tryz.ntmps83
    go_wp2_with fail
    refine HNUM.out.mono ?_
    rintro en w' ⟨rfl, rfl⟩
    go_wp2_with fail
    refine HFAIL.out.mono ?_
    rintro en w1 ⟨rfl, hrd, hgr⟩
    rw [hf0] at hrd
    obtain ⟨q1, d1, k0, k1, z0, z1, ob1⟩ := hrd.cells
    have hd := ob1.drop s hle
    have hcap := ob1.cap
    have RD := Lib.hid hrd
    have GR : Hid (w.grownBy w1 (some g)) := hgr
    have hls : (l.drop s).length = l.length - s := List.length_drop
    by_cases hds : d1 = s
    · rw [if_pos hds] at hd
      have OB1 := Lib.hid hd
      have LS := Lib.hid hls
      subst hds
      clear hrd hgr ob1 hd c0 c1 f0 f1 hf0 hls
      go_wp2
      go_ret
      have hset := RD.out.set_b OB1.out
      rw [LS.out] at hset
      rw [HOP.out]
      have e0 : d1 - d1 = 0 := Nat.sub_self _
      have e1 : l.length - d1 = 0 := by omega
      rw [e0, e1] at hset
      exact ⟨rfl, hset.1, grown_transR GR.out hset.2⟩
    · rw [if_neg hds] at hd
      have OB1 := Lib.hid hd
      have LS := Lib.hid hls
      clear hrd hgr ob1 hd c0 c1 f0 f1 hf0 hls
      go_wp2
      go_ret
      have hset := RD.out.set_b OB1.out
      rw [LS.out] at hset
      rw [HOP.out]
      exact ⟨rfl, hset.1, grown_transR GR.out hset.2⟩
  · have hop : numOp l e = (0, l, e) := by unfold numOp; rw [if_neg he]
    have HOP := Lib.hid hop
    have H := Lib.hid h
    have g1 : ((e : Int) == 0) = false := by rw [beq_eq_false_iff_ne]; omega
    have g2 : ((e : Int) != 0) = true := by rw [bne_iff_ne]; omega
    clear hop h he
    go_enter Tryz.func83, Tryz.ntmps83
    go_wp2
    go_ret
    exact ⟨by rw [HOP.out]; rfl, by rw [HOP.out]; exact H.out, grown_refl _ _⟩
end Go.Proofs.YtmbiiemlepfoaaaGreatDoor

/-! The walk of a reader's Take. -/
namespace Go.Proofs.YtmbiiemlepfoaaaGreatDoor
open Go.RowKit

def takeOp (l : List UInt8) (e m : Nat) : List UInt8 × List UInt8 × Nat := if e = 0 then (if l.length < m then ([], l, 3) else (l.take m, l.drop m, 0)) else ([], l, e)

/-- What Take, Text hand back. -/
structure TakeR (w w' : World) (g : Nat) (q : Option Addr) (d : Nat) (r : List UInt8 × List UInt8 × Nat) : Prop where
  ob : OB w' q d r.1
  rd : Rd w' g r.2.1 r.2.2
  grown : w.grownBy w' (some g)

set_option maxHeartbeats 2000000 in
set_option maxRecDepth 100000 in
theorem rdTake (w : World) {g : Nat} {l : List UInt8} {e : Nat} (n : Int) (m : Nat) (hm : max n 0 = (m : Int)) (hl : l.length ≤ 140737488355328) (h : Rd w g l e) :
    Calls Tryz.prog 237 #[.pointer (some ⟨g, 0, none⟩), .int .i64 n] w fun en w' => ∃ q d, en = .returned (.slice q (takeOp l e m).1.length d) ∧ TakeR w w' g q d (takeOp l e m) := by
  obtain ⟨q, d, c0, c1, f0, f1, ob⟩ := h.cells
  by_cases he : e = 0
  · subst he
    by_cases hlm : l.length < m
    · have hop : takeOp l 0 m = ([], l, 3) := by unfold takeOp; rw [if_pos rfl, if_pos hlm]
      have hfail := rdFail w 3 h
      have hf : failE 0 3 = 3 := rfl
      rw [hf] at hfail
      have HOP := Lib.hid hop
      have HF := Lib.hid hfail
      have g1 : (l.length : Int) < (m : Int) := by omega
      clear hop hfail hf ob h hlm
      go_enter Tryz.func237, Tryz.ntmps237
      go_wp2_with fail
      refine HF.out.mono ?_
      rintro en w1 ⟨rfl, hrd, hgr⟩
      obtain ⟨q1, d1, k0, k1, z0, z1, ob1⟩ := hrd.cells
      have RD := Lib.hid hrd
      have GR : Hid (w.grownBy w1 (some g)) := hgr
      clear hrd hgr ob1
      go_wp2
      go_ret
      rw [HOP.out]
      exact ⟨none, 0, rfl, OB.nil_ _, RD.out, GR.out⟩
    · have hop : takeOp l 0 m = (l.take m, l.drop m, 0) := by unfold takeOp; rw [if_pos rfl, if_neg hlm]
      have HOP := Lib.hid hop
      have g1 : ¬ (l.length : Int) < (m : Int) := by omega
      have hcap := ob.cap
      have hmd : m ≤ d := by omega
      have htk : (l.take m).length = m := by rw [List.length_take]; omega
      have hcl := clone w (ob.isB.take m) (by omega)
      rw [htk] at hcl
      have HCL := Lib.hid hcl
      have HT := Lib.hid htk
      have OB0 := Lib.hid ob
      have H := Lib.hid h
      have hlm2 : m ≤ l.length := by omega
      clear hop hcl htk ob h hlm
      go_enter Tryz.func237, Tryz.ntmps237
      go_wp2_with fail
      refine HCL.out.mono ?_
      rintro en w1 ⟨v, rfl, hown, hbel⟩
      rw [HT.out] at hown
      obtain ⟨q1, d1, rfl⟩ := own_slice hown
      have hown' : w1.ownsRow w.heap.size 5 1 (.slice q1 (l.take m).length d1) (l.take m).length ((l.take m).map bv) := by rw [HT.out]; exact hown
      have o1 := OB.of_own hown'
      have rd1 := H.out.below hbel
      have od1 := (OB0.out.below hbel).drop m hlm2
      have hlt := H.out.lt
      have k0 := (hbel.cell (p := ⟨g, 0, none⟩) hlt).trans c0
      have k1 := (hbel.cell (p := ⟨g, 1, none⟩) hlt).trans c1
      have z0 := (hbel.frozen (p := ⟨g, 0, none⟩) hlt).trans f0
      have hls : (l.drop m).length = l.length - m := List.length_drop
      have O1 := Lib.hid o1
      have R1 := Lib.hid rd1
      have LS := Lib.hid hls
      have GB : Hid (w.grownBy w1 (some g)) := grown_below hbel
      clear hown hown' hbel o1 rd1 hls
      by_cases hds : d = m
      · rw [if_pos hds] at od1
        have OD := Lib.hid od1
        have e1 : l.length - d = 0 := by omega
        subst hds
        clear od1
        go_wp2
        go_ret
        have hset := R1.out.set_b OD.out
        rw [LS.out, Nat.sub_self, e1] at hset
        rw [HOP.out]
        exact ⟨q1, d1, by dsimp only; rw [HT.out]; rfl, R1.out.bytes O1.out hset.2, hset.1, grown_transR GB.out hset.2⟩
      · rw [if_neg hds] at od1
        have OD := Lib.hid od1
        clear od1
        go_wp2
        go_ret
        have hset := R1.out.set_b OD.out
        rw [LS.out] at hset
        rw [HOP.out]
        exact ⟨q1, d1, by dsimp only; rw [HT.out]; rfl, R1.out.bytes O1.out hset.2, hset.1, grown_transR GB.out hset.2⟩
  · have hop : takeOp l e m = ([], l, e) := by unfold takeOp; rw [if_neg he]
    have HOP := Lib.hid hop
    have H := Lib.hid h
    have g1 : ((e : Int) == 0) = false := by rw [beq_eq_false_iff_ne]; omega
    have g2 : ((e : Int) != 0) = true := by rw [bne_iff_ne]; omega
    clear hop h he ob
    go_enter Tryz.func237, Tryz.ntmps237
    go_wp2
    go_ret
    rw [HOP.out]
    exact ⟨none, 0, rfl, OB.nil_ _, H.out, grown_refl _ _⟩
end Go.Proofs.YtmbiiemlepfoaaaGreatDoor
