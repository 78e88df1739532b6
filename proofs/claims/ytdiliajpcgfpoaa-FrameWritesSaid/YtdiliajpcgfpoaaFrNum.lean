/- The walks of Size, frame.Number, frame.Text. -/
import Derived.Test.YtdiliajpcgfpoaaNumber
import Derived.Test.YtdiliajpcgfpoaaAppend
import Derived.Laws.BitsAllLaws
namespace Go.Proofs.Ytdiliajpcgfpoaa
open Go.RowKit

set_option maxHeartbeats 400000 in
theorem frSize (w : World) (n : Nat) (hn : n < 18446744073709551616) : Calls Try.prog 9 #[.int .u64 (n : Int)] w fun e w' => e = .returned (.int .i64 (sizeN n : Int)) ∧ w = w' := by
  have hlen := Try.bits_Len64 (n : Int) w (by omega) (by omega)
  rw [Int.toNat_natCast, bitLen_blen _ hn] at hlen
  have hb := blen_le (x := n) (k := 64) hn
  have hz : ((sizeN n : Nat) : Int) = max 1 ((((blen n : Nat) : Int) + 7 - 1) / 7) := by unfold sizeN; omega
  generalize blen n = B at *
  have HL := Lib.hid hlen
  have HZ := Lib.hid hz
  clear hlen hz
  go_enter Try.func9, Try.ntmps9
  go_wp2_with fail
  refine HL.out.mono ?_
  rintro e w' ⟨rfl, hw⟩
  subst hw
  go_wp2
  go_ret
  refine ⟨?_, rfl⟩
  rw [HZ.out]
  rfl

/-- The digits, each with more behind it. -/
def digs : Nat → Nat → List UInt8
  | 0, _ => []
  | i + 1, n => u8 (128 + n / 128 ^ i % 128) :: digs i n
theorem digs_length : ∀ i n, (digs i n).length = i
  | 0, _ => rfl
  | i + 1, n => by rw [digs, List.length_cons, digs_length i n]
theorem digs_snoc : ∀ i n, digs (i + 1) n = digs i (n / 128) ++ [u8 (128 + n % 128)]
  | 0, n => by simp [digs]
  | i + 1, n => by
    rw [digs, digs_snoc i n, digs, List.cons_append, Nat.div_div_eq_div_mul, Nat.pow_succ, Nat.mul_comm 128]
theorem digs_encP : ∀ m : Nat, digs (encP m).length m = encP m := by
  intro m
  induction m using Nat.strongRecOn with
  | ind m ih =>
    by_cases h : m = 0
    · subst h; rw [encP_zero]; rfl
    · rw [encP_pos h, List.length_append, List.length_singleton, digs_snoc, ih (m / 128) (by omega)]
theorem digs_enc (n : Nat) : digs (sizeN n) n = encP (n / 128) ++ [u8 (128 + n % 128)] := by
  have h := enc_length n
  unfold enc at h
  rw [List.length_append, List.length_singleton] at h
  rw [← h, digs_snoc, digs_encP]
theorem set_last_enc (n : Nat) : (digs (sizeN n) n).set (sizeN n - 1) (u8 (n % 128)) = enc n := by
  have h := enc_length n
  unfold enc at h ⊢
  rw [List.length_append, List.length_singleton] at h
  rw [digs_enc, List.set_append, if_neg (by omega), show sizeN n - 1 - (encP (n / 128)).length = 0 from by omega]
  rfl
/-- The row behind i rounds. -/
def rowAt (s i n : Nat) : List UInt8 := List.replicate (s - i) 0 ++ digs i n
theorem rowAt_length {s i n : Nat} (h : i ≤ s) : (rowAt s i n).length = s := by
  unfold rowAt
  rw [List.length_append, List.length_replicate, digs_length]
  omega
theorem rowAt_set {s i n j : Nat} (h : s = i + j + 1) : (rowAt s i n).set j (u8 (128 + n / 128 ^ i % 128)) = rowAt s (i + 1) n := by
  unfold rowAt
  rw [List.set_append, if_pos (by rw [List.length_replicate]; omega), show s - i = j + 1 from by omega, show s - (i + 1) = j from by omega, digs]
  rw [List.replicate_succ', List.set_append, if_neg (by simp), List.length_replicate, Nat.sub_self]
  simp

theorem byte_and (n : Nat) : bits .and .u8 ((n : Int) % 256) 127 = ((n % 128 : Nat) : Int) := by
  have h := and7 (n % 256) (by omega)
  rw [show n % 256 % 128 = n % 128 from by omega] at h
  rw [← h]
  rfl
theorem byte_or (n : Nat) : bits .or .u8 ((n % 128 : Nat) : Int) 128 = ((128 + n % 128 : Nat) : Int) := by
  have := u8_or_nat (n % 128) 128 (by omega) (by omega)
  rw [Nat.or_comm, nat_join 7 128 (n % 128) (by decide) (by omega)] at this
  exact this
theorem byte_andNot (n : Nat) : bits .andNot .u8 ((128 + n % 128 : Nat) : Int) 128 = ((n % 128 : Nat) : Int) := by
  have h := u8_andNot_nat (128 + n % 128) 128 (by omega) (by omega)
  have : (128 + n % 128) &&& (255 - 128) = n % 128 := by
    show (128 + n % 128) &&& 127 = n % 128
    rw [nat_mask7]
    omega
  rw [this] at h
  exact h
theorem bv_u8 {x : Nat} (h : x < 256) : bv (u8 x) = .int .u8 (x : Int) := by unfold bv; rw [u8_toNat h]

/-- What frame.Number hands back. -/
structure NumR (w w' : World) (q : Option Addr) (d : Nat) (l : List UInt8) : Prop where
  own : w'.ownsRow w.heap.size 5 1 (.slice q l.length d) l.length (l.map bv)
  below : Below w.heap.size w w'

set_option maxHeartbeats 2000000 in
set_option maxRecDepth 100000 in
theorem frNumber (w : World) (n : Nat) (hn : n < 18446744073709551616) : Calls Try.prog 8 #[.int .u64 (n : Int)] w fun e w' => ∃ q d, e = .returned (.slice q (enc n).length d) ∧ NumR w w' q d (enc n) := by
  obtain ⟨i0, hi, hz0, hz1, hz2⟩ := info_parts info5
  have hsz := frSize w n hn
  have hsl := size_le hn
  have hsp := size_pos n
  have hel := enc_length n
  have hset := set_last_enc n
  obtain ⟨s, hs⟩ : ∃ s, sizeN n = s := ⟨_, rfl⟩
  rw [hs] at hsz hsl hsp hel hset
  have HSZ := Lib.hid hsz
  have HEL := Lib.hid hel
  have HSET := Lib.hid hset
  have hmk : (madeCells #[Value.int .u8 0] s).toList = (rowAt s 0 n).map bv := by
    rw [toList_madeCells_one]
    unfold rowAt digs
    simp [bv]
  have HMK := Lib.hid hmk
  clear hsz hel hset hs hmk
  go_enter Try.func8, Try.ntmps8
  go_wp2_with fail
  refine HSZ.out.mono ?_
  rintro e w' ⟨rfl, rfl⟩
  go_wp2_with (at_make; refine wpList_make_full _ rfl _ _ 23 rfl w.heap.size 5 i0 (.int .u8 0) 1 Try.underlying23 hi hz0 hz1 _ _ _ _ s rfl rfl rfl rfl (by rw [hz2]; omega) (by unfold maxLen; omega) (Nat.le_refl _) ?_)
  intro w1 hown hgr
  rw [HMK.out] at hown
  have hb1 := (Below.refl _ w).grown hgr (Nat.le_refl _) (fun _ h => by cases h)
  have HOWN := Lib.hid hown
  have HB1 : Hid (Below w.heap.size w w1) := hb1
  clear hown hgr hb1
  go_wp2
  go_loopw [0, 4, 10] (fun v0 _ v10 wr => ∃ i : Nat, v0 = .int .u64 ((n / 128 ^ i : Nat) : Int) ∧ v10 = .int .i64 i ∧ i ≤ s ∧ wr.ownsRow w.heap.size 5 1 (.slice (some ⟨w.heap.size, 0, none⟩) s s) s ((rowAt s i n).map bv) ∧ Below w.heap.size w wr)
    (fun _ _ v10 _ => s - (intOf v10).toNat)
  case atStart => exact ⟨0, by simp, rfl, Nat.zero_le _, HOWN.out, HB1.out⟩
  case round =>
    obtain ⟨i, rfl, rfl, hi2, hown, hbel⟩ := hrel
    by_cases h1 : i < s
    · have g1 : (i : Int) < (s : Int) := by omega
      obtain ⟨j, hj⟩ : ∃ j, s = i + j + 1 := ⟨s - i - 1, by omega⟩
      have hji : (s : Int) - 1 - (i : Int) = (j : Int) := by omega
      have hjs : (j : Int) < (s : Int) := by omega
      have hrow : (rowAt s i n).length = s := rowAt_length hi2
      obtain ⟨old, hold⟩ : ∃ y, (rowAt s i n)[j]? = some y := ⟨_, List.getElem?_eq_getElem (by omega)⟩
      have hcell : wr.cell? ⟨w.heap.size, j, none⟩ = some (.int .u8 (old.toNat : Int)) := by
        rw [hown.cellAt j (by omega), List.getElem?_map, hold]
        rfl
      have hfr : wr.frozen? ⟨w.heap.size, j, none⟩ = false := hown.frozenAt j
      have hst := (hown.stored j (bv (u8 (128 + n / 128 ^ i % 128)))).1
      rw [← List.map_set, rowAt_set hj, bv_u8 (by omega)] at hst
      have hb2 := hbel.setCell (p := ⟨w.heap.size, j, none⟩) (Nat.le_refl _) (.int .u8 ((128 + n / 128 ^ i % 128 : Nat) : Int))
      have hdiv : n / 128 ^ (i + 1) = n / 128 ^ i / 128 := by rw [Nat.pow_succ, Nat.div_div_eq_div_mul]
      have hsm : n / 128 ^ i < 18446744073709551616 := Nat.lt_of_le_of_lt (Nat.div_le_self _ _) hn
      generalize n / 128 ^ i = x at *
      have ha := byte_and x
      have ho := byte_or x
      generalize x % 128 = y at *
      have ey : ((128 + y : Nat) : Int) = 128 + (y : Int) := by omega
      rw [ey] at hst hb2 ho
      have HST := Lib.hid hst
      have HB2 : Hid (Below w.heap.size w (wr.setCell ⟨w.heap.size, j, none⟩ (.int .u8 (128 + (y : Int))))) := hb2
      have HDIV := Lib.hid hdiv
      clear hst hb2 hdiv hold hown hbel hrow hj ey
      go_wp2
      go_roundw
      case rel => exact ⟨i + 1, by rw [HDIV.out]; simp, by go_num, by omega, HST.out, HB2.out⟩
      case measure => simp [intOf]; omega
    · obtain rfl : i = s := by omega
      have g1 : ¬ (i : Int) < (i : Int) := by omega
      have hrw : rowAt i i n = digs i n := by unfold rowAt; rw [Nat.sub_self]; rfl
      rw [hrw] at hown
      obtain ⟨j, hj⟩ : ∃ j, i = j + 1 := ⟨i - 1, by omega⟩
      have hji : (i : Int) - 1 = (j : Int) := by omega
      have hjs : (j : Int) < (i : Int) := by omega
      have hlast : (digs i n)[j]? = some (u8 (128 + n % 128)) := by
        have h0 := digs_enc n
        have hle := enc_length n
        rw [HEL.out] at hle
        rw [← hle] at h0
        have h2 : (encP (n / 128)).length + 1 = i := by
          have := HEL.out
          unfold enc at this
          rw [List.length_append, List.length_singleton] at this
          exact this
        rw [h0, List.getElem?_append_right (by omega), show j - (encP (n / 128)).length = 0 from by omega]
        rfl
      have hcell : wr.cell? ⟨w.heap.size, j, none⟩ = some (.int .u8 ((128 + n % 128 : Nat) : Int)) := by
        rw [hown.cellAt j (by omega), List.getElem?_map, hlast]
        show some (bv _) = _
        rw [bv_u8 (by omega)]
      have hfr : wr.frozen? ⟨w.heap.size, j, none⟩ = false := hown.frozenAt j
      have hst := (hown.stored j (bv (u8 (n % 128)))).1
      have hs2 := HSET.out
      rw [show i - 1 = j from by omega] at hs2
      rw [← List.map_set, hs2, bv_u8 (by omega)] at hst
      have hb2 := hbel.setCell (p := ⟨w.heap.size, j, none⟩) (Nat.le_refl _) (.int .u8 ((n % 128 : Nat) : Int))
      have han := byte_andNot n
      have hz : n % 128 < 128 := Nat.mod_lt _ (by omega)
      generalize n % 128 = z at *
      have ez : ((128 + z : Nat) : Int) = 128 + (z : Int) := by omega
      rw [ez] at hcell han
      have HST := Lib.hid hst
      have HB2 : Hid (Below w.heap.size w (wr.setCell ⟨w.heap.size, j, none⟩ (.int .u8 (z : Int)))) := hb2
      clear hst hb2 hlast hown hbel hrw hj ez hs2
      go_wp2
      go_ret
      have hel := HEL.out
      exact ⟨some ⟨w.heap.size, 0, none⟩, i, by rw [hel]; rfl, by rw [hel]; exact HST.out, HB2.out⟩

set_option maxHeartbeats 1000000 in
set_option maxRecDepth 100000 in
/-- frame.Text: the length as a number, the bytes behind it. -/
theorem frText (w : World) {p : Option Addr} {c : Nat} {l : List UInt8} (h : IsB w p c l) (hl : l.length ≤ 1000000) :
    Calls Try.prog 13 #[.slice p l.length c] w fun e w' => ∃ q d, e = .returned (.slice q (enc l.length ++ l).length d) ∧ NumR w w' q d (enc l.length ++ l) := by
  have H := Lib.hid h
  have HN := Lib.hid (frNumber w l.length (by omega))
  have hel := size_le (n := l.length) (by omega)
  rw [← enc_length] at hel
  clear h
  go_enter Try.func13, Try.ntmps13
  go_wp2_with fail
  refine HN.out.mono ?_
  rintro e w1 ⟨q, d, rfl, hown, hbel⟩
  have h1 := H.out.below hbel
  have hs := hbel.size
  obtain ⟨E, hE⟩ : ∃ E, enc l.length = E := ⟨_, rfl⟩
  rw [hE] at hown hel
  have HE := Lib.hid hE
  rw [hE]
  have HOWN := Lib.hid hown
  have HB1 : Hid (Below w.heap.size w w1) := hbel
  have H1 := Lib.hid h1
  clear hown hbel h1 hE HN
  go_wp2_with (at_builtin; refine wp_append_bytes _ rfl _ _ rfl w.heap.size _ _ _ rfl HOWN.out hs H1.out _ rfl rfl ?rb ?_)
  case rb => omega
  intro v' w2 hown2 hb2
  obtain ⟨q2, d2, rfl⟩ := own_slice hown2
  have he : E.length + l.length = (E ++ l).length := by simp
  rw [he, ← List.map_append] at hown2
  have HO2 := Lib.hid hown2
  have HB2 : Hid (Below w.heap.size w w2) := HB1.out.trans hb2
  clear hown2 hb2 he
  go_wp2
  go_ret
  rw [HE.out]
  exact ⟨q2, d2, by rw [List.length_append]; rfl, HO2.out, HB2.out⟩
end Go.Proofs.Ytdiliajpcgfpoaa
