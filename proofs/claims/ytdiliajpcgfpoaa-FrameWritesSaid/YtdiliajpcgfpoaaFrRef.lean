/- The walks of the reference's Number, Text, Read, Take. -/
import Derived.Test.YtdiliajpcgfpoaaFrNum
import Derived.Lib.IndexBytes
namespace Go.Proofs.Ytdiliajpcgfpoaa
open Go.RowKit

theorem str_append (a b : List UInt8) : str a ++ str b = str (a ++ b) := by
  apply ByteArray.ext
  show (str a ++ str b).data = (a ++ b).toArray
  rw [ByteArray.data_append]
  simp [str]
theorem str_of (t : ByteArray) : str t.data.toList = t := by
  apply ByteArray.ext
  simp [str]
/-- A string of one byte, out of a row that the call has just made. -/
theorem conv_byte (w : World) (x : Nat) (h : x < 256) : (Go.convert 23 9 (.slice (some ⟨w.heap.size, 0, none⟩) 1 1)).run Try.prog (w.alloc (.cells #[.int .u8 (x : Int)] 5)) =
    .ok (.string (str [u8 x])) (w.alloc (.cells #[.int .u8 (x : Int)] 5)) := by
  have := (IsB.lit w [u8 x] 5 (0, 0) (by unfold maxLen; simp)).convert (P := Try.prog) Try.underlying23 Try.underlying5 Try.underlying9
  have e : ([u8 x].map bv).toArray = #[.int .u8 (x : Int)] := by simp [bv_u8 h]
  rw [e] at this
  exact this

set_option maxHeartbeats 1000000 in
set_option maxRecDepth 100000 in
theorem refNumber (w : World) (n : Nat) (hn : n < 18446744073709551616) : Calls Try.prog 11 #[.int .u64 (n : Int)] w fun e w' => e = .returned (.string (str (enc n))) ∧ Below w.heap.size w w' := by
  have hm : n % 128 < 128 := Nat.mod_lt _ (by omega)
  have k1 := conv_byte w (n % 128) (by omega)
  have he : enc n = encP (n / 128) ++ [u8 (n % 128)] := rfl
  have e1 : ((n : Int) % 128) = ((n % 128 : Nat) : Int) := by omega
  have HE := Lib.hid he
  have hdiv : n / 128 < 18446744073709551616 := by omega
  have e2 : ((n : Int) / 128) = ((n / 128 : Nat) : Int) := by omega
  generalize n % 128 = z at *
  generalize n / 128 = m0 at *
  clear he
  go_enter Try.func11, Try.ntmps11
  go_wp2
  go_loopw [0, 3] (fun v0 v3 wr => ∃ (m : Nat) (t : List UInt8), v0 = .int .u64 m ∧ v3 = .string (str t) ∧ m < 18446744073709551616 ∧ t.length ≤ 1000 ∧ Hid (encP m ++ t = enc n) ∧ Below w.heap.size w wr) (fun v0 _ _ => (intOf v0).toNat)
  case atStart => exact ⟨m0, [u8 z], rfl, rfl, hdiv, by simp, HE.out.symm, (Below.refl _ _).alloc (Nat.le_refl _) _⟩
  case round =>
    obtain ⟨m, t, rfl, rfl, hm64, ht, HI, hbel⟩ := hrel
    have HB := Lib.hid hbel
    have hs := hbel.size
    clear hbel k1 e1 e2
    have hlen : t.length ≤ 10 := by
      have h1 := congrArg List.length HI.out
      rw [List.length_append, enc_length] at h1
      have h2 := size_le hn
      omega
    by_cases h0 : 0 < m
    · have hy : m % 128 < 128 := Nat.mod_lt _ (by omega)
      have hst : Hid (encP (m / 128) ++ (u8 (m % 128 + 128) :: t) = enc n) := by
        show encP (m / 128) ++ (u8 (m % 128 + 128) :: t) = enc n
        rw [← HI.out, encP_pos (m := m) (by omega), List.append_assoc, Nat.add_comm (m % 128) 128]
        rfl
      have e1 : (m : Int) % 128 = ((m % 128 : Nat) : Int) := by omega
      have e2 : (m : Int) / 128 = ((m / 128 : Nat) : Int) := by omega
      have k1 := conv_byte wr (m % 128 + 128) (by omega)
      have hd : m / 128 < m := by omega
      generalize m % 128 = y at *
      generalize m / 128 = m1 at *
      have ey : ((y + 128 : Nat) : Int) = (y : Int) + 128 := by omega
      rw [ey] at k1
      have hsz : (str [u8 (y + 128)]).size + (str t).size ≤ 9223372036854775807 := by rw [str_size, str_size]; simp; omega
      have hap : str [u8 (y + 128)] ++ str t = str (u8 (y + 128) :: t) := str_append _ _
      have g0 : (0 : Int) < (m : Int) := by omega
      clear ey
      go_wp2
      go_roundw
      case rel => exact ⟨m1, u8 (y + 128) :: t, rfl, rfl, by omega, by simp; omega, hst, HB.out.alloc hs _⟩
      case measure => simp [intOf]; omega
    · have g0 : ¬ (0 : Int) < (m : Int) := by omega
      have hfin : Hid (t = enc n) := by
        have := HI.out
        rw [show m = 0 from by omega, encP_zero] at this
        exact this
      go_wp2
      go_ret
      exact ⟨by rw [← hfin.out]; rfl, HB.out⟩

set_option maxHeartbeats 400000 in
theorem refText (w : World) (l : List UInt8) (hl : l.length ≤ 1000000) : Calls Try.prog 14 #[.string (str l)] w fun e w' => e = .returned (.string (str (enc l.length ++ l))) ∧ Below w.heap.size w w' := by
  have HN := Lib.hid (refNumber w l.length (by omega))
  have hel := size_le (n := l.length) (by omega)
  rw [← enc_length] at hel
  have hz : (str (enc l.length)).size + (str l).size ≤ 9223372036854775807 := by rw [str_size, str_size]; omega
  have hap : str (enc l.length) ++ str l = str (enc l.length ++ l) := str_append _ _
  have hsl : (str l).size = l.length := rfl
  go_enter Try.func14, Try.ntmps14
  go_wp2_with fail
  refine HN.out.mono ?_
  rintro e w1 ⟨rfl, hbel⟩
  have HB : Hid (Below w.heap.size w w1) := hbel
  clear hbel
  go_wp2
  go_ret
  exact ⟨rfl, HB.out⟩

theorem quot_ge (acc g : Nat) (hg : g < 128) : ((18446744073709551615 - g) / 128 < acc) ↔ 2 ^ 57 ≤ acc := by
  constructor
  · intro h
    have : 2 ^ 57 - 1 ≤ (18446744073709551615 - g) / 128 := by omega
    omega
  · intro h
    omega

set_option maxHeartbeats 2000000 in
set_option maxRecDepth 100000 in
theorem refRead (w : World) (s : ByteArray) (hs : s.size ≤ 1000000) : Calls Try.prog 18 #[.string s] w fun e w' => ∃ t : ByteArray, e = .returned (.tuple #[.int .u64 ((dec s.data.toList).1 : Int), .string t, .int .i64 ((dec s.data.toList).2.2 : Int)]) ∧ t.data.toList = s.data.toList.drop (dec s.data.toList).2.1 ∧ ∃ n, w' = w.drewN n := by
  have hls : s.data.toList.length = s.size := by simp
  have LS := Lib.hid hls
  clear hls
  go_enter Try.func18, Try.ntmps18
  go_wp2
  go_loop [5, 6, 7, 8] (fun v5 v6 _ _ => ∃ k acc : Nat, v5 = .int .u64 acc ∧ v6 = .int .i64 k ∧ k ≤ s.size ∧ acc < 18446744073709551616 ∧ Hid ((k = 0 ∧ acc = 0) ∨ (0 < k ∧ dec s.data.toList = decGo acc k (s.data.toList.drop k)))) (fun _ v6 _ _ => s.size - (intOf v6).toNat)
  case atStart => exact ⟨0, 0, rfl, rfl, Nat.zero_le _, by omega, .inl ⟨rfl, rfl⟩⟩
  case round =>
    obtain ⟨k, acc, rfl, rfl, hk, hacc, HI⟩ := hrel
    by_cases h1 : k < s.size
    · have g1 : (k : Int) < (s.size : Int) := by omega
      obtain ⟨x, hxn⟩ : ∃ x, (s[k]'h1).toNat = x := ⟨_, rfl⟩
      have hlt : x < 256 := by rw [← hxn]; exact (s[k]'h1).toNat_lt
      have hkl : k < s.data.toList.length := by rw [LS.out]; exact h1
      have hx : (s.data.toList[k]'hkl).toNat = x := hxn
      have hd : (¬ (k = 0 ∧ x = 128)) → dec s.data.toList = decGo acc k (s.data.toList.drop k) := fun hn => by
        rcases HI.out with ⟨h2, h3⟩ | ⟨_, h3⟩
        · subst h2; subst h3
          exact dec_first hkl (fun e => hn ⟨rfl, by rw [← hx]; exact e⟩)
        · exact h3
      have hf : k = 0 → x = 128 → dec s.data.toList = (0, 0, 2) := fun h2 h3 => by subst h2; exact dec_form hkl (by rw [hx]; exact h3)
      have hat := decGo_at (acc := acc) hkl
      rw [hx] at hat
      have HD : Hid (¬ (k = 0 ∧ x = 128) → dec s.data.toList = decGo acc k (s.data.toList.drop k)) := hd
      have HF : Hid (k = 0 → x = 128 → dec s.data.toList = (0, 0, 2)) := hf
      have HAT := Lib.hid hat
      clear hd hf hat hx hkl
      by_cases h2 : k = 0 ∧ x = 128
      · have hdd := HF.out h2.1 h2.2
        have HDD := Lib.hid hdd
        have t1 : ((k : Int) == 0) = true := by rw [beq_iff_eq]; omega
        have t2 : ((x : Int) == 128) = true := by rw [beq_iff_eq]; omega
        clear hdd h2
        go_wp2
        go_ret3
        rw [HDD.out]
        exact ⟨s, rfl, rfl, 0, rfl⟩
      · have hdd := HD.out h2
        rw [HAT.out] at hdd
        have hy : x % 128 < 128 := Nat.mod_lt _ (by omega)
        have hq := quot_ge acc (x % 128) hy
        have hxy : (x : Int) % 128 = ((x % 128 : Nat) : Int) := by omega
        generalize x % 128 = y at *
        have HDD := Lib.hid hdd
        have HQ := Lib.hid hq
        have t3 : ((k : Int) == 0) = true ∧ ((x : Int) == 128) = false ∨ ((k : Int) == 0) = false := by
          by_cases hk0 : k = 0
          · exact .inl ⟨by rw [beq_iff_eq]; omega, by rw [beq_eq_false_iff_ne]; omega⟩
          · exact .inr (by rw [beq_eq_false_iff_ne]; omega)
        clear hdd hq h2
        by_cases hbig : 2 ^ 57 ≤ acc
        · have hfin : Hid (dec s.data.toList = (0, 0, 4)) := by show dec s.data.toList = _; rw [HDD.out, if_pos hbig]
          have gq : (18446744073709551615 - (y : Int)) / 128 < (acc : Int) := by have := HQ.out.2 hbig; omega
          clear hbig
          rcases t3 with ⟨t1, t2⟩ | t1
          · go_wp2
            go_ret3
            rw [hfin.out]
            exact ⟨s, rfl, rfl, 0, rfl⟩
          · go_wp2
            go_ret3
            rw [hfin.out]
            exact ⟨s, rfl, rfl, 0, rfl⟩
        · have gq : ¬ ((18446744073709551615 - (y : Int)) / 128 < (acc : Int)) := by have : ¬ (18446744073709551615 - y) / 128 < acc := fun h => hbig (HQ.out.1 h); omega
          have hfin0 : dec s.data.toList = if x < 128 then (acc * 128 + y, k + 1, 0) else decGo (acc * 128 + y) (k + 1) (s.data.toList.drop (k + 1)) := by rw [HDD.out, if_neg hbig]
          have hz : acc * 128 + y < 18446744073709551616 := by omega
          have hzi : (acc : Int) * 128 + (y : Int) = ((acc * 128 + y : Nat) : Int) := by omega
          have hacc2 : acc < 144115188075855872 := by omega
          generalize acc * 128 + y = z at *
          have hlo : x < 128 → Hid (dec s.data.toList = (z, k + 1, 0)) := fun h => by show dec s.data.toList = _; rw [hfin0, if_pos h]
          have hhi : ¬ x < 128 → Hid (dec s.data.toList = decGo z (k + 1) (s.data.toList.drop (k + 1))) := fun h => by show dec s.data.toList = _; rw [hfin0, if_neg h]
          have HLO := Lib.hid hlo
          have HHI := Lib.hid hhi
          clear hbig HDD hfin0 hlo hhi
          by_cases hx : x < 128
          · have hfin := HLO.out hx
            have g4 : (x : Int) < 128 := by omega
            rcases t3 with ⟨t1, t2⟩ | t1
            · go_wp2_with fail
              go_quiet (fail)
              go_wp2
              go_ret3
              rw [hfin.out]
              exact ⟨_, rfl, Lib.extract_to_end _ _, _, rfl⟩
            · go_wp2_with fail
              go_quiet (fail)
              go_wp2
              go_ret3
              rw [hfin.out]
              exact ⟨_, rfl, Lib.extract_to_end _ _, _, rfl⟩
          · have hfin := HHI.out hx
            have g4 : ¬ (x : Int) < 128 := by omega
            rcases t3 with ⟨t1, t2⟩ | t1
            · go_wp2
              go_round
              case rel => exact ⟨k + 1, z, by first | rfl | go_num, by go_num, by omega, by omega, .inr ⟨by omega, hfin⟩⟩
              case measure => simp [intOf]; omega
            · go_wp2
              go_round
              case rel => exact ⟨k + 1, z, by first | rfl | go_num, by go_num, by omega, by omega, .inr ⟨by omega, hfin⟩⟩
              case measure => simp [intOf]; omega
    · have g1 : ¬ (k : Int) < (s.size : Int) := by omega
      have hfin : Hid (dec s.data.toList = (0, 0, 3)) := by
        have hl := LS.out
        rcases HI.out with ⟨h2, _⟩ | ⟨_, h3⟩
        · rw [List.eq_nil_of_length_eq_zero (by omega : s.data.toList.length = 0)]
          exact dec_nil
        · rw [List.drop_eq_nil_of_le (by omega)] at h3
          exact h3
      go_wp2
      go_ret3
      rw [hfin.out]
      exact ⟨s, rfl, rfl, 0, rfl⟩
end Go.Proofs.Ytdiliajpcgfpoaa
