/- The walk of escape. -/
import Derived.Test.YtgbdoccgdkifjaaDoorQuNum
namespace Go.Proofs.YtgbdoccgdkifjaaDoor
open Go.RowKit
set_option linter.unusedVariables false

theorem ofInt_toUInt8 {z : Int} {n : Nat} (h : z = (n : Int)) : z.toNat.toUInt8 = UInt8.ofNat n := by subst h; rfl
theorem encode_str (n : Nat) (hn : n < 65536) : Utf8.encode (n : Int) = str (Lib.encodeRune (n : Int)) := by
  unfold Utf8.encode Lib.encodeRune
  by_cases hv : 55296 ≤ n ∧ n ≤ 57343
  · have hvv : Utf8.valid (n : Int) = false := by simp [Utf8.valid]; omega
    rw [hvv, Lib.encodeRuneZ_bad (by omega)]
    simp only [Bool.false_eq_true, if_false, Utf8.runeError]
    rfl
  · have hvv : Utf8.valid (n : Int) = true := by simp [Utf8.valid]; omega
    rw [hvv]
    simp only [if_true, Int.toNat_natCast]
    by_cases h1 : n < 128
    · rw [if_pos h1, Lib.encodeRuneZ_one (by omega) (by omega)]
      rfl
    · rw [if_neg h1]
      by_cases h2 : n < 2048
      · rw [if_pos h2, Lib.encodeRuneZ_two (by omega) (by omega)]
        simp only [List.map_cons, List.map_nil, ofInt_toUInt8 (show (192 : Int) + (n : Int) / 64 = ((192 + n / 64 : Nat) : Int) from by omega), ofInt_toUInt8 (show (128 : Int) + (n : Int) % 64 = ((128 + n % 64 : Nat) : Int) from by omega)]
        rfl
      · rw [if_neg h2, if_pos (by omega), Lib.encodeRuneZ_three (by omega)]
        simp only [List.map_cons, List.map_nil, ofInt_toUInt8 (show (224 : Int) + (n : Int) / 4096 = ((224 + n / 4096 : Nat) : Int) from by omega), ofInt_toUInt8 (show (128 : Int) + (n : Int) / 64 % 64 = ((128 + n / 64 % 64 : Nat) : Int) from by omega), ofInt_toUInt8 (show (128 : Int) + (n : Int) % 64 = ((128 + n % 64 : Nat) : Int) from by omega)]
        rfl
def EscR (r : Option (List UInt8 × Nat)) (e : Ending) : Prop := match r with
  | none => e = .returned (.tuple #[.string ⟨#[]⟩, .int .i64 0])
  | some (t, n) => e = .returned (.tuple #[.string (str t), .int .i64 (n : Int)])
theorem cut_str (l : List UInt8) (a b : Nat) : (str l).extract a b = str ((l.drop a).take (b - a)) := by
  apply ByteArray.ext
  apply Array.toList_inj.1
  rw [str_data]
  simp [str]

set_option maxHeartbeats 2000000 in
set_option maxRecDepth 100000 in
theorem escW (w : World) (l : List UInt8) (hl : l.length ≤ 2000) :
    Calls Tryd.prog 23 #[.string (str l)] w fun e w' => EscR (esc l) e ∧ Below w.heap.size w w' := by
  cases l with
  | nil =>
    have : str [] = ⟨#[]⟩ := rfl
    rw [this]
    go_enter Tryd.func23, Tryd.ntmps23
    go_wp2
    go_ret2
    exact ⟨rfl, Below.refl _ _⟩
  | cons c r =>
    have hlen : (str (c :: r)).size = r.length + 1 := str_size _
    simp only [List.length_cons] at hl
    have hix := fun W => index_s W (str (c :: r)) 0 0 rfl (by omega)
    have hb0 : bA (str (c :: r)).data.toList 0 = c.toNat := rfl
    rw [hb0] at hix
    have hne : (str (c :: r)).toList = c :: r := str_toList _
    have hem : (str (c :: r)).toList.isEmpty = false := by rw [hne]; rfl
    have hcut := cut_str (c :: r)
    have he : esc (c :: r) = if c.toNat = 34 ∨ c.toNat = 92 then some ([c], 1)
      else if c.toNat = 120 then (if 2 ≤ r.length then (num 0 (r.take 2)).map fun n => ([UInt8.ofNat n], 3) else none)
      else if c.toNat = 117 then (if 4 ≤ r.length then (num 0 (r.take 4)).map fun n : Nat => (Lib.encodeRune (n : Int), 5) else none)
      else none := rfl
    have hc1 : (str (c :: r)).extract 0 1 = str [c] := hcut 0 1
    have hc2 : (str (c :: r)).extract 1 3 = str (r.take 2) := hcut 1 3
    have hc4 : (str (c :: r)).extract 1 5 = str (r.take 4) := hcut 1 5
    have hnum2 := numW w (r.take 2) (by rw [List.length_take]; omega)
    have hnum4 := numW w (r.take 4) (by rw [List.length_take]; omega)
    rw [← hc2] at hnum2
    rw [← hc4] at hnum4
    have HN2 := Lib.hid hnum2
    have HN4 := Lib.hid hnum4
    have HC1 := Lib.hid hc1
    obtain ⟨s, hs⟩ : ∃ s, s = str (c :: r) := ⟨_, rfl⟩
    rw [← hs] at hlen hix hem HN2 HN4 HC1 ⊢
    generalize esc (c :: r) = E at *
    obtain ⟨n0, hn0⟩ : ∃ n0, n0 = c.toNat := ⟨_, rfl⟩
    rw [← hn0] at hix he
    have h256 : n0 < 256 := by rw [hn0]; exact c.toNat_lt
    have hsz : (s.size : Int) = (r.length : Int) + 1 := by omega
    have hem2 : s.toList ≠ [] := fun h => by rw [h] at hem; cases hem
    clear hne hb0 hcut hc1 hc2 hc4 hs hn0 hnum2 hnum4 hlen
    by_cases hq : n0 = 34 ∨ n0 = 92
    · rw [if_pos hq] at he
      have HE := Lib.hid he
      have g1 : (1 : Int) ≤ (s.size : Int) := by omega
      clear he
      rcases hq with rfl | rfl
      all_goals
        go_enter Tryd.func23, Tryd.ntmps23
        go_wp2
        go_ret2
        rw [HE.out, HC1.out]
        exact ⟨rfl, Below.refl _ _⟩
    rw [if_neg hq] at he
    have q1 : ((n0 : Int) == 34) = false := by simp; omega
    have q2 : ((n0 : Int) == 92) = false := by simp; omega
    by_cases hx : n0 = 120
    · subst hx
      rw [if_pos rfl] at he
      clear q1 q2 hq
      by_cases h2 : 2 ≤ r.length
      · rw [if_pos h2] at he
        have g1 : ¬ (s.size : Int) ≤ 2 := by omega
        have g2 : (3 : Int) ≤ (s.size : Int) := by omega
        cases hnm : num 0 (r.take 2) with
        | none =>
          rw [hnm] at he HN2
          have HE := Lib.hid he
          clear he hnm
          go_enter Tryd.func23, Tryd.ntmps23
          go_wp2_with fail
          refine HN2.out.mono ?_
          rintro e w2 ⟨he, hb⟩
          obtain rfl : e = .returned (.tuple #[.int .u32 0, .bool false]) := he
          have HB := Lib.hid hb
          clear hb
          go_wp2
          go_ret2
          rw [HE.out]
          exact ⟨rfl, HB.out⟩
        | some n =>
          rw [hnm] at he HN2
          have hn := num_lt _ _ _ hnm
          have hn256 : n < 256 := by
            have : (r.take 2).length ≤ 2 := by rw [List.length_take]; omega
            have h16 : 16 ^ (r.take 2).length ≤ 16 ^ 2 := Nat.pow_le_pow_right (by decide) this
            omega
          have HE := Lib.hid he
          have hkc : ∀ W : World, (Go.convert 22 9 (.slice (some ⟨W.heap.size, 0, none⟩) 1 1)).run Tryd.prog (W.alloc (.cells #[.int .u8 (n : Int)] 5)) = .ok (.string (str [UInt8.ofNat n])) (W.alloc (.cells #[.int .u8 (n : Int)] 5)) := fun W => by
            have := conv_one W (UInt8.ofNat n)
            rwa [UInt8.toNat_ofNat', Nat.mod_eq_of_lt hn256] at this
          have HKC := Lib.hid hkc
          have n256 : (n : Int) < 256 := by omega
          clear he hnm hn hkc
          go_enter Tryd.func23, Tryd.ntmps23
          go_wp2_with fail
          refine HN2.out.mono ?_
          rintro e w2 ⟨he, hb⟩
          obtain rfl : e = .returned (.tuple #[.int .u32 (n : Int), .bool true]) := he
          have HB := Lib.hid hb
          have kc := HKC.out w2
          clear hb
          go_wp2
          go_ret2
          rw [HE.out]
          exact ⟨rfl, HB.out.alloc HB.out.size _⟩
      · rw [if_neg h2] at he
        have g1 : (s.size : Int) ≤ 2 := by omega
        have HE := Lib.hid he
        clear he
        go_enter Tryd.func23, Tryd.ntmps23
        go_wp2
        go_ret2
        rw [HE.out]
        exact ⟨rfl, Below.refl _ _⟩
    rw [if_neg hx] at he
    have q3 : ((n0 : Int) == 120) = false := by simp; omega
    by_cases hu : n0 = 117
    · subst hu
      rw [if_pos rfl] at he
      clear q1 q2 q3 hq hx
      by_cases h4 : 4 ≤ r.length
      · rw [if_pos h4] at he
        have g1 : ¬ (s.size : Int) ≤ 4 := by omega
        have g2 : (5 : Int) ≤ (s.size : Int) := by omega
        cases hnm : num 0 (r.take 4) with
        | none =>
          rw [hnm] at he HN4
          have HE := Lib.hid he
          clear he hnm
          go_enter Tryd.func23, Tryd.ntmps23
          go_wp2_with fail
          refine HN4.out.mono ?_
          rintro e w2 ⟨he, hb⟩
          obtain rfl : e = .returned (.tuple #[.int .u32 0, .bool false]) := he
          have HB := Lib.hid hb
          clear hb
          go_wp2
          go_ret2
          rw [HE.out]
          exact ⟨rfl, HB.out⟩
        | some n =>
          rw [hnm] at he HN4
          have hn := num_lt _ _ _ hnm
          have hn6 : n < 65536 := by
            have : (r.take 4).length ≤ 4 := by rw [List.length_take]; omega
            have h16 : 16 ^ (r.take 4).length ≤ 16 ^ 4 := Nat.pow_le_pow_right (by decide) this
            omega
          have HE := Lib.hid he
          have HN6 : Hid (n < 65536) := hn6
          have n6 : IntKind.i32.wrap (n : Int) = (n : Int) := IntWalk.i32_in _ (by omega)
          clear he hnm hn hn6
          go_enter Tryd.func23, Tryd.ntmps23
          go_wp2_with fail
          refine HN4.out.mono ?_
          rintro e w2 ⟨he, hb⟩
          obtain rfl : e = .returned (.tuple #[.int .u32 (n : Int), .bool true]) := he
          have HB := Lib.hid hb
          clear hb
          go_wp2
          go_ret2
          rw [HE.out, encode_str n HN6.out]
          exact ⟨rfl, HB.out⟩
      · rw [if_neg h4] at he
        have g1 : (s.size : Int) ≤ 4 := by omega
        have HE := Lib.hid he
        clear he
        go_enter Tryd.func23, Tryd.ntmps23
        go_wp2
        go_ret2
        rw [HE.out]
        exact ⟨rfl, Below.refl _ _⟩
    rw [if_neg hu] at he
    have q4 : ((n0 : Int) == 117) = false := by simp; omega
    have HE := Lib.hid he
    clear he
    go_enter Tryd.func23, Tryd.ntmps23
    go_wp2
    go_ret2
    rw [HE.out]
    exact ⟨rfl, Below.refl _ _⟩
end Go.Proofs.YtgbdoccgdkifjaaDoor
