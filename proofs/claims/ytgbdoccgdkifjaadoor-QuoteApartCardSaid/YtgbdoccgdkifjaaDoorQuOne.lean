/- The walks of the reference's Digit, One. -/
import Derived.Test.YtgbdoccgdkifjaaDoorQuRef
import Derived.Deep.DeepCutAuto
import Derived.Deep.RegionWith
import Derived.IntWalk
namespace Go.Proofs.YtgbdoccgdkifjaaDoor
open Go.RowKit
set_option linter.unusedVariables false

theorem index_dig64 (W : World) (d : Nat) (hd : d < 16) : (Instr.index 9 (.string ⟨#[48, 49, 50, 51, 52, 53, 54, 55, 56, 57, 97, 98, 99, 100, 101, 102]⟩) (.int .i64 (d : Int))).run Tryd.prog W = .ok (.int .u8 ((dig d).toNat : Int)) W := by
  match d, hd with
  | 0, _ | 1, _ | 2, _ | 3, _ | 4, _ | 5, _ | 6, _ | 7, _ | 8, _ | 9, _ | 10, _ | 11, _ | 12, _ | 13, _ | 14, _ | 15, _ => rfl
  | k + 16, h => exact absurd h (by omega)
theorem conv_one (W : World) (x : UInt8) : (Go.convert 22 9 (.slice (some ⟨W.heap.size, 0, none⟩) 1 1)).run Tryd.prog (W.alloc (.cells #[.int .u8 (x.toNat : Int)] 5)) = .ok (.string (str [x])) (W.alloc (.cells #[.int .u8 (x.toNat : Int)] 5)) :=
  conv_of (IsB.lit W [x] 5 (0, 0) (by show 1 ≤ maxLen; unfold maxLen; decide))
set_option maxRecDepth 100000 in
theorem digitZ (w : World) (z : Int) (h0 : 0 ≤ z) (h1 : z < 16) : Calls Tryd.prog 31 #[.int .i64 z] w fun e w' => e = .returned (.string (str [dig z.toNat])) ∧ Below w.heap.size w w' := by
  obtain ⟨d, rfl⟩ : ∃ d : Nat, z = (d : Int) := ⟨z.toNat, by omega⟩
  have hix := fun W => index_dig64 W d (by omega)
  rw [Int.toNat_natCast]
  have kc := conv_one w (dig d)
  generalize dig d = x at *
  go_enter Tryd.func31, Tryd.ntmps31
  go_wp2
  go_ret
  exact ⟨rfl, (Below.refl _ w).alloc (Nat.le_refl _) _⟩
theorem cat2 (a b : List UInt8) : str a ++ str b = str (a ++ b) := by
  apply ByteArray.ext
  simp [str]

set_option maxHeartbeats 2000000 in
set_option maxRecDepth 100000 in
theorem oneW (w : World) (s : ByteArray) (hs : 0 < s.size) (hs2 : s.size ≤ 1000000) :
    Calls Tryd.prog 24 #[.string s] w fun e w' => e = .returned (.tuple #[.string (str (one s.data.toList).1), .int .i64 ((stp s.data.toList : Nat) : Int)]) ∧ Below w.heap.size w w' := by
  have hix := fun W => index_s W s 0 0 rfl hs
  have hlt := bA_lt s.data.toList 0
  have HW := Lib.hid (widW w s hs)
  have hl : s.data.toList.length = s.size := by simp
  have hst : stp s.data.toList = if wid s.data.toList = 0 then 1 else wid s.data.toList := rfl
  by_cases h0 : wid s.data.toList = 0
  · have ho : (one s.data.toList).1 = [92, 120] ++ [dig (bA s.data.toList 0 / 16)] ++ [dig (bA s.data.toList 0 % 16)] := by unfold one; rw [if_pos h0]; rfl
    rw [if_pos h0] at hst
    rw [h0] at HW
    have HO := Lib.hid ho
    have HS := Lib.hid hst
    generalize bA s.data.toList 0 = c at *
    clear ho hst h0 hl
    go_enter Tryd.func24, Tryd.ntmps24
    go_wp2_with fail
    refine HW.out.mono ?_
    rintro e w' ⟨rfl, rfl⟩
    go_wp2_with fail
    refine (digitZ _ _ (by omega) (by omega)).mono ?_
    rintro e w2 ⟨rfl, hb2⟩
    have e1 : ((c : Int) / 16).toNat = c / 16 := by omega
    rw [e1]
    have B2 := Lib.hid hb2
    clear hb2 e1
    go_wp2_with fail
    refine (digitZ _ _ (by omega) (by omega)).mono ?_
    rintro e w3 ⟨rfl, hb3⟩
    have e1 : ((c : Int) % 16).toNat = c % 16 := by omega
    rw [e1]
    have B3 : Hid (Below w.heap.size w w3) := B2.out.trans (hb3.mono B2.out.size)
    clear hb3 e1
    go_wp2
    go_ret2
    rw [HO.out, HS.out, ← cat2, ← cat2]
    exact ⟨rfl, B3.out⟩
  rw [if_neg h0] at hst
  have hfl := wid_le s.data.toList (by omega)
  have hone : one s.data.toList = if wid s.data.toList = 0 then ([92, 120, dig (bA s.data.toList 0 / 16), dig (bA s.data.toList 0 % 16)], 1)
    else if wid s.data.toList = 1 ∧ (bA s.data.toList 0 = 34 ∨ bA s.data.toList 0 = 92) then (92 :: s.data.toList.take 1, 1)
    else if wid s.data.toList = 1 ∧ (bA s.data.toList 0 < 32 ∨ bA s.data.toList 0 = 127) then ([92, 117, 48, 48, dig (bA s.data.toList 0 / 16), dig (bA s.data.toList 0 % 16)], 1)
    else if wid s.data.toList = 2 ∧ bA s.data.toList 0 = 194 ∧ bA s.data.toList 1 < 160 then ([92, 117, 48, 48, dig (bA s.data.toList 1 / 16), dig (bA s.data.toList 1 % 16)], 2)
    else (s.data.toList.take (wid s.data.toList), wid s.data.toList) := rfl
  rw [if_neg h0] at hone
  have hcut : ∀ k, s.extract 0 k = str (s.data.toList.take k) := fun k => by
    apply ByteArray.ext
    apply Array.toList_inj.1
    rw [str_data]
    simp
  have hw4 : wid s.data.toList = 1 ∨ wid s.data.toList = 2 ∨ wid s.data.toList = 3 ∨ wid s.data.toList = 4 := by
    rcases first s.data.toList with ⟨e⟩ | ⟨e⟩ | ⟨_, e⟩ | ⟨_, e⟩ | ⟨_, e⟩ <;> omega
  have HCUT := Lib.hid hcut
  obtain ⟨S1, HS1⟩ : ∃ S1, S1 = s.data.toList := ⟨_, rfl⟩
  have hcat : ∀ k, ¬ 9223372036854775807 < 1 + (s.extract 0 k).size := fun k => by rw [hcut, str_size, List.length_take]; omega
  have hc1 := hcat 1
  clear hcat hcut
  rcases hw4 with h1 | h1 | h1 | h1
  · rw [h1] at HW hone hst
    have n2 : ¬ ((1 : Nat) = 2 ∧ bA s.data.toList 0 = 194 ∧ bA s.data.toList 1 < 160) := fun h => absurd h.1 (by decide)
    rw [if_neg n2] at hone
    by_cases hq : bA s.data.toList 0 = 34 ∨ bA s.data.toList 0 = 92
    · rw [if_pos ⟨rfl, hq⟩] at hone
      have HO := Lib.hid hone
      have HS := Lib.hid hst
      generalize bA s.data.toList 0 = c at *
      have n1 : (1 : Int) ≤ (s.size : Int) := by omega
      clear hone hst h0 h1 n2 hl hfl HS1
      rcases hq with rfl | rfl
      all_goals
        go_enter Tryd.func24, Tryd.ntmps24
        go_wp2_with fail
        refine HW.out.mono ?_
        rintro e w' ⟨rfl, rfl⟩
        go_wp2
        go_ret2
        rw [HO.out, HS.out]
        refine ⟨?_, Below.refl _ _⟩
        rw [HCUT.out]
        congr 1
    · rw [if_neg (fun h => hq h.2)] at hone
      have q1 : ((bA s.data.toList 0 : Nat) : Int) ≠ 34 := by omega
      by_cases hk : bA s.data.toList 0 < 32 ∨ bA s.data.toList 0 = 127
      · rw [if_pos ⟨rfl, hk⟩] at hone
        have HO := Lib.hid hone
        have HS := Lib.hid hst
        generalize bA s.data.toList 0 = c at *
        have d1 : ((c : Int) == 34) = false := by simp; omega
        have d2 : ((c : Int) == 92) = false := by simp; omega
        clear hone hst h0 h1 n2 hl hfl HS1 q1 hq
        by_cases h32 : c < 32
        · as_aux_lemma =>
            have d3 : (c : Int) < 32 := by omega
            go_enter Tryd.func24, Tryd.ntmps24
            go_wp2_with fail
            refine HW.out.mono ?_
            rintro e w' ⟨rfl, rfl⟩
            go_wp2_with fail
            refine (digitZ _ _ (by omega) (by omega)).mono ?_
            rintro e w2 ⟨rfl, hb2⟩
            have e1 : ((c : Int) / 16).toNat = c / 16 := by omega
            rw [e1]
            have B2 := Lib.hid hb2
            clear hb2 e1
            go_wp2_with fail
            refine (digitZ _ _ (by omega) (by omega)).mono ?_
            rintro e w3 ⟨rfl, hb3⟩
            have e1 : ((c : Int) % 16).toNat = c % 16 := by omega
            rw [e1]
            have B3 : Hid (Below w.heap.size w w3) := B2.out.trans (hb3.mono B2.out.size)
            clear hb3 e1
            go_wp2
            go_ret2
            rw [HO.out, HS.out]
            exact ⟨rfl, B3.out⟩
        · obtain rfl : c = 127 := by omega
          as_aux_lemma =>
            go_enter Tryd.func24, Tryd.ntmps24
            go_wp2_with fail
            refine HW.out.mono ?_
            rintro e w' ⟨rfl, rfl⟩
            go_wp2_with fail
            refine (digitZ _ _ (by omega) (by omega)).mono ?_
            rintro e w2 ⟨rfl, hb2⟩
            have B2 := Lib.hid hb2
            clear hb2
            go_wp2_with fail
            refine (digitZ _ _ (by omega) (by omega)).mono ?_
            rintro e w3 ⟨rfl, hb3⟩
            have B3 : Hid (Below w.heap.size w w3) := B2.out.trans (hb3.mono B2.out.size)
            clear hb3
            go_wp2
            go_ret2
            rw [HO.out, HS.out]
            exact ⟨rfl, B3.out⟩
      · rw [if_neg (fun h => hk h.2)] at hone
        have HO := Lib.hid hone
        have HS := Lib.hid hst
        generalize bA s.data.toList 0 = c at *
        have d1 : ((c : Int) == 34) = false := by simp; omega
        have d2 : ((c : Int) == 92) = false := by simp; omega
        have d3 : ¬ (c : Int) < 32 := by omega
        have d4 : ((c : Int) == 127) = false := by simp; omega
        have n1 : (1 : Int) ≤ (s.size : Int) := by omega
        clear hone hst h0 h1 n2 hl hfl HS1 q1 hq hk
        as_aux_lemma =>
          go_enter Tryd.func24, Tryd.ntmps24
          go_wp2_with fail
          refine HW.out.mono ?_
          rintro e w' ⟨rfl, rfl⟩
          go_wp2
          go_ret2
          rw [HO.out, HS.out]
          refine ⟨?_, Below.refl _ _⟩
          rw [HCUT.out]
          rfl
  · rw [h1] at HW hone hst
    rw [if_neg (fun h => absurd h.1 (by decide)), if_neg (fun h => absurd h.1 (by decide))] at hone
    have hl2 : 1 < s.size := by omega
    have hix1 := fun W => index_s W s 1 1 rfl hl2
    have hx := bA_lt s.data.toList 1
    have n1 : (2 : Int) ≤ (s.size : Int) := by omega
    have g1 : (1 : Int) < (s.size : Int) := by omega
    by_cases hc : bA s.data.toList 0 = 194 ∧ bA s.data.toList 1 < 160
    · rw [if_pos ⟨rfl, hc⟩] at hone
      have HO := Lib.hid hone
      have HS := Lib.hid hst
      generalize bA s.data.toList 0 = c at *
      generalize bA s.data.toList 1 = x at *
      obtain ⟨rfl, hx2⟩ := hc
      have g2 : (x : Int) < 160 := by omega
      clear hone hst h0 h1 hl hfl HS1 hc1
      as_aux_lemma =>
        go_enter Tryd.func24, Tryd.ntmps24
        go_wp2_with fail
        refine HW.out.mono ?_
        rintro e w' ⟨rfl, rfl⟩
        go_upto_region 10 with fail
        have hB := (Below.refl w.heap.size w).drew
        have w1 : IntKind.i64.wrap (x : Int) = (x : Int) := IntWalk.i64_in _ (by omega)
        have w2 : IntKind.i64.wrap ((x : Int).tdiv 16) = ((x / 16 : Nat) : Int) := by rw [Int.tdiv_eq_ediv_of_nonneg (by omega), IntWalk.i64_in _ (by omega)]; omega
        have w3 : IntKind.i64.wrap ((x : Int).tmod 16) = ((x % 16 : Nat) : Int) := by rw [Int.tmod_eq_emod_of_nonneg (by omega), IntWalk.i64_in _ (by omega)]; omega
        have w4 : IntKind.i64.wrap ((x : Int) / 16) = ((x / 16 : Nat) : Int) := by rw [IntWalk.i64_in _ (by omega)]; omega
        have w5 : IntKind.i64.wrap ((x : Int) % 16) = ((x % 16 : Nat) : Int) := by rw [IntWalk.i64_in _ (by omega)]; omega
        have w6 : IntKind.i64.wrap ((x / 16 : Nat) : Int) = ((x / 16 : Nat) : Int) := IntWalk.i64_in _ (by omega)
        have w7 : IntKind.i64.wrap ((x % 16 : Nat) : Int) = ((x % 16 : Nat) : Int) := IntWalk.i64_in _ (by omega)
        have w8 : (x : Int).tmod 16 = ((x % 16 : Nat) : Int) := by rw [Int.tmod_eq_emod_of_nonneg (by omega)]; omega
        have DG : ∀ W (d : Nat), d < 16 → Calls Tryd.prog 31 #[.int .i64 (d : Int)] W fun e w' => e = .returned (.string (str [dig d])) ∧ Below W.heap.size W w' := fun W d hd => by
          have := digitZ W (d : Int) (by omega) (by omega)
          rwa [Int.toNat_natCast] at this
        have x1 : x / 16 < 16 := by omega
        have x2 : x % 16 < 16 := by omega
        generalize x / 16 = d1 at *
        generalize x % 16 = d2 at *
        go_region_with (go_at_call 31; ((with_reducible refine (DG _ _ ?_).mono ?_)); omega; rintro e w' ⟨rfl, hb⟩; have hB := hB.trans (hb.mono hB.size))
        all_goals (go_wp2; go_ret2; rw [HO.out, HS.out]; exact ⟨rfl, hB⟩)
    · rw [if_neg (fun h => hc h.2)] at hone
      have HO := Lib.hid hone
      have HS := Lib.hid hst
      generalize bA s.data.toList 0 = c at *
      generalize bA s.data.toList 1 = x at *
      clear hone hst h0 h1 hl hfl HS1 hc1
      by_cases h194 : c = 194
      · subst h194
        have g2 : ¬ (x : Int) < 160 := by omega
        clear hc
        as_aux_lemma =>
          go_enter Tryd.func24, Tryd.ntmps24
          go_wp2_with fail
          refine HW.out.mono ?_
          rintro e w' ⟨rfl, rfl⟩
          go_wp2
          go_ret2
          rw [HO.out, HS.out]
          refine ⟨?_, Below.refl _ _⟩
          rw [HCUT.out]
          rfl
      · have g2 : ((c : Int) == 194) = false := by simp; omega
        clear hc
        as_aux_lemma =>
          go_enter Tryd.func24, Tryd.ntmps24
          go_wp2_with fail
          refine HW.out.mono ?_
          rintro e w' ⟨rfl, rfl⟩
          go_wp2
          go_ret2
          rw [HO.out, HS.out]
          refine ⟨?_, Below.refl _ _⟩
          rw [HCUT.out]
          rfl
  all_goals
    rw [h1] at HW hone hst
    rw [if_neg (fun h => absurd h.1 (by decide)), if_neg (fun h => absurd h.1 (by decide)), if_neg (fun h => absurd h.1 (by decide))] at hone
    have HO := Lib.hid hone
    have HS := Lib.hid hst
    generalize bA s.data.toList 0 = c at *
    have n1 : (wid s.data.toList : Int) ≤ (s.size : Int) := by omega
    rw [h1] at n1
    clear hone hst h0 h1 hl hfl HS1
    as_aux_lemma =>
      go_enter Tryd.func24, Tryd.ntmps24
      go_wp2_with fail
      refine HW.out.mono ?_
      rintro e w' ⟨rfl, rfl⟩
      go_wp2
      go_ret2
      rw [HO.out, HS.out]
      refine ⟨?_, Below.refl _ _⟩
      rw [HCUT.out]
      rfl
end Go.Proofs.YtgbdoccgdkifjaaDoor
