/- The walks of the reference: more, Width, Digit. -/
import Derived.Test.YtgbdoccgdkifjaaDoorQuPrint
namespace Go.Proofs.YtgbdoccgdkifjaaDoor
open Go.RowKit
set_option linter.unusedVariables false

theorem str_of (s : ByteArray) : str s.data.toList = s := by
  obtain ⟨⟨l⟩⟩ := s
  rfl
theorem index_s (W : World) (s : ByteArray) (pos : Nat) (z : Int) (hz : z = (pos : Int)) (h : pos < s.size) : (Instr.index 9 (.string s) (.int .i64 z)).run Tryd.prog W = .ok (.int .u8 ((bA s.data.toList pos : Nat) : Int)) W := by
  subst hz
  have := index_str W s.data.toList pos (by simpa using h)
  rwa [str_of] at this
set_option maxRecDepth 100000 in
theorem moreYes (w : World) (s : ByteArray) (i lo hi : Nat) (zi zl zh : Int) (h1 : zi = (i : Int)) (h2 : zl = (lo : Int)) (h3 : zh = (hi : Int)) (h : inR s.data.toList i lo hi) :
    Calls Tryd.prog 28 #[.string s, .int .i64 zi, .int .u8 zl, .int .u8 zh] w fun e w' => e = .returned (.bool true) ∧ w = w' := by
  obtain ⟨a, b, c⟩ := h
  have a1 : i < s.size := by simpa using a
  have hix := fun W => index_s W s i zi h1 a1
  generalize bA s.data.toList i = x at *
  have g1 : zi < (s.size : Int) := by omega
  have g2 : zl ≤ (x : Int) := by omega
  have g3 : (x : Int) ≤ zh := by omega
  clear h1 h2 h3 a
  go_enter Tryd.func28, Tryd.ntmps28
  go_wp2
  go_ret
  exact ⟨rfl, rfl⟩
set_option maxRecDepth 100000 in
theorem moreNo (w : World) (s : ByteArray) (i lo hi : Nat) (zi zl zh : Int) (h1 : zi = (i : Int)) (h2 : zl = (lo : Int)) (h3 : zh = (hi : Int)) (h : ¬ inR s.data.toList i lo hi) :
    Calls Tryd.prog 28 #[.string s, .int .i64 zi, .int .u8 zl, .int .u8 zh] w fun e w' => e = .returned (.bool false) ∧ w = w' := by
  by_cases a1 : i < s.size
  · have hix := fun W => index_s W s i zi h1 a1
    have hn : ¬ (lo ≤ bA s.data.toList i ∧ bA s.data.toList i ≤ hi) := fun ⟨q1, q2⟩ => h ⟨by simpa using a1, q1, q2⟩
    generalize bA s.data.toList i = x at *
    have g1 : zi < (s.size : Int) := by omega
    by_cases b1 : lo ≤ x
    · have g2 : zl ≤ (x : Int) := by omega
      have g3 : ¬ (x : Int) ≤ zh := by omega
      clear h1 h2 h3 h hn
      go_enter Tryd.func28, Tryd.ntmps28
      go_wp2
      go_ret
      exact ⟨rfl, rfl⟩
    · have g2 : ¬ zl ≤ (x : Int) := by omega
      clear h1 h2 h3 h hn
      go_enter Tryd.func28, Tryd.ntmps28
      go_wp2
      go_ret
      exact ⟨rfl, rfl⟩
  · have g1 : ¬ zi < (s.size : Int) := by omega
    clear h1 h2 h3 h
    go_enter Tryd.func28, Tryd.ntmps28
    go_wp2
    go_ret
    exact ⟨rfl, rfl⟩
theorem ret_i64 {a b : Int} (h : a = b) : Ending.returned (.int .i64 a) = .returned (.int .i64 b) := by rw [h]

set_option maxHeartbeats 2000000 in
set_option maxRecDepth 100000 in
theorem widW (w : World) (s : ByteArray) (hs : 0 < s.size) :
    Calls Tryd.prog 21 #[.string s] w fun e w' => e = .returned (.int .i64 ((wid s.data.toList : Nat) : Int)) ∧ w = w' := by
  have hix := fun W => index_s W s 0 0 rfl hs
  have hlt := bA_lt s.data.toList 0
  have hy := fun i lo hi zi zl zh h1 h2 h3 h => moreYes w s i lo hi zi zl zh h1 h2 h3 h
  have hn := fun i lo hi zi zl zh h1 h2 h3 h => moreNo w s i lo hi zi zl zh h1 h2 h3 h
  have hwd : wid s.data.toList = if bA s.data.toList 0 < 128 then 1
  else if 194 ≤ bA s.data.toList 0 ∧ bA s.data.toList 0 ≤ 223 then (if inR s.data.toList 1 128 191 then 2 else 0)
  else if 224 ≤ bA s.data.toList 0 ∧ bA s.data.toList 0 ≤ 239 then (if inR s.data.toList 1 (if bA s.data.toList 0 = 224 then 160 else 128) (if bA s.data.toList 0 = 237 then 159 else 191) ∧ inR s.data.toList 2 128 191 then 3 else 0)
  else if 240 ≤ bA s.data.toList 0 ∧ bA s.data.toList 0 ≤ 244 then (if inR s.data.toList 1 (if bA s.data.toList 0 = 240 then 144 else 128) (if bA s.data.toList 0 = 244 then 143 else 191) ∧ inR s.data.toList 2 128 191 ∧ inR s.data.toList 3 128 191 then 4 else 0)
  else 0 := rfl
  generalize wid s.data.toList = W0 at *
  generalize bA s.data.toList 0 = c at *
  have HY := Lib.hid hy
  have HN := Lib.hid hn
  by_cases h0 : c < 128
  · rw [if_pos h0] at hwd
    have HWD := Lib.hid hwd
    have g0 : (c : Int) < 128 := by omega
    clear hy hn hwd
    go_enter Tryd.func21, Tryd.ntmps21
    go_wp2
    go_ret
    exact ⟨ret_i64 (by rw [HWD.out]; rfl), rfl⟩
  have g0 : ¬ (c : Int) < 128 := by omega
  rw [if_neg h0] at hwd
  by_cases h1 : 194 ≤ c ∧ c ≤ 223
  · rw [if_pos h1] at hwd
    have g1 : (194 : Int) ≤ (c : Int) := by omega
    have g2 : (c : Int) ≤ 223 := by omega
    by_cases i1 : inR s.data.toList 1 128 191
    · rw [if_pos i1] at hwd
      have HWD := Lib.hid hwd
      have K1 := Lib.hid (HY.out 1 128 191 1 128 191 rfl rfl rfl i1)
      clear hy hn hwd i1
      go_enter Tryd.func21, Tryd.ntmps21
      go_wp2_with fail
      refine K1.out.mono ?_
      rintro e w' ⟨rfl, rfl⟩
      go_wp2
      go_ret
      exact ⟨ret_i64 (by rw [HWD.out]; rfl), rfl⟩
    · rw [if_neg i1] at hwd
      have HWD := Lib.hid hwd
      have K1 := Lib.hid (HN.out 1 128 191 1 128 191 rfl rfl rfl i1)
      clear hy hn hwd i1
      go_enter Tryd.func21, Tryd.ntmps21
      go_wp2_with fail
      refine K1.out.mono ?_
      rintro e w' ⟨rfl, rfl⟩
      go_wp2
      go_ret
      exact ⟨ret_i64 (by rw [HWD.out]; rfl), rfl⟩
  rw [if_neg h1] at hwd
  by_cases h2 : 224 ≤ c ∧ c ≤ 239
  · rw [if_pos h2] at hwd
    have f1 : ¬ (c : Int) ≤ 223 := by omega
    have f2 : (194 : Int) ≤ (c : Int) := by omega
    have g1 : (224 : Int) ≤ (c : Int) := by omega
    have g2 : (c : Int) ≤ 239 := by omega
    clear hy hn
    by_cases e1 : c = 224
    · as_aux_lemma =>
        subst e1
        rw [if_pos (rfl : (224 : Nat) = 224), if_neg (by decide : ¬ (224 : Nat) = 237)] at hwd
        by_cases i1 : inR s.data.toList 1 160 191
        · have K1 := Lib.hid (HY.out 1 160 191 1 160 191 rfl rfl rfl i1)
          by_cases i2 : inR s.data.toList 2 128 191
          · have K2 := Lib.hid (HY.out 2 128 191 2 128 191 rfl rfl rfl i2)
            rw [if_pos ⟨i1, i2⟩] at hwd
            have HWD := Lib.hid hwd
            clear hwd i1 i2
            go_enter Tryd.func21, Tryd.ntmps21
            go_wp2_with fail
            refine K1.out.mono ?_
            rintro e w' ⟨rfl, rfl⟩
            go_wp2_with fail
            refine K2.out.mono ?_
            rintro e w' ⟨rfl, rfl⟩
            go_wp2
            go_ret
            exact ⟨ret_i64 (by rw [HWD.out]; rfl), rfl⟩
          · have K2 := Lib.hid (HN.out 2 128 191 2 128 191 rfl rfl rfl i2)
            rw [if_neg (fun q => i2 q.2)] at hwd
            have HWD := Lib.hid hwd
            clear hwd i1 i2
            go_enter Tryd.func21, Tryd.ntmps21
            go_wp2_with fail
            refine K1.out.mono ?_
            rintro e w' ⟨rfl, rfl⟩
            go_wp2_with fail
            refine K2.out.mono ?_
            rintro e w' ⟨rfl, rfl⟩
            go_wp2
            go_ret
            exact ⟨ret_i64 (by rw [HWD.out]; rfl), rfl⟩
        · have K1 := Lib.hid (HN.out 1 160 191 1 160 191 rfl rfl rfl i1)
          rw [if_neg (fun q => i1 q.1)] at hwd
          have HWD := Lib.hid hwd
          clear hwd i1
          go_enter Tryd.func21, Tryd.ntmps21
          go_wp2_with fail
          refine K1.out.mono ?_
          rintro e w' ⟨rfl, rfl⟩
          go_wp2
          go_ret
          exact ⟨ret_i64 (by rw [HWD.out]; rfl), rfl⟩
    · by_cases e2 : c = 237
      · as_aux_lemma =>
          subst e2
          rw [if_neg (by decide : ¬ (237 : Nat) = 224), if_pos (rfl : (237 : Nat) = 237)] at hwd
          by_cases i1 : inR s.data.toList 1 128 159
          · have K1 := Lib.hid (HY.out 1 128 159 1 128 159 rfl rfl rfl i1)
            by_cases i2 : inR s.data.toList 2 128 191
            · have K2 := Lib.hid (HY.out 2 128 191 2 128 191 rfl rfl rfl i2)
              rw [if_pos ⟨i1, i2⟩] at hwd
              have HWD := Lib.hid hwd
              clear hwd i1 i2
              go_enter Tryd.func21, Tryd.ntmps21
              go_wp2_with fail
              refine K1.out.mono ?_
              rintro e w' ⟨rfl, rfl⟩
              go_wp2_with fail
              refine K2.out.mono ?_
              rintro e w' ⟨rfl, rfl⟩
              go_wp2
              go_ret
              exact ⟨ret_i64 (by rw [HWD.out]; rfl), rfl⟩
            · have K2 := Lib.hid (HN.out 2 128 191 2 128 191 rfl rfl rfl i2)
              rw [if_neg (fun q => i2 q.2)] at hwd
              have HWD := Lib.hid hwd
              clear hwd i1 i2
              go_enter Tryd.func21, Tryd.ntmps21
              go_wp2_with fail
              refine K1.out.mono ?_
              rintro e w' ⟨rfl, rfl⟩
              go_wp2_with fail
              refine K2.out.mono ?_
              rintro e w' ⟨rfl, rfl⟩
              go_wp2
              go_ret
              exact ⟨ret_i64 (by rw [HWD.out]; rfl), rfl⟩
          · have K1 := Lib.hid (HN.out 1 128 159 1 128 159 rfl rfl rfl i1)
            rw [if_neg (fun q => i1 q.1)] at hwd
            have HWD := Lib.hid hwd
            clear hwd i1
            go_enter Tryd.func21, Tryd.ntmps21
            go_wp2_with fail
            refine K1.out.mono ?_
            rintro e w' ⟨rfl, rfl⟩
            go_wp2
            go_ret
            exact ⟨ret_i64 (by rw [HWD.out]; rfl), rfl⟩
      · as_aux_lemma =>
          rw [if_neg e1, if_neg e2] at hwd
          have d1 : ((c : Int) == 224) = false := by simp; omega
          have d2 : ((c : Int) == 237) = false := by simp; omega
          by_cases i1 : inR s.data.toList 1 128 191
          · have K1 := Lib.hid (HY.out 1 128 191 1 128 191 rfl rfl rfl i1)
            by_cases i2 : inR s.data.toList 2 128 191
            · have K2 := Lib.hid (HY.out 2 128 191 2 128 191 rfl rfl rfl i2)
              rw [if_pos ⟨i1, i2⟩] at hwd
              have HWD := Lib.hid hwd
              clear hwd i1 i2
              go_enter Tryd.func21, Tryd.ntmps21
              go_wp2_with fail
              refine K1.out.mono ?_
              rintro e w' ⟨rfl, rfl⟩
              go_wp2_with fail
              refine K2.out.mono ?_
              rintro e w' ⟨rfl, rfl⟩
              go_wp2
              go_ret
              exact ⟨ret_i64 (by rw [HWD.out]; rfl), rfl⟩
            · have K2 := Lib.hid (HN.out 2 128 191 2 128 191 rfl rfl rfl i2)
              rw [if_neg (fun q => i2 q.2)] at hwd
              have HWD := Lib.hid hwd
              clear hwd i1 i2
              go_enter Tryd.func21, Tryd.ntmps21
              go_wp2_with fail
              refine K1.out.mono ?_
              rintro e w' ⟨rfl, rfl⟩
              go_wp2_with fail
              refine K2.out.mono ?_
              rintro e w' ⟨rfl, rfl⟩
              go_wp2
              go_ret
              exact ⟨ret_i64 (by rw [HWD.out]; rfl), rfl⟩
          · have K1 := Lib.hid (HN.out 1 128 191 1 128 191 rfl rfl rfl i1)
            rw [if_neg (fun q => i1 q.1)] at hwd
            have HWD := Lib.hid hwd
            clear hwd i1
            go_enter Tryd.func21, Tryd.ntmps21
            go_wp2_with fail
            refine K1.out.mono ?_
            rintro e w' ⟨rfl, rfl⟩
            go_wp2
            go_ret
            exact ⟨ret_i64 (by rw [HWD.out]; rfl), rfl⟩
  rw [if_neg h2] at hwd
  by_cases h3 : 240 ≤ c ∧ c ≤ 244
  · rw [if_pos h3] at hwd
    have f1 : ¬ (c : Int) ≤ 223 := by omega
    have f2 : (194 : Int) ≤ (c : Int) := by omega
    have f3 : ¬ (c : Int) ≤ 239 := by omega
    have f4 : (224 : Int) ≤ (c : Int) := by omega
    have g1 : (240 : Int) ≤ (c : Int) := by omega
    have g2 : (c : Int) ≤ 244 := by omega
    clear hy hn
    by_cases e1 : c = 240
    · as_aux_lemma =>
        subst e1
        rw [if_pos (rfl : (240 : Nat) = 240), if_neg (by decide : ¬ (240 : Nat) = 244)] at hwd
        by_cases i1 : inR s.data.toList 1 144 191
        · have K1 := Lib.hid (HY.out 1 144 191 1 144 191 rfl rfl rfl i1)
          by_cases i2 : inR s.data.toList 2 128 191
          · have K2 := Lib.hid (HY.out 2 128 191 2 128 191 rfl rfl rfl i2)
            by_cases i3 : inR s.data.toList 3 128 191
            · have K3 := Lib.hid (HY.out 3 128 191 3 128 191 rfl rfl rfl i3)
              rw [if_pos ⟨i1, i2, i3⟩] at hwd
              have HWD := Lib.hid hwd
              clear hwd i1 i2 i3
              go_enter Tryd.func21, Tryd.ntmps21
              go_wp2_with fail
              refine K1.out.mono ?_
              rintro e w' ⟨rfl, rfl⟩
              go_wp2_with fail
              refine K2.out.mono ?_
              rintro e w' ⟨rfl, rfl⟩
              go_wp2_with fail
              refine K3.out.mono ?_
              rintro e w' ⟨rfl, rfl⟩
              go_wp2
              go_ret
              exact ⟨ret_i64 (by rw [HWD.out]; rfl), rfl⟩
            · have K3 := Lib.hid (HN.out 3 128 191 3 128 191 rfl rfl rfl i3)
              rw [if_neg (fun q => i3 q.2.2)] at hwd
              have HWD := Lib.hid hwd
              clear hwd i1 i2 i3
              go_enter Tryd.func21, Tryd.ntmps21
              go_wp2_with fail
              refine K1.out.mono ?_
              rintro e w' ⟨rfl, rfl⟩
              go_wp2_with fail
              refine K2.out.mono ?_
              rintro e w' ⟨rfl, rfl⟩
              go_wp2_with fail
              refine K3.out.mono ?_
              rintro e w' ⟨rfl, rfl⟩
              go_wp2
              go_ret
              exact ⟨ret_i64 (by rw [HWD.out]; rfl), rfl⟩
          · have K2 := Lib.hid (HN.out 2 128 191 2 128 191 rfl rfl rfl i2)
            rw [if_neg (fun q => i2 q.2.1)] at hwd
            have HWD := Lib.hid hwd
            clear hwd i1 i2
            go_enter Tryd.func21, Tryd.ntmps21
            go_wp2_with fail
            refine K1.out.mono ?_
            rintro e w' ⟨rfl, rfl⟩
            go_wp2_with fail
            refine K2.out.mono ?_
            rintro e w' ⟨rfl, rfl⟩
            go_wp2
            go_ret
            exact ⟨ret_i64 (by rw [HWD.out]; rfl), rfl⟩
        · have K1 := Lib.hid (HN.out 1 144 191 1 144 191 rfl rfl rfl i1)
          rw [if_neg (fun q => i1 q.1)] at hwd
          have HWD := Lib.hid hwd
          clear hwd i1
          go_enter Tryd.func21, Tryd.ntmps21
          go_wp2_with fail
          refine K1.out.mono ?_
          rintro e w' ⟨rfl, rfl⟩
          go_wp2
          go_ret
          exact ⟨ret_i64 (by rw [HWD.out]; rfl), rfl⟩
    · by_cases e2 : c = 244
      · as_aux_lemma =>
          subst e2
          rw [if_neg (by decide : ¬ (244 : Nat) = 240), if_pos (rfl : (244 : Nat) = 244)] at hwd
          by_cases i1 : inR s.data.toList 1 128 143
          · have K1 := Lib.hid (HY.out 1 128 143 1 128 143 rfl rfl rfl i1)
            by_cases i2 : inR s.data.toList 2 128 191
            · have K2 := Lib.hid (HY.out 2 128 191 2 128 191 rfl rfl rfl i2)
              by_cases i3 : inR s.data.toList 3 128 191
              · have K3 := Lib.hid (HY.out 3 128 191 3 128 191 rfl rfl rfl i3)
                rw [if_pos ⟨i1, i2, i3⟩] at hwd
                have HWD := Lib.hid hwd
                clear hwd i1 i2 i3
                go_enter Tryd.func21, Tryd.ntmps21
                go_wp2_with fail
                refine K1.out.mono ?_
                rintro e w' ⟨rfl, rfl⟩
                go_wp2_with fail
                refine K2.out.mono ?_
                rintro e w' ⟨rfl, rfl⟩
                go_wp2_with fail
                refine K3.out.mono ?_
                rintro e w' ⟨rfl, rfl⟩
                go_wp2
                go_ret
                exact ⟨ret_i64 (by rw [HWD.out]; rfl), rfl⟩
              · have K3 := Lib.hid (HN.out 3 128 191 3 128 191 rfl rfl rfl i3)
                rw [if_neg (fun q => i3 q.2.2)] at hwd
                have HWD := Lib.hid hwd
                clear hwd i1 i2 i3
                go_enter Tryd.func21, Tryd.ntmps21
                go_wp2_with fail
                refine K1.out.mono ?_
                rintro e w' ⟨rfl, rfl⟩
                go_wp2_with fail
                refine K2.out.mono ?_
                rintro e w' ⟨rfl, rfl⟩
                go_wp2_with fail
                refine K3.out.mono ?_
                rintro e w' ⟨rfl, rfl⟩
                go_wp2
                go_ret
                exact ⟨ret_i64 (by rw [HWD.out]; rfl), rfl⟩
            · have K2 := Lib.hid (HN.out 2 128 191 2 128 191 rfl rfl rfl i2)
              rw [if_neg (fun q => i2 q.2.1)] at hwd
              have HWD := Lib.hid hwd
              clear hwd i1 i2
              go_enter Tryd.func21, Tryd.ntmps21
              go_wp2_with fail
              refine K1.out.mono ?_
              rintro e w' ⟨rfl, rfl⟩
              go_wp2_with fail
              refine K2.out.mono ?_
              rintro e w' ⟨rfl, rfl⟩
              go_wp2
              go_ret
              exact ⟨ret_i64 (by rw [HWD.out]; rfl), rfl⟩
          · have K1 := Lib.hid (HN.out 1 128 143 1 128 143 rfl rfl rfl i1)
            rw [if_neg (fun q => i1 q.1)] at hwd
            have HWD := Lib.hid hwd
            clear hwd i1
            go_enter Tryd.func21, Tryd.ntmps21
            go_wp2_with fail
            refine K1.out.mono ?_
            rintro e w' ⟨rfl, rfl⟩
            go_wp2
            go_ret
            exact ⟨ret_i64 (by rw [HWD.out]; rfl), rfl⟩
      · as_aux_lemma =>
          rw [if_neg e1, if_neg e2] at hwd
          have d1 : ((c : Int) == 240) = false := by simp; omega
          have d2 : ((c : Int) == 244) = false := by simp; omega
          by_cases i1 : inR s.data.toList 1 128 191
          · have K1 := Lib.hid (HY.out 1 128 191 1 128 191 rfl rfl rfl i1)
            by_cases i2 : inR s.data.toList 2 128 191
            · have K2 := Lib.hid (HY.out 2 128 191 2 128 191 rfl rfl rfl i2)
              by_cases i3 : inR s.data.toList 3 128 191
              · have K3 := Lib.hid (HY.out 3 128 191 3 128 191 rfl rfl rfl i3)
                rw [if_pos ⟨i1, i2, i3⟩] at hwd
                have HWD := Lib.hid hwd
                clear hwd i1 i2 i3
                go_enter Tryd.func21, Tryd.ntmps21
                go_wp2_with fail
                refine K1.out.mono ?_
                rintro e w' ⟨rfl, rfl⟩
                go_wp2_with fail
                refine K2.out.mono ?_
                rintro e w' ⟨rfl, rfl⟩
                go_wp2_with fail
                refine K3.out.mono ?_
                rintro e w' ⟨rfl, rfl⟩
                go_wp2
                go_ret
                exact ⟨ret_i64 (by rw [HWD.out]; rfl), rfl⟩
              · have K3 := Lib.hid (HN.out 3 128 191 3 128 191 rfl rfl rfl i3)
                rw [if_neg (fun q => i3 q.2.2)] at hwd
                have HWD := Lib.hid hwd
                clear hwd i1 i2 i3
                go_enter Tryd.func21, Tryd.ntmps21
                go_wp2_with fail
                refine K1.out.mono ?_
                rintro e w' ⟨rfl, rfl⟩
                go_wp2_with fail
                refine K2.out.mono ?_
                rintro e w' ⟨rfl, rfl⟩
                go_wp2_with fail
                refine K3.out.mono ?_
                rintro e w' ⟨rfl, rfl⟩
                go_wp2
                go_ret
                exact ⟨ret_i64 (by rw [HWD.out]; rfl), rfl⟩
            · have K2 := Lib.hid (HN.out 2 128 191 2 128 191 rfl rfl rfl i2)
              rw [if_neg (fun q => i2 q.2.1)] at hwd
              have HWD := Lib.hid hwd
              clear hwd i1 i2
              go_enter Tryd.func21, Tryd.ntmps21
              go_wp2_with fail
              refine K1.out.mono ?_
              rintro e w' ⟨rfl, rfl⟩
              go_wp2_with fail
              refine K2.out.mono ?_
              rintro e w' ⟨rfl, rfl⟩
              go_wp2
              go_ret
              exact ⟨ret_i64 (by rw [HWD.out]; rfl), rfl⟩
          · have K1 := Lib.hid (HN.out 1 128 191 1 128 191 rfl rfl rfl i1)
            rw [if_neg (fun q => i1 q.1)] at hwd
            have HWD := Lib.hid hwd
            clear hwd i1
            go_enter Tryd.func21, Tryd.ntmps21
            go_wp2_with fail
            refine K1.out.mono ?_
            rintro e w' ⟨rfl, rfl⟩
            go_wp2
            go_ret
            exact ⟨ret_i64 (by rw [HWD.out]; rfl), rfl⟩
  rw [if_neg h3] at hwd
  clear hy hn
  have HWD := Lib.hid hwd
  clear hwd
  by_cases k1 : c < 194
  · have q1 : ¬ (194 : Int) ≤ (c : Int) := by omega
    have q2 : ¬ (224 : Int) ≤ (c : Int) := by omega
    have q3 : ¬ (240 : Int) ≤ (c : Int) := by omega
    go_enter Tryd.func21, Tryd.ntmps21
    go_wp2
    go_ret
    exact ⟨ret_i64 (by rw [HWD.out]; rfl), rfl⟩
  · have q1 : (194 : Int) ≤ (c : Int) := by omega
    have q2 : (224 : Int) ≤ (c : Int) := by omega
    have q3 : (240 : Int) ≤ (c : Int) := by omega
    have q4 : ¬ (c : Int) ≤ 223 := by omega
    have q5 : ¬ (c : Int) ≤ 239 := by omega
    have q6 : ¬ (c : Int) ≤ 244 := by omega
    go_enter Tryd.func21, Tryd.ntmps21
    go_wp2
    go_ret
    exact ⟨ret_i64 (by rw [HWD.out]; rfl), rfl⟩
end Go.Proofs.YtgbdoccgdkifjaaDoor
