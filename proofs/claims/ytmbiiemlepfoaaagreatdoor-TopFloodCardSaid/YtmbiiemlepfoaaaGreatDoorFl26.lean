/- The walk of script.form: a kind's word and its letters. -/
import Derived.Test.YtmbiiemlepfoaaaGreatDoorFl24

namespace Go.Proofs.YtmbiiemlepfoaaaGreatDoor
open Go.RowKit
set_option linter.unusedVariables false
def wordsM : List (List UInt8 × List UInt8) := [([102, 101, 101, 100], [107]), ([110, 101, 119], []), ([103, 101, 116], [104, 107]), ([112, 117, 116], [104, 107, 118]), ([100, 101, 108, 101, 116, 101], [104, 107]), ([108, 101, 110], [104]), ([101, 113, 117, 97, 108], [104, 103]), ([109, 101, 114, 103, 101], [104, 103, 110]), ([116, 104, 114, 101, 101], [110, 104, 103]), ([100, 105, 102, 102], [104, 103]), ([114, 97, 110, 103, 101], [104, 102, 101, 110, 109]), ([98, 97, 99, 107], [104, 102, 101, 110, 109]), ([114, 97, 110, 107], [104, 107]), ([115, 101, 108, 101, 99, 116], [104, 110]), ([109, 105, 110], [104]), ([109, 97, 120], [104]), ([101, 110, 99, 111, 100, 101], [104]), ([100, 101, 99, 111, 100, 101], [107]), ([100, 114, 111, 112], [104]), ([104, 97, 110, 100, 108, 101, 115], [])]
def formM (k : Nat) : List UInt8 × List UInt8 := wordsM.getD (k - 1) ([], [])
theorem und_392 : Tryz.prog.underlying 392 = some (.array 20 9) := by kernel_rfl
theorem idxArr (cs : Array Value) (i : Int) (v : Value) (h0 : 0 ≤ i) (h1 : i < 20) (hc : cs[i.toNat]? = some v) (W : World) : (Instr.index 392 (.agg cs) (.int .i64 i)).run Tryz.prog W = .ok v W := by
  have hn : (0 ≤ i ∧ i < (20 : Nat)) := by omega
  have hn2 : ¬ 20 ≤ i := by omega
  simp [Instr.index, run_underlying und_392, asIntOf, h0, h1, hc, go_sem]
def FormSaid (k : Int) (f : List UInt8 × List UInt8) : Prop := ∀ w : World, GM w → Calls Tryz.prog 226 #[.int .i64 k] w fun e w' => e = .returned (.tuple #[.string (str f.1), .string (str f.2)]) ∧ ∃ n, w' = w.drewN n
set_option maxHeartbeats 2000000 in
set_option maxRecDepth 100000 in
theorem form1 : FormSaid 1 ([102, 101, 101, 100], [107]) := by
  intro w hm
  have CC := Lib.hid (cutStr w hm [102, 101, 101, 100, 32, 107] [32] (by decide))
  rw [show Lib.cut ([102, 101, 101, 100, 32, 107] : List UInt8) [32] = ([102, 101, 101, 100], [107], true) from by decide] at CC
  unfold str at CC
  have hix := idxArr #[.string { data := #[102, 101, 101, 100, 32, 107] }, .string { data := #[110, 101, 119, 32] }, .string { data := #[103, 101, 116, 32, 104, 107] }, .string { data := #[112, 117, 116, 32, 104, 107, 118] }, .string { data := #[100, 101, 108, 101, 116, 101, 32, 104, 107] }, .string { data := #[108, 101, 110, 32, 104] }, .string { data := #[101, 113, 117, 97, 108, 32, 104, 103] }, .string { data := #[109, 101, 114, 103, 101, 32, 104, 103, 110] }, .string { data := #[116, 104, 114, 101, 101, 32, 110, 104, 103] }, .string { data := #[100, 105, 102, 102, 32, 104, 103] }, .string { data := #[114, 97, 110, 103, 101, 32, 104, 102, 101, 110, 109] }, .string { data := #[98, 97, 99, 107, 32, 104, 102, 101, 110, 109] }, .string { data := #[114, 97, 110, 107, 32, 104, 107] }, .string { data := #[115, 101, 108, 101, 99, 116, 32, 104, 110] }, .string { data := #[109, 105, 110, 32, 104] }, .string { data := #[109, 97, 120, 32, 104] }, .string { data := #[101, 110, 99, 111, 100, 101, 32, 104] }, .string { data := #[100, 101, 99, 111, 100, 101, 32, 107] }, .string { data := #[100, 114, 111, 112, 32, 104] }, .string { data := #[104, 97, 110, 100, 108, 101, 115, 32] }] 0 _ (by decide) (by decide) rfl
  go_enter Tryz.func226, Tryz.ntmps226
  go_wp2_with (go_at_call 149; ((with_reducible refine (CC.out).mono ?_)); rintro e w1 ⟨rfl, n, rfl⟩)
  go_ret2
  exact ⟨rfl, n, rfl⟩
set_option maxHeartbeats 2000000 in
set_option maxRecDepth 100000 in
theorem form2 : FormSaid 2 ([110, 101, 119], []) := by
  intro w hm
  have CC := Lib.hid (cutStr w hm [110, 101, 119, 32] [32] (by decide))
  rw [show Lib.cut ([110, 101, 119, 32] : List UInt8) [32] = ([110, 101, 119], [], true) from by decide] at CC
  unfold str at CC
  have hix := idxArr #[.string { data := #[102, 101, 101, 100, 32, 107] }, .string { data := #[110, 101, 119, 32] }, .string { data := #[103, 101, 116, 32, 104, 107] }, .string { data := #[112, 117, 116, 32, 104, 107, 118] }, .string { data := #[100, 101, 108, 101, 116, 101, 32, 104, 107] }, .string { data := #[108, 101, 110, 32, 104] }, .string { data := #[101, 113, 117, 97, 108, 32, 104, 103] }, .string { data := #[109, 101, 114, 103, 101, 32, 104, 103, 110] }, .string { data := #[116, 104, 114, 101, 101, 32, 110, 104, 103] }, .string { data := #[100, 105, 102, 102, 32, 104, 103] }, .string { data := #[114, 97, 110, 103, 101, 32, 104, 102, 101, 110, 109] }, .string { data := #[98, 97, 99, 107, 32, 104, 102, 101, 110, 109] }, .string { data := #[114, 97, 110, 107, 32, 104, 107] }, .string { data := #[115, 101, 108, 101, 99, 116, 32, 104, 110] }, .string { data := #[109, 105, 110, 32, 104] }, .string { data := #[109, 97, 120, 32, 104] }, .string { data := #[101, 110, 99, 111, 100, 101, 32, 104] }, .string { data := #[100, 101, 99, 111, 100, 101, 32, 107] }, .string { data := #[100, 114, 111, 112, 32, 104] }, .string { data := #[104, 97, 110, 100, 108, 101, 115, 32] }] 1 _ (by decide) (by decide) rfl
  go_enter Tryz.func226, Tryz.ntmps226
  go_wp2_with (go_at_call 149; ((with_reducible refine (CC.out).mono ?_)); rintro e w1 ⟨rfl, n, rfl⟩)
  go_ret2
  exact ⟨rfl, n, rfl⟩
set_option maxHeartbeats 2000000 in
set_option maxRecDepth 100000 in
theorem form3 : FormSaid 3 ([103, 101, 116], [104, 107]) := by
  intro w hm
  have CC := Lib.hid (cutStr w hm [103, 101, 116, 32, 104, 107] [32] (by decide))
  rw [show Lib.cut ([103, 101, 116, 32, 104, 107] : List UInt8) [32] = ([103, 101, 116], [104, 107], true) from by decide] at CC
  unfold str at CC
  have hix := idxArr #[.string { data := #[102, 101, 101, 100, 32, 107] }, .string { data := #[110, 101, 119, 32] }, .string { data := #[103, 101, 116, 32, 104, 107] }, .string { data := #[112, 117, 116, 32, 104, 107, 118] }, .string { data := #[100, 101, 108, 101, 116, 101, 32, 104, 107] }, .string { data := #[108, 101, 110, 32, 104] }, .string { data := #[101, 113, 117, 97, 108, 32, 104, 103] }, .string { data := #[109, 101, 114, 103, 101, 32, 104, 103, 110] }, .string { data := #[116, 104, 114, 101, 101, 32, 110, 104, 103] }, .string { data := #[100, 105, 102, 102, 32, 104, 103] }, .string { data := #[114, 97, 110, 103, 101, 32, 104, 102, 101, 110, 109] }, .string { data := #[98, 97, 99, 107, 32, 104, 102, 101, 110, 109] }, .string { data := #[114, 97, 110, 107, 32, 104, 107] }, .string { data := #[115, 101, 108, 101, 99, 116, 32, 104, 110] }, .string { data := #[109, 105, 110, 32, 104] }, .string { data := #[109, 97, 120, 32, 104] }, .string { data := #[101, 110, 99, 111, 100, 101, 32, 104] }, .string { data := #[100, 101, 99, 111, 100, 101, 32, 107] }, .string { data := #[100, 114, 111, 112, 32, 104] }, .string { data := #[104, 97, 110, 100, 108, 101, 115, 32] }] 2 _ (by decide) (by decide) rfl
  go_enter Tryz.func226, Tryz.ntmps226
  go_wp2_with (go_at_call 149; ((with_reducible refine (CC.out).mono ?_)); rintro e w1 ⟨rfl, n, rfl⟩)
  go_ret2
  exact ⟨rfl, n, rfl⟩
set_option maxHeartbeats 2000000 in
set_option maxRecDepth 100000 in
theorem form4 : FormSaid 4 ([112, 117, 116], [104, 107, 118]) := by
  intro w hm
  have CC := Lib.hid (cutStr w hm [112, 117, 116, 32, 104, 107, 118] [32] (by decide))
  rw [show Lib.cut ([112, 117, 116, 32, 104, 107, 118] : List UInt8) [32] = ([112, 117, 116], [104, 107, 118], true) from by decide] at CC
  unfold str at CC
  have hix := idxArr #[.string { data := #[102, 101, 101, 100, 32, 107] }, .string { data := #[110, 101, 119, 32] }, .string { data := #[103, 101, 116, 32, 104, 107] }, .string { data := #[112, 117, 116, 32, 104, 107, 118] }, .string { data := #[100, 101, 108, 101, 116, 101, 32, 104, 107] }, .string { data := #[108, 101, 110, 32, 104] }, .string { data := #[101, 113, 117, 97, 108, 32, 104, 103] }, .string { data := #[109, 101, 114, 103, 101, 32, 104, 103, 110] }, .string { data := #[116, 104, 114, 101, 101, 32, 110, 104, 103] }, .string { data := #[100, 105, 102, 102, 32, 104, 103] }, .string { data := #[114, 97, 110, 103, 101, 32, 104, 102, 101, 110, 109] }, .string { data := #[98, 97, 99, 107, 32, 104, 102, 101, 110, 109] }, .string { data := #[114, 97, 110, 107, 32, 104, 107] }, .string { data := #[115, 101, 108, 101, 99, 116, 32, 104, 110] }, .string { data := #[109, 105, 110, 32, 104] }, .string { data := #[109, 97, 120, 32, 104] }, .string { data := #[101, 110, 99, 111, 100, 101, 32, 104] }, .string { data := #[100, 101, 99, 111, 100, 101, 32, 107] }, .string { data := #[100, 114, 111, 112, 32, 104] }, .string { data := #[104, 97, 110, 100, 108, 101, 115, 32] }] 3 _ (by decide) (by decide) rfl
  go_enter Tryz.func226, Tryz.ntmps226
  go_wp2_with (go_at_call 149; ((with_reducible refine (CC.out).mono ?_)); rintro e w1 ⟨rfl, n, rfl⟩)
  go_ret2
  exact ⟨rfl, n, rfl⟩
set_option maxHeartbeats 2000000 in
set_option maxRecDepth 100000 in
theorem form5 : FormSaid 5 ([100, 101, 108, 101, 116, 101], [104, 107]) := by
  intro w hm
  have CC := Lib.hid (cutStr w hm [100, 101, 108, 101, 116, 101, 32, 104, 107] [32] (by decide))
  rw [show Lib.cut ([100, 101, 108, 101, 116, 101, 32, 104, 107] : List UInt8) [32] = ([100, 101, 108, 101, 116, 101], [104, 107], true) from by decide] at CC
  unfold str at CC
  have hix := idxArr #[.string { data := #[102, 101, 101, 100, 32, 107] }, .string { data := #[110, 101, 119, 32] }, .string { data := #[103, 101, 116, 32, 104, 107] }, .string { data := #[112, 117, 116, 32, 104, 107, 118] }, .string { data := #[100, 101, 108, 101, 116, 101, 32, 104, 107] }, .string { data := #[108, 101, 110, 32, 104] }, .string { data := #[101, 113, 117, 97, 108, 32, 104, 103] }, .string { data := #[109, 101, 114, 103, 101, 32, 104, 103, 110] }, .string { data := #[116, 104, 114, 101, 101, 32, 110, 104, 103] }, .string { data := #[100, 105, 102, 102, 32, 104, 103] }, .string { data := #[114, 97, 110, 103, 101, 32, 104, 102, 101, 110, 109] }, .string { data := #[98, 97, 99, 107, 32, 104, 102, 101, 110, 109] }, .string { data := #[114, 97, 110, 107, 32, 104, 107] }, .string { data := #[115, 101, 108, 101, 99, 116, 32, 104, 110] }, .string { data := #[109, 105, 110, 32, 104] }, .string { data := #[109, 97, 120, 32, 104] }, .string { data := #[101, 110, 99, 111, 100, 101, 32, 104] }, .string { data := #[100, 101, 99, 111, 100, 101, 32, 107] }, .string { data := #[100, 114, 111, 112, 32, 104] }, .string { data := #[104, 97, 110, 100, 108, 101, 115, 32] }] 4 _ (by decide) (by decide) rfl
  go_enter Tryz.func226, Tryz.ntmps226
  go_wp2_with (go_at_call 149; ((with_reducible refine (CC.out).mono ?_)); rintro e w1 ⟨rfl, n, rfl⟩)
  go_ret2
  exact ⟨rfl, n, rfl⟩
set_option maxHeartbeats 2000000 in
set_option maxRecDepth 100000 in
theorem form6 : FormSaid 6 ([108, 101, 110], [104]) := by
  intro w hm
  have CC := Lib.hid (cutStr w hm [108, 101, 110, 32, 104] [32] (by decide))
  rw [show Lib.cut ([108, 101, 110, 32, 104] : List UInt8) [32] = ([108, 101, 110], [104], true) from by decide] at CC
  unfold str at CC
  have hix := idxArr #[.string { data := #[102, 101, 101, 100, 32, 107] }, .string { data := #[110, 101, 119, 32] }, .string { data := #[103, 101, 116, 32, 104, 107] }, .string { data := #[112, 117, 116, 32, 104, 107, 118] }, .string { data := #[100, 101, 108, 101, 116, 101, 32, 104, 107] }, .string { data := #[108, 101, 110, 32, 104] }, .string { data := #[101, 113, 117, 97, 108, 32, 104, 103] }, .string { data := #[109, 101, 114, 103, 101, 32, 104, 103, 110] }, .string { data := #[116, 104, 114, 101, 101, 32, 110, 104, 103] }, .string { data := #[100, 105, 102, 102, 32, 104, 103] }, .string { data := #[114, 97, 110, 103, 101, 32, 104, 102, 101, 110, 109] }, .string { data := #[98, 97, 99, 107, 32, 104, 102, 101, 110, 109] }, .string { data := #[114, 97, 110, 107, 32, 104, 107] }, .string { data := #[115, 101, 108, 101, 99, 116, 32, 104, 110] }, .string { data := #[109, 105, 110, 32, 104] }, .string { data := #[109, 97, 120, 32, 104] }, .string { data := #[101, 110, 99, 111, 100, 101, 32, 104] }, .string { data := #[100, 101, 99, 111, 100, 101, 32, 107] }, .string { data := #[100, 114, 111, 112, 32, 104] }, .string { data := #[104, 97, 110, 100, 108, 101, 115, 32] }] 5 _ (by decide) (by decide) rfl
  go_enter Tryz.func226, Tryz.ntmps226
  go_wp2_with (go_at_call 149; ((with_reducible refine (CC.out).mono ?_)); rintro e w1 ⟨rfl, n, rfl⟩)
  go_ret2
  exact ⟨rfl, n, rfl⟩
set_option maxHeartbeats 2000000 in
set_option maxRecDepth 100000 in
theorem form7 : FormSaid 7 ([101, 113, 117, 97, 108], [104, 103]) := by
  intro w hm
  have CC := Lib.hid (cutStr w hm [101, 113, 117, 97, 108, 32, 104, 103] [32] (by decide))
  rw [show Lib.cut ([101, 113, 117, 97, 108, 32, 104, 103] : List UInt8) [32] = ([101, 113, 117, 97, 108], [104, 103], true) from by decide] at CC
  unfold str at CC
  have hix := idxArr #[.string { data := #[102, 101, 101, 100, 32, 107] }, .string { data := #[110, 101, 119, 32] }, .string { data := #[103, 101, 116, 32, 104, 107] }, .string { data := #[112, 117, 116, 32, 104, 107, 118] }, .string { data := #[100, 101, 108, 101, 116, 101, 32, 104, 107] }, .string { data := #[108, 101, 110, 32, 104] }, .string { data := #[101, 113, 117, 97, 108, 32, 104, 103] }, .string { data := #[109, 101, 114, 103, 101, 32, 104, 103, 110] }, .string { data := #[116, 104, 114, 101, 101, 32, 110, 104, 103] }, .string { data := #[100, 105, 102, 102, 32, 104, 103] }, .string { data := #[114, 97, 110, 103, 101, 32, 104, 102, 101, 110, 109] }, .string { data := #[98, 97, 99, 107, 32, 104, 102, 101, 110, 109] }, .string { data := #[114, 97, 110, 107, 32, 104, 107] }, .string { data := #[115, 101, 108, 101, 99, 116, 32, 104, 110] }, .string { data := #[109, 105, 110, 32, 104] }, .string { data := #[109, 97, 120, 32, 104] }, .string { data := #[101, 110, 99, 111, 100, 101, 32, 104] }, .string { data := #[100, 101, 99, 111, 100, 101, 32, 107] }, .string { data := #[100, 114, 111, 112, 32, 104] }, .string { data := #[104, 97, 110, 100, 108, 101, 115, 32] }] 6 _ (by decide) (by decide) rfl
  go_enter Tryz.func226, Tryz.ntmps226
  go_wp2_with (go_at_call 149; ((with_reducible refine (CC.out).mono ?_)); rintro e w1 ⟨rfl, n, rfl⟩)
  go_ret2
  exact ⟨rfl, n, rfl⟩
set_option maxHeartbeats 2000000 in
set_option maxRecDepth 100000 in
theorem form8 : FormSaid 8 ([109, 101, 114, 103, 101], [104, 103, 110]) := by
  intro w hm
  have CC := Lib.hid (cutStr w hm [109, 101, 114, 103, 101, 32, 104, 103, 110] [32] (by decide))
  rw [show Lib.cut ([109, 101, 114, 103, 101, 32, 104, 103, 110] : List UInt8) [32] = ([109, 101, 114, 103, 101], [104, 103, 110], true) from by decide] at CC
  unfold str at CC
  have hix := idxArr #[.string { data := #[102, 101, 101, 100, 32, 107] }, .string { data := #[110, 101, 119, 32] }, .string { data := #[103, 101, 116, 32, 104, 107] }, .string { data := #[112, 117, 116, 32, 104, 107, 118] }, .string { data := #[100, 101, 108, 101, 116, 101, 32, 104, 107] }, .string { data := #[108, 101, 110, 32, 104] }, .string { data := #[101, 113, 117, 97, 108, 32, 104, 103] }, .string { data := #[109, 101, 114, 103, 101, 32, 104, 103, 110] }, .string { data := #[116, 104, 114, 101, 101, 32, 110, 104, 103] }, .string { data := #[100, 105, 102, 102, 32, 104, 103] }, .string { data := #[114, 97, 110, 103, 101, 32, 104, 102, 101, 110, 109] }, .string { data := #[98, 97, 99, 107, 32, 104, 102, 101, 110, 109] }, .string { data := #[114, 97, 110, 107, 32, 104, 107] }, .string { data := #[115, 101, 108, 101, 99, 116, 32, 104, 110] }, .string { data := #[109, 105, 110, 32, 104] }, .string { data := #[109, 97, 120, 32, 104] }, .string { data := #[101, 110, 99, 111, 100, 101, 32, 104] }, .string { data := #[100, 101, 99, 111, 100, 101, 32, 107] }, .string { data := #[100, 114, 111, 112, 32, 104] }, .string { data := #[104, 97, 110, 100, 108, 101, 115, 32] }] 7 _ (by decide) (by decide) rfl
  go_enter Tryz.func226, Tryz.ntmps226
  go_wp2_with (go_at_call 149; ((with_reducible refine (CC.out).mono ?_)); rintro e w1 ⟨rfl, n, rfl⟩)
  go_ret2
  exact ⟨rfl, n, rfl⟩
set_option maxHeartbeats 2000000 in
set_option maxRecDepth 100000 in
theorem form9 : FormSaid 9 ([116, 104, 114, 101, 101], [110, 104, 103]) := by
  intro w hm
  have CC := Lib.hid (cutStr w hm [116, 104, 114, 101, 101, 32, 110, 104, 103] [32] (by decide))
  rw [show Lib.cut ([116, 104, 114, 101, 101, 32, 110, 104, 103] : List UInt8) [32] = ([116, 104, 114, 101, 101], [110, 104, 103], true) from by decide] at CC
  unfold str at CC
  have hix := idxArr #[.string { data := #[102, 101, 101, 100, 32, 107] }, .string { data := #[110, 101, 119, 32] }, .string { data := #[103, 101, 116, 32, 104, 107] }, .string { data := #[112, 117, 116, 32, 104, 107, 118] }, .string { data := #[100, 101, 108, 101, 116, 101, 32, 104, 107] }, .string { data := #[108, 101, 110, 32, 104] }, .string { data := #[101, 113, 117, 97, 108, 32, 104, 103] }, .string { data := #[109, 101, 114, 103, 101, 32, 104, 103, 110] }, .string { data := #[116, 104, 114, 101, 101, 32, 110, 104, 103] }, .string { data := #[100, 105, 102, 102, 32, 104, 103] }, .string { data := #[114, 97, 110, 103, 101, 32, 104, 102, 101, 110, 109] }, .string { data := #[98, 97, 99, 107, 32, 104, 102, 101, 110, 109] }, .string { data := #[114, 97, 110, 107, 32, 104, 107] }, .string { data := #[115, 101, 108, 101, 99, 116, 32, 104, 110] }, .string { data := #[109, 105, 110, 32, 104] }, .string { data := #[109, 97, 120, 32, 104] }, .string { data := #[101, 110, 99, 111, 100, 101, 32, 104] }, .string { data := #[100, 101, 99, 111, 100, 101, 32, 107] }, .string { data := #[100, 114, 111, 112, 32, 104] }, .string { data := #[104, 97, 110, 100, 108, 101, 115, 32] }] 8 _ (by decide) (by decide) rfl
  go_enter Tryz.func226, Tryz.ntmps226
  go_wp2_with (go_at_call 149; ((with_reducible refine (CC.out).mono ?_)); rintro e w1 ⟨rfl, n, rfl⟩)
  go_ret2
  exact ⟨rfl, n, rfl⟩
set_option maxHeartbeats 2000000 in
set_option maxRecDepth 100000 in
theorem form10 : FormSaid 10 ([100, 105, 102, 102], [104, 103]) := by
  intro w hm
  have CC := Lib.hid (cutStr w hm [100, 105, 102, 102, 32, 104, 103] [32] (by decide))
  rw [show Lib.cut ([100, 105, 102, 102, 32, 104, 103] : List UInt8) [32] = ([100, 105, 102, 102], [104, 103], true) from by decide] at CC
  unfold str at CC
  have hix := idxArr #[.string { data := #[102, 101, 101, 100, 32, 107] }, .string { data := #[110, 101, 119, 32] }, .string { data := #[103, 101, 116, 32, 104, 107] }, .string { data := #[112, 117, 116, 32, 104, 107, 118] }, .string { data := #[100, 101, 108, 101, 116, 101, 32, 104, 107] }, .string { data := #[108, 101, 110, 32, 104] }, .string { data := #[101, 113, 117, 97, 108, 32, 104, 103] }, .string { data := #[109, 101, 114, 103, 101, 32, 104, 103, 110] }, .string { data := #[116, 104, 114, 101, 101, 32, 110, 104, 103] }, .string { data := #[100, 105, 102, 102, 32, 104, 103] }, .string { data := #[114, 97, 110, 103, 101, 32, 104, 102, 101, 110, 109] }, .string { data := #[98, 97, 99, 107, 32, 104, 102, 101, 110, 109] }, .string { data := #[114, 97, 110, 107, 32, 104, 107] }, .string { data := #[115, 101, 108, 101, 99, 116, 32, 104, 110] }, .string { data := #[109, 105, 110, 32, 104] }, .string { data := #[109, 97, 120, 32, 104] }, .string { data := #[101, 110, 99, 111, 100, 101, 32, 104] }, .string { data := #[100, 101, 99, 111, 100, 101, 32, 107] }, .string { data := #[100, 114, 111, 112, 32, 104] }, .string { data := #[104, 97, 110, 100, 108, 101, 115, 32] }] 9 _ (by decide) (by decide) rfl
  go_enter Tryz.func226, Tryz.ntmps226
  go_wp2_with (go_at_call 149; ((with_reducible refine (CC.out).mono ?_)); rintro e w1 ⟨rfl, n, rfl⟩)
  go_ret2
  exact ⟨rfl, n, rfl⟩
set_option maxHeartbeats 2000000 in
set_option maxRecDepth 100000 in
theorem form11 : FormSaid 11 ([114, 97, 110, 103, 101], [104, 102, 101, 110, 109]) := by
  intro w hm
  have CC := Lib.hid (cutStr w hm [114, 97, 110, 103, 101, 32, 104, 102, 101, 110, 109] [32] (by decide))
  rw [show Lib.cut ([114, 97, 110, 103, 101, 32, 104, 102, 101, 110, 109] : List UInt8) [32] = ([114, 97, 110, 103, 101], [104, 102, 101, 110, 109], true) from by decide] at CC
  unfold str at CC
  have hix := idxArr #[.string { data := #[102, 101, 101, 100, 32, 107] }, .string { data := #[110, 101, 119, 32] }, .string { data := #[103, 101, 116, 32, 104, 107] }, .string { data := #[112, 117, 116, 32, 104, 107, 118] }, .string { data := #[100, 101, 108, 101, 116, 101, 32, 104, 107] }, .string { data := #[108, 101, 110, 32, 104] }, .string { data := #[101, 113, 117, 97, 108, 32, 104, 103] }, .string { data := #[109, 101, 114, 103, 101, 32, 104, 103, 110] }, .string { data := #[116, 104, 114, 101, 101, 32, 110, 104, 103] }, .string { data := #[100, 105, 102, 102, 32, 104, 103] }, .string { data := #[114, 97, 110, 103, 101, 32, 104, 102, 101, 110, 109] }, .string { data := #[98, 97, 99, 107, 32, 104, 102, 101, 110, 109] }, .string { data := #[114, 97, 110, 107, 32, 104, 107] }, .string { data := #[115, 101, 108, 101, 99, 116, 32, 104, 110] }, .string { data := #[109, 105, 110, 32, 104] }, .string { data := #[109, 97, 120, 32, 104] }, .string { data := #[101, 110, 99, 111, 100, 101, 32, 104] }, .string { data := #[100, 101, 99, 111, 100, 101, 32, 107] }, .string { data := #[100, 114, 111, 112, 32, 104] }, .string { data := #[104, 97, 110, 100, 108, 101, 115, 32] }] 10 _ (by decide) (by decide) rfl
  go_enter Tryz.func226, Tryz.ntmps226
  go_wp2_with (go_at_call 149; ((with_reducible refine (CC.out).mono ?_)); rintro e w1 ⟨rfl, n, rfl⟩)
  go_ret2
  exact ⟨rfl, n, rfl⟩
set_option maxHeartbeats 2000000 in
set_option maxRecDepth 100000 in
theorem form12 : FormSaid 12 ([98, 97, 99, 107], [104, 102, 101, 110, 109]) := by
  intro w hm
  have CC := Lib.hid (cutStr w hm [98, 97, 99, 107, 32, 104, 102, 101, 110, 109] [32] (by decide))
  rw [show Lib.cut ([98, 97, 99, 107, 32, 104, 102, 101, 110, 109] : List UInt8) [32] = ([98, 97, 99, 107], [104, 102, 101, 110, 109], true) from by decide] at CC
  unfold str at CC
  have hix := idxArr #[.string { data := #[102, 101, 101, 100, 32, 107] }, .string { data := #[110, 101, 119, 32] }, .string { data := #[103, 101, 116, 32, 104, 107] }, .string { data := #[112, 117, 116, 32, 104, 107, 118] }, .string { data := #[100, 101, 108, 101, 116, 101, 32, 104, 107] }, .string { data := #[108, 101, 110, 32, 104] }, .string { data := #[101, 113, 117, 97, 108, 32, 104, 103] }, .string { data := #[109, 101, 114, 103, 101, 32, 104, 103, 110] }, .string { data := #[116, 104, 114, 101, 101, 32, 110, 104, 103] }, .string { data := #[100, 105, 102, 102, 32, 104, 103] }, .string { data := #[114, 97, 110, 103, 101, 32, 104, 102, 101, 110, 109] }, .string { data := #[98, 97, 99, 107, 32, 104, 102, 101, 110, 109] }, .string { data := #[114, 97, 110, 107, 32, 104, 107] }, .string { data := #[115, 101, 108, 101, 99, 116, 32, 104, 110] }, .string { data := #[109, 105, 110, 32, 104] }, .string { data := #[109, 97, 120, 32, 104] }, .string { data := #[101, 110, 99, 111, 100, 101, 32, 104] }, .string { data := #[100, 101, 99, 111, 100, 101, 32, 107] }, .string { data := #[100, 114, 111, 112, 32, 104] }, .string { data := #[104, 97, 110, 100, 108, 101, 115, 32] }] 11 _ (by decide) (by decide) rfl
  go_enter Tryz.func226, Tryz.ntmps226
  go_wp2_with (go_at_call 149; ((with_reducible refine (CC.out).mono ?_)); rintro e w1 ⟨rfl, n, rfl⟩)
  go_ret2
  exact ⟨rfl, n, rfl⟩
set_option maxHeartbeats 2000000 in
set_option maxRecDepth 100000 in
theorem form13 : FormSaid 13 ([114, 97, 110, 107], [104, 107]) := by
  intro w hm
  have CC := Lib.hid (cutStr w hm [114, 97, 110, 107, 32, 104, 107] [32] (by decide))
  rw [show Lib.cut ([114, 97, 110, 107, 32, 104, 107] : List UInt8) [32] = ([114, 97, 110, 107], [104, 107], true) from by decide] at CC
  unfold str at CC
  have hix := idxArr #[.string { data := #[102, 101, 101, 100, 32, 107] }, .string { data := #[110, 101, 119, 32] }, .string { data := #[103, 101, 116, 32, 104, 107] }, .string { data := #[112, 117, 116, 32, 104, 107, 118] }, .string { data := #[100, 101, 108, 101, 116, 101, 32, 104, 107] }, .string { data := #[108, 101, 110, 32, 104] }, .string { data := #[101, 113, 117, 97, 108, 32, 104, 103] }, .string { data := #[109, 101, 114, 103, 101, 32, 104, 103, 110] }, .string { data := #[116, 104, 114, 101, 101, 32, 110, 104, 103] }, .string { data := #[100, 105, 102, 102, 32, 104, 103] }, .string { data := #[114, 97, 110, 103, 101, 32, 104, 102, 101, 110, 109] }, .string { data := #[98, 97, 99, 107, 32, 104, 102, 101, 110, 109] }, .string { data := #[114, 97, 110, 107, 32, 104, 107] }, .string { data := #[115, 101, 108, 101, 99, 116, 32, 104, 110] }, .string { data := #[109, 105, 110, 32, 104] }, .string { data := #[109, 97, 120, 32, 104] }, .string { data := #[101, 110, 99, 111, 100, 101, 32, 104] }, .string { data := #[100, 101, 99, 111, 100, 101, 32, 107] }, .string { data := #[100, 114, 111, 112, 32, 104] }, .string { data := #[104, 97, 110, 100, 108, 101, 115, 32] }] 12 _ (by decide) (by decide) rfl
  go_enter Tryz.func226, Tryz.ntmps226
  go_wp2_with (go_at_call 149; ((with_reducible refine (CC.out).mono ?_)); rintro e w1 ⟨rfl, n, rfl⟩)
  go_ret2
  exact ⟨rfl, n, rfl⟩
set_option maxHeartbeats 2000000 in
set_option maxRecDepth 100000 in
theorem form14 : FormSaid 14 ([115, 101, 108, 101, 99, 116], [104, 110]) := by
  intro w hm
  have CC := Lib.hid (cutStr w hm [115, 101, 108, 101, 99, 116, 32, 104, 110] [32] (by decide))
  rw [show Lib.cut ([115, 101, 108, 101, 99, 116, 32, 104, 110] : List UInt8) [32] = ([115, 101, 108, 101, 99, 116], [104, 110], true) from by decide] at CC
  unfold str at CC
  have hix := idxArr #[.string { data := #[102, 101, 101, 100, 32, 107] }, .string { data := #[110, 101, 119, 32] }, .string { data := #[103, 101, 116, 32, 104, 107] }, .string { data := #[112, 117, 116, 32, 104, 107, 118] }, .string { data := #[100, 101, 108, 101, 116, 101, 32, 104, 107] }, .string { data := #[108, 101, 110, 32, 104] }, .string { data := #[101, 113, 117, 97, 108, 32, 104, 103] }, .string { data := #[109, 101, 114, 103, 101, 32, 104, 103, 110] }, .string { data := #[116, 104, 114, 101, 101, 32, 110, 104, 103] }, .string { data := #[100, 105, 102, 102, 32, 104, 103] }, .string { data := #[114, 97, 110, 103, 101, 32, 104, 102, 101, 110, 109] }, .string { data := #[98, 97, 99, 107, 32, 104, 102, 101, 110, 109] }, .string { data := #[114, 97, 110, 107, 32, 104, 107] }, .string { data := #[115, 101, 108, 101, 99, 116, 32, 104, 110] }, .string { data := #[109, 105, 110, 32, 104] }, .string { data := #[109, 97, 120, 32, 104] }, .string { data := #[101, 110, 99, 111, 100, 101, 32, 104] }, .string { data := #[100, 101, 99, 111, 100, 101, 32, 107] }, .string { data := #[100, 114, 111, 112, 32, 104] }, .string { data := #[104, 97, 110, 100, 108, 101, 115, 32] }] 13 _ (by decide) (by decide) rfl
  go_enter Tryz.func226, Tryz.ntmps226
  go_wp2_with (go_at_call 149; ((with_reducible refine (CC.out).mono ?_)); rintro e w1 ⟨rfl, n, rfl⟩)
  go_ret2
  exact ⟨rfl, n, rfl⟩
set_option maxHeartbeats 2000000 in
set_option maxRecDepth 100000 in
theorem form15 : FormSaid 15 ([109, 105, 110], [104]) := by
  intro w hm
  have CC := Lib.hid (cutStr w hm [109, 105, 110, 32, 104] [32] (by decide))
  rw [show Lib.cut ([109, 105, 110, 32, 104] : List UInt8) [32] = ([109, 105, 110], [104], true) from by decide] at CC
  unfold str at CC
  have hix := idxArr #[.string { data := #[102, 101, 101, 100, 32, 107] }, .string { data := #[110, 101, 119, 32] }, .string { data := #[103, 101, 116, 32, 104, 107] }, .string { data := #[112, 117, 116, 32, 104, 107, 118] }, .string { data := #[100, 101, 108, 101, 116, 101, 32, 104, 107] }, .string { data := #[108, 101, 110, 32, 104] }, .string { data := #[101, 113, 117, 97, 108, 32, 104, 103] }, .string { data := #[109, 101, 114, 103, 101, 32, 104, 103, 110] }, .string { data := #[116, 104, 114, 101, 101, 32, 110, 104, 103] }, .string { data := #[100, 105, 102, 102, 32, 104, 103] }, .string { data := #[114, 97, 110, 103, 101, 32, 104, 102, 101, 110, 109] }, .string { data := #[98, 97, 99, 107, 32, 104, 102, 101, 110, 109] }, .string { data := #[114, 97, 110, 107, 32, 104, 107] }, .string { data := #[115, 101, 108, 101, 99, 116, 32, 104, 110] }, .string { data := #[109, 105, 110, 32, 104] }, .string { data := #[109, 97, 120, 32, 104] }, .string { data := #[101, 110, 99, 111, 100, 101, 32, 104] }, .string { data := #[100, 101, 99, 111, 100, 101, 32, 107] }, .string { data := #[100, 114, 111, 112, 32, 104] }, .string { data := #[104, 97, 110, 100, 108, 101, 115, 32] }] 14 _ (by decide) (by decide) rfl
  go_enter Tryz.func226, Tryz.ntmps226
  go_wp2_with (go_at_call 149; ((with_reducible refine (CC.out).mono ?_)); rintro e w1 ⟨rfl, n, rfl⟩)
  go_ret2
  exact ⟨rfl, n, rfl⟩
set_option maxHeartbeats 2000000 in
set_option maxRecDepth 100000 in
theorem form16 : FormSaid 16 ([109, 97, 120], [104]) := by
  intro w hm
  have CC := Lib.hid (cutStr w hm [109, 97, 120, 32, 104] [32] (by decide))
  rw [show Lib.cut ([109, 97, 120, 32, 104] : List UInt8) [32] = ([109, 97, 120], [104], true) from by decide] at CC
  unfold str at CC
  have hix := idxArr #[.string { data := #[102, 101, 101, 100, 32, 107] }, .string { data := #[110, 101, 119, 32] }, .string { data := #[103, 101, 116, 32, 104, 107] }, .string { data := #[112, 117, 116, 32, 104, 107, 118] }, .string { data := #[100, 101, 108, 101, 116, 101, 32, 104, 107] }, .string { data := #[108, 101, 110, 32, 104] }, .string { data := #[101, 113, 117, 97, 108, 32, 104, 103] }, .string { data := #[109, 101, 114, 103, 101, 32, 104, 103, 110] }, .string { data := #[116, 104, 114, 101, 101, 32, 110, 104, 103] }, .string { data := #[100, 105, 102, 102, 32, 104, 103] }, .string { data := #[114, 97, 110, 103, 101, 32, 104, 102, 101, 110, 109] }, .string { data := #[98, 97, 99, 107, 32, 104, 102, 101, 110, 109] }, .string { data := #[114, 97, 110, 107, 32, 104, 107] }, .string { data := #[115, 101, 108, 101, 99, 116, 32, 104, 110] }, .string { data := #[109, 105, 110, 32, 104] }, .string { data := #[109, 97, 120, 32, 104] }, .string { data := #[101, 110, 99, 111, 100, 101, 32, 104] }, .string { data := #[100, 101, 99, 111, 100, 101, 32, 107] }, .string { data := #[100, 114, 111, 112, 32, 104] }, .string { data := #[104, 97, 110, 100, 108, 101, 115, 32] }] 15 _ (by decide) (by decide) rfl
  go_enter Tryz.func226, Tryz.ntmps226
  go_wp2_with (go_at_call 149; ((with_reducible refine (CC.out).mono ?_)); rintro e w1 ⟨rfl, n, rfl⟩)
  go_ret2
  exact ⟨rfl, n, rfl⟩
set_option maxHeartbeats 2000000 in
set_option maxRecDepth 100000 in
theorem form17 : FormSaid 17 ([101, 110, 99, 111, 100, 101], [104]) := by
  intro w hm
  have CC := Lib.hid (cutStr w hm [101, 110, 99, 111, 100, 101, 32, 104] [32] (by decide))
  rw [show Lib.cut ([101, 110, 99, 111, 100, 101, 32, 104] : List UInt8) [32] = ([101, 110, 99, 111, 100, 101], [104], true) from by decide] at CC
  unfold str at CC
  have hix := idxArr #[.string { data := #[102, 101, 101, 100, 32, 107] }, .string { data := #[110, 101, 119, 32] }, .string { data := #[103, 101, 116, 32, 104, 107] }, .string { data := #[112, 117, 116, 32, 104, 107, 118] }, .string { data := #[100, 101, 108, 101, 116, 101, 32, 104, 107] }, .string { data := #[108, 101, 110, 32, 104] }, .string { data := #[101, 113, 117, 97, 108, 32, 104, 103] }, .string { data := #[109, 101, 114, 103, 101, 32, 104, 103, 110] }, .string { data := #[116, 104, 114, 101, 101, 32, 110, 104, 103] }, .string { data := #[100, 105, 102, 102, 32, 104, 103] }, .string { data := #[114, 97, 110, 103, 101, 32, 104, 102, 101, 110, 109] }, .string { data := #[98, 97, 99, 107, 32, 104, 102, 101, 110, 109] }, .string { data := #[114, 97, 110, 107, 32, 104, 107] }, .string { data := #[115, 101, 108, 101, 99, 116, 32, 104, 110] }, .string { data := #[109, 105, 110, 32, 104] }, .string { data := #[109, 97, 120, 32, 104] }, .string { data := #[101, 110, 99, 111, 100, 101, 32, 104] }, .string { data := #[100, 101, 99, 111, 100, 101, 32, 107] }, .string { data := #[100, 114, 111, 112, 32, 104] }, .string { data := #[104, 97, 110, 100, 108, 101, 115, 32] }] 16 _ (by decide) (by decide) rfl
  go_enter Tryz.func226, Tryz.ntmps226
  go_wp2_with (go_at_call 149; ((with_reducible refine (CC.out).mono ?_)); rintro e w1 ⟨rfl, n, rfl⟩)
  go_ret2
  exact ⟨rfl, n, rfl⟩
set_option maxHeartbeats 2000000 in
set_option maxRecDepth 100000 in
theorem form18 : FormSaid 18 ([100, 101, 99, 111, 100, 101], [107]) := by
  intro w hm
  have CC := Lib.hid (cutStr w hm [100, 101, 99, 111, 100, 101, 32, 107] [32] (by decide))
  rw [show Lib.cut ([100, 101, 99, 111, 100, 101, 32, 107] : List UInt8) [32] = ([100, 101, 99, 111, 100, 101], [107], true) from by decide] at CC
  unfold str at CC
  have hix := idxArr #[.string { data := #[102, 101, 101, 100, 32, 107] }, .string { data := #[110, 101, 119, 32] }, .string { data := #[103, 101, 116, 32, 104, 107] }, .string { data := #[112, 117, 116, 32, 104, 107, 118] }, .string { data := #[100, 101, 108, 101, 116, 101, 32, 104, 107] }, .string { data := #[108, 101, 110, 32, 104] }, .string { data := #[101, 113, 117, 97, 108, 32, 104, 103] }, .string { data := #[109, 101, 114, 103, 101, 32, 104, 103, 110] }, .string { data := #[116, 104, 114, 101, 101, 32, 110, 104, 103] }, .string { data := #[100, 105, 102, 102, 32, 104, 103] }, .string { data := #[114, 97, 110, 103, 101, 32, 104, 102, 101, 110, 109] }, .string { data := #[98, 97, 99, 107, 32, 104, 102, 101, 110, 109] }, .string { data := #[114, 97, 110, 107, 32, 104, 107] }, .string { data := #[115, 101, 108, 101, 99, 116, 32, 104, 110] }, .string { data := #[109, 105, 110, 32, 104] }, .string { data := #[109, 97, 120, 32, 104] }, .string { data := #[101, 110, 99, 111, 100, 101, 32, 104] }, .string { data := #[100, 101, 99, 111, 100, 101, 32, 107] }, .string { data := #[100, 114, 111, 112, 32, 104] }, .string { data := #[104, 97, 110, 100, 108, 101, 115, 32] }] 17 _ (by decide) (by decide) rfl
  go_enter Tryz.func226, Tryz.ntmps226
  go_wp2_with (go_at_call 149; ((with_reducible refine (CC.out).mono ?_)); rintro e w1 ⟨rfl, n, rfl⟩)
  go_ret2
  exact ⟨rfl, n, rfl⟩
set_option maxHeartbeats 2000000 in
set_option maxRecDepth 100000 in
theorem form19 : FormSaid 19 ([100, 114, 111, 112], [104]) := by
  intro w hm
  have CC := Lib.hid (cutStr w hm [100, 114, 111, 112, 32, 104] [32] (by decide))
  rw [show Lib.cut ([100, 114, 111, 112, 32, 104] : List UInt8) [32] = ([100, 114, 111, 112], [104], true) from by decide] at CC
  unfold str at CC
  have hix := idxArr #[.string { data := #[102, 101, 101, 100, 32, 107] }, .string { data := #[110, 101, 119, 32] }, .string { data := #[103, 101, 116, 32, 104, 107] }, .string { data := #[112, 117, 116, 32, 104, 107, 118] }, .string { data := #[100, 101, 108, 101, 116, 101, 32, 104, 107] }, .string { data := #[108, 101, 110, 32, 104] }, .string { data := #[101, 113, 117, 97, 108, 32, 104, 103] }, .string { data := #[109, 101, 114, 103, 101, 32, 104, 103, 110] }, .string { data := #[116, 104, 114, 101, 101, 32, 110, 104, 103] }, .string { data := #[100, 105, 102, 102, 32, 104, 103] }, .string { data := #[114, 97, 110, 103, 101, 32, 104, 102, 101, 110, 109] }, .string { data := #[98, 97, 99, 107, 32, 104, 102, 101, 110, 109] }, .string { data := #[114, 97, 110, 107, 32, 104, 107] }, .string { data := #[115, 101, 108, 101, 99, 116, 32, 104, 110] }, .string { data := #[109, 105, 110, 32, 104] }, .string { data := #[109, 97, 120, 32, 104] }, .string { data := #[101, 110, 99, 111, 100, 101, 32, 104] }, .string { data := #[100, 101, 99, 111, 100, 101, 32, 107] }, .string { data := #[100, 114, 111, 112, 32, 104] }, .string { data := #[104, 97, 110, 100, 108, 101, 115, 32] }] 18 _ (by decide) (by decide) rfl
  go_enter Tryz.func226, Tryz.ntmps226
  go_wp2_with (go_at_call 149; ((with_reducible refine (CC.out).mono ?_)); rintro e w1 ⟨rfl, n, rfl⟩)
  go_ret2
  exact ⟨rfl, n, rfl⟩
set_option maxHeartbeats 2000000 in
set_option maxRecDepth 100000 in
theorem form20 : FormSaid 20 ([104, 97, 110, 100, 108, 101, 115], []) := by
  intro w hm
  have CC := Lib.hid (cutStr w hm [104, 97, 110, 100, 108, 101, 115, 32] [32] (by decide))
  rw [show Lib.cut ([104, 97, 110, 100, 108, 101, 115, 32] : List UInt8) [32] = ([104, 97, 110, 100, 108, 101, 115], [], true) from by decide] at CC
  unfold str at CC
  have hix := idxArr #[.string { data := #[102, 101, 101, 100, 32, 107] }, .string { data := #[110, 101, 119, 32] }, .string { data := #[103, 101, 116, 32, 104, 107] }, .string { data := #[112, 117, 116, 32, 104, 107, 118] }, .string { data := #[100, 101, 108, 101, 116, 101, 32, 104, 107] }, .string { data := #[108, 101, 110, 32, 104] }, .string { data := #[101, 113, 117, 97, 108, 32, 104, 103] }, .string { data := #[109, 101, 114, 103, 101, 32, 104, 103, 110] }, .string { data := #[116, 104, 114, 101, 101, 32, 110, 104, 103] }, .string { data := #[100, 105, 102, 102, 32, 104, 103] }, .string { data := #[114, 97, 110, 103, 101, 32, 104, 102, 101, 110, 109] }, .string { data := #[98, 97, 99, 107, 32, 104, 102, 101, 110, 109] }, .string { data := #[114, 97, 110, 107, 32, 104, 107] }, .string { data := #[115, 101, 108, 101, 99, 116, 32, 104, 110] }, .string { data := #[109, 105, 110, 32, 104] }, .string { data := #[109, 97, 120, 32, 104] }, .string { data := #[101, 110, 99, 111, 100, 101, 32, 104] }, .string { data := #[100, 101, 99, 111, 100, 101, 32, 107] }, .string { data := #[100, 114, 111, 112, 32, 104] }, .string { data := #[104, 97, 110, 100, 108, 101, 115, 32] }] 19 _ (by decide) (by decide) rfl
  go_enter Tryz.func226, Tryz.ntmps226
  go_wp2_with (go_at_call 149; ((with_reducible refine (CC.out).mono ?_)); rintro e w1 ⟨rfl, n, rfl⟩)
  go_ret2
  exact ⟨rfl, n, rfl⟩
theorem formAt (k : Nat) (h1 : 1 ≤ k) (h2 : k ≤ 20) : FormSaid (k : Int) (formM k) := by
  obtain ⟨j, rfl⟩ : ∃ j, k = j + 1 := ⟨k - 1, by omega⟩
  match j, h2 with
  | 0, _ => exact form1
  | 1, _ => exact form2
  | 2, _ => exact form3
  | 3, _ => exact form4
  | 4, _ => exact form5
  | 5, _ => exact form6
  | 6, _ => exact form7
  | 7, _ => exact form8
  | 8, _ => exact form9
  | 9, _ => exact form10
  | 10, _ => exact form11
  | 11, _ => exact form12
  | 12, _ => exact form13
  | 13, _ => exact form14
  | 14, _ => exact form15
  | 15, _ => exact form16
  | 16, _ => exact form17
  | 17, _ => exact form18
  | 18, _ => exact form19
  | 19, _ => exact form20
  | n + 20, h => omega
end Go.Proofs.YtmbiiemlepfoaaaGreatDoor
