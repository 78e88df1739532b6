/- The walk of the quote laws' awake. -/
import Derived.Test.YtgbdoccgdkifjaaDoorQuPars
namespace Go.Proofs.YtgbdoccgdkifjaaDoor
open Go.RowKit
set_option linter.unusedVariables false

theorem conv1 (w : World) (C : Array Value) (n c : Nat) : (convert 22 22 (.slice (some ⟨w.heap.size, 0, none⟩) n c)).run Tryd.prog (w.alloc (.cells C 5)) =
    .ok (.slice (some ⟨w.heap.size, 0, none⟩) n c) (w.alloc (.cells C 5 (C.size, C.size + 1))) :=
  Lib.run_convert_bytes_const (P := Tryd.prog) w 22 5 C n c Tryd.underlying22 Tryd.underlying5
theorem qt_awake : qt [97, 34, 255, 10] = [34, 97, 92, 34, 92, 120, 102, 102, 92, 117, 48, 48, 48, 97, 34] := by decide +kernel

set_option maxHeartbeats 1000000 in
set_option maxRecDepth 100000 in
theorem awake (w : World) (hT : Lib.Utf8Tabs 0 1 w) : Calls Tryd.prog 9 #[] w fun e w' => e = .returned (.bool true) ∧ Below w.heap.size w w' := by
  have kc := conv1
  have hb1 := (Below.refl w.heap.size w).alloc (Nat.le_refl _) (.cells #[.int .u8 97, .int .u8 34, .int .u8 255, .int .u8 10] 5 (4, 5))
  have h1 := printW _ (IsB.lit w [97, 34, 255, 10] 5 (4, 5) (by show 4 ≤ maxLen; unfold maxLen; decide)) (by decide) (Utf8Tabs_below hT hb1)
  rw [qt_awake] at h1
  change Calls Tryd.prog 10 #[.slice (some ⟨w.heap.size, 0, none⟩) 4 4] (w.alloc (.cells #[.int .u8 97, .int .u8 34, .int .u8 255, .int .u8 10] 5 (4, 5))) (fun e w' => e = .returned (.string ⟨#[34, 97, 92, 34, 92, 120, 102, 102, 92, 117, 48, 48, 48, 97, 34]⟩) ∧ Below (w.alloc (.cells #[.int .u8 97, .int .u8 34, .int .u8 255, .int .u8 10] 5 (4, 5))).heap.size (w.alloc (.cells #[.int .u8 97, .int .u8 34, .int .u8 255, .int .u8 10] 5 (4, 5))) w') at h1
  have H1 := Lib.hid h1
  have B1 := Lib.hid hb1
  clear h1 hT hb1
  go_enter Tryd.func9, Tryd.ntmps9
  go_wp2_with fail
  refine H1.out.mono ?_
  rintro e w1 ⟨rfl, hb⟩
  have B2 : Hid (Below w.heap.size w w1) := B1.out.trans (hb.mono B1.out.size)
  clear hb
  go_wp2
  go_ret
  exact ⟨rfl, B2.out⟩
end Go.Proofs.YtgbdoccgdkifjaaDoor
