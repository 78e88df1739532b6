/- The walk of the keys laws' awake. -/
import Derived.Test.YtnbjnioolcbmiaaCmp
import Derived.Test.YtnbjnioolcbmiaaPure
import Derived.Test.YtnbjnioolcbmiaaBehind
namespace Go.Proofs.Ytnbjnioolcbmiaa
open Go.RowKit

theorem conv1 (w : World) (C : Array Value) (n c : Nat) : (convert 22 22 (.slice (some ⟨w.heap.size, 0, none⟩) n c)).run Try.prog (w.alloc (.cells C 5)) =
    .ok (.slice (some ⟨w.heap.size, 0, none⟩) n c) (w.alloc (.cells C 5 (C.size, C.size + 1))) :=
  Lib.run_convert_bytes_const (P := Try.prog) w 22 5 C n c Try.underlying22 Try.underlying5
theorem conv2 (w : World) (o : Obj) (C : Array Value) (n c : Nat) : (convert 22 22 (.slice (some ⟨w.heap.size + 1, 0, none⟩) n c)).run Try.prog ((w.alloc o).alloc (.cells C 5)) =
    .ok (.slice (some ⟨w.heap.size + 1, 0, none⟩) n c) ((w.alloc o).alloc (.cells C 5 (C.size, C.size + 1))) := by
  have := conv1 (w.alloc o) C n c
  rwa [World.size_alloc] at this

set_option maxHeartbeats 1000000 in
set_option maxRecDepth 100000 in
theorem awake (w : World) : Calls Try.prog 9 #[] w fun e w' => e = .returned (.bool true) ∧ Below w.heap.size w w' := by
  have kc := conv1
  have kc2 := conv2
  have h1 := IsB.lit w [97, 255] 5 (2, 3) (by unfold maxLen; decide)
  have hb := behind _ h1 (by decide)
  change Calls Try.prog 14 #[.slice (some ⟨w.heap.size, 0, none⟩) 2 2] (w.alloc (.cells #[.int .u8 97, .int .u8 255] 5 (2, 3))) (fun e w' => ∃ v, e = .returned (.tuple #[v, .bool true]) ∧ BehindR (w.alloc (.cells #[.int .u8 97, .int .u8 255] 5 (2, 3))) w' v (some [98])) at hb
  have HB := Lib.hid hb
  clear h1 hb
  go_enter Try.func9, Try.ntmps9
  go_wp2_with fail
  refine HB.out.mono ?_
  rintro e w1 ⟨v, rfl, hown, hbel⟩
  obtain ⟨q, d, rfl⟩ := own_slice hown
  have hB := IsB.own (l := [98]) hown
  have hs := hbel.size
  have HBel := Lib.hid hbel
  have HIB := Lib.hid hB
  have k3 : ∀ o o', Sem.run Try.prog (convert 22 9 (.slice q 1 d)) ((w1.alloc o).alloc o') = .ok (.string ⟨#[98]⟩) ((w1.alloc o).alloc o') := fun o o' => ((hB.alloc o).alloc o').convert (P := Try.prog) Try.underlying22 Try.underlying5 Try.underlying9
  clear hbel hown hB
  go_wp2_with fail
  refine (keysCompare _ (l := [97]) (l' := [97, 0]) ((IsB.lit w1 [97] 5 (1, 2) (by unfold maxLen; decide)).alloc _) ?_).mono ?_
  · have := IsB.lit (w1.alloc (.cells #[.int .u8 97] 5 (1, 2))) [97, 0] 5 (2, 3) (by unfold maxLen; decide)
    rwa [World.size_alloc] at this
  rintro e w2 ⟨he, rfl⟩
  have hv : Lib.compareBytes [97] [97, 0] = -1 := rfl
  rw [hv] at he
  subst he
  clear hv
  go_wp2
  go_ret
  exact ⟨rfl, (((((Below.refl _ w).alloc (Nat.le_refl _) _).trans (HBel.out.mono (by simp))).alloc (by simp at hs; omega) _).alloc (by simp at hs ⊢; omega) _)⟩
end Go.Proofs.Ytnbjnioolcbmiaa
