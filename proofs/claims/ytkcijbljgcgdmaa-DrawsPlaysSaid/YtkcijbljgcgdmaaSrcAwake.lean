/- The walk of the draws laws' awake. -/
import Derived.Test.YtkcijbljgcgdmaaSrcSeed
namespace Go.Proofs.Ytkcijbljgcgdmaa
open Go.RowKit

def awk : List UInt8 := [48, 49, 50, 51, 52, 53, 54, 55, 56, 57, 97, 98, 99, 100, 101, 102, 103]
def awk16 : List UInt8 := [48, 49, 50, 51, 52, 53, 54, 55, 56, 57, 97, 98, 99, 100, 101, 102]
theorem conv1 (w : World) (C : Array Value) (n c : Nat) : (convert 22 22 (.slice (some ⟨w.heap.size, 0, none⟩) n c)).run Try.prog (w.alloc (.cells C 5)) =
    .ok (.slice (some ⟨w.heap.size, 0, none⟩) n c) (w.alloc (.cells C 5 (C.size, C.size + 1))) :=
  Lib.run_convert_bytes_const (P := Try.prog) w 22 5 C n c Try.underlying22 Try.underlying5
theorem conv_of {w : World} {p : Option Addr} {c : Nat} {l : List UInt8} (h : IsB w p c l) : (Go.convert 22 9 (.slice p l.length c)).run Try.prog w = .ok (.string (str l)) w :=
  h.convert (P := Try.prog) Try.underlying22 Try.underlying5 Try.underlying9

theorem Src.inS {w : World} {S : Nat → Prop} {g : Nat} {l : List UInt8} {t : Nat} (h : Src w S g l t) : S g := by
  obtain ⟨_, _, _, _, h, _⟩ := h; exact h

set_option maxHeartbeats 1000000 in
set_option maxRecDepth 100000 in
theorem awake (w : World) : Calls Try.prog 6 #[] w fun e w' => e = .returned (.bool true) ∧ Below w.heap.size w w' := by
  have kc := conv1
  have h1 := IsB.lit w awk 5 (17, 18) (by unfold maxLen; decide)
  have hb := srcNew _ h1
  change Calls Try.prog 7 #[.slice (some ⟨w.heap.size, 0, none⟩) 17 17] (w.alloc (.cells #[.int .u8 48, .int .u8 49, .int .u8 50, .int .u8 51, .int .u8 52, .int .u8 53, .int .u8 54, .int .u8 55, .int .u8 56, .int .u8 57, .int .u8 97, .int .u8 98, .int .u8 99, .int .u8 100, .int .u8 101, .int .u8 102, .int .u8 103] 5 (17, 18))) (fun e w' => ∃ g, e = .returned (.pointer (some ⟨g, 0, none⟩)) ∧ NewS (w.alloc (.cells #[.int .u8 48, .int .u8 49, .int .u8 50, .int .u8 51, .int .u8 52, .int .u8 53, .int .u8 54, .int .u8 55, .int .u8 56, .int .u8 57, .int .u8 97, .int .u8 98, .int .u8 99, .int .u8 100, .int .u8 101, .int .u8 102, .int .u8 103] 5 (17, 18))) w' g awk) at hb
  have HB := Lib.hid hb
  clear h1 hb
  go_enter Try.func6, Try.ntmps6
  go_wp2_with fail
  refine HB.out.mono ?_
  rintro e w1 ⟨g, rfl, hnew⟩
  have S1 := Lib.hid hnew.src
  have B1 : Hid (Below w.heap.size w w1) := ((Below.refl _ w).alloc (Nat.le_refl _) _).trans (hnew.below.mono (by simp))
  clear hnew HB
  have hseed := srcSeed w1 S1.out (by decide) (by decide)
  change Calls Try.prog 10 #[.pointer (some ⟨g, 0, none⟩)] w1 (fun e w' => e = .returned (.tuple #[.agg #[.int .u8 48, .int .u8 49, .int .u8 50, .int .u8 51, .int .u8 52, .int .u8 53, .int .u8 54, .int .u8 55, .int .u8 56, .int .u8 57, .int .u8 97, .int .u8 98, .int .u8 99, .int .u8 100, .int .u8 101, .int .u8 102], .int .i64 0]) ∧ SeedS w1 w' _ g awk 0) at hseed
  have HSEED := Lib.hid hseed
  clear hseed
  go_wp2_with fail
  refine HSEED.out.mono ?_
  rintro e w2 ⟨rfl, hs⟩
  have S2 : Hid (Src w2 (fun k => w.heap.size ≤ k) g [103] 1) := hs.src.mono fun k _ hk => by simp at hk; omega
  have B2 : Hid (Below w.heap.size w w2) := B1.out.trans (hs.kept.to_below (fun k hk => by subst hk; exact S2.out.inS) B1.out.size)
  clear hs HSEED S1
  go_wp2_with fail
  refine (srcDry _ (S2.out.below ?_) (by decide)).mono ?_
  · exact (Below.refl _ _).alloc (Nat.le_refl _) _
  rintro e w3 ⟨rfl, hb3⟩
  unfold zeroB
  have kx := conv_of (((IsB.lit w2 awk16 36 (0, 0) (by unfold maxLen; decide)).below hb3).alloc (.cells zeroB 36))
  change Sem.run Try.prog (convert 22 9 (.slice (some ⟨w2.heap.size, 0, none⟩) 16 16)) (w3.alloc (.cells #[.int .u8 0, .int .u8 0, .int .u8 0, .int .u8 0, .int .u8 0, .int .u8 0, .int .u8 0, .int .u8 0, .int .u8 0, .int .u8 0, .int .u8 0, .int .u8 0, .int .u8 0, .int .u8 0, .int .u8 0, .int .u8 0] 36)) = .ok (.string ⟨#[48, 49, 50, 51, 52, 53, 54, 55, 56, 57, 97, 98, 99, 100, 101, 102]⟩) (w3.alloc (.cells #[.int .u8 0, .int .u8 0, .int .u8 0, .int .u8 0, .int .u8 0, .int .u8 0, .int .u8 0, .int .u8 0, .int .u8 0, .int .u8 0, .int .u8 0, .int .u8 0, .int .u8 0, .int .u8 0, .int .u8 0, .int .u8 0] 36)) at kx
  have S4 : Hid (Src (w3.alloc (.cells #[.int .u8 0, .int .u8 0, .int .u8 0, .int .u8 0, .int .u8 0, .int .u8 0, .int .u8 0, .int .u8 0, .int .u8 0, .int .u8 0, .int .u8 0, .int .u8 0, .int .u8 0, .int .u8 0, .int .u8 0, .int .u8 0] 36)) (fun k => w.heap.size ≤ k) g [103] 1) := (S2.out.below ((Below.refl _ _).alloc (Nat.le_refl _) _)).below hb3 |>.below ((Below.refl _ _).alloc (Nat.le_refl _) _)
  have B4 : Hid (Below w.heap.size w (w3.alloc (.cells #[.int .u8 0, .int .u8 0, .int .u8 0, .int .u8 0, .int .u8 0, .int .u8 0, .int .u8 0, .int .u8 0, .int .u8 0, .int .u8 0, .int .u8 0, .int .u8 0, .int .u8 0, .int .u8 0, .int .u8 0, .int .u8 0] 36))) := ((B2.out.alloc B2.out.size _).trans (hb3.mono (by have := B2.out.size; simp; omega))).alloc (by have := B2.out.size; have := hb3.size; simp at this; omega) _
  clear hb3
  go_wp2_with (first
    | (go_at_call 11; refine (srcLeft _ S4.out).mono ?_; rintro e w' ⟨rfl, rfl⟩)
    | (go_at_call 12; refine (srcTaken _ S4.out).mono ?_; rintro e w' ⟨rfl, rfl⟩))
  go_ret
  exact ⟨rfl, B4.out⟩
end Go.Proofs.Ytkcijbljgcgdmaa
