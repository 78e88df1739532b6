/- The walk of the frame laws' awake. -/
import Derived.Test.YtdiliajpcgfpoaaFrRef
import Derived.Test.YtdiliajpcgfpoaaRdText
namespace Go.Proofs.Ytdiliajpcgfpoaa
open Go.RowKit

theorem dec_awake : dec [128, 5] = (0, 0, 2) := by decide
theorem enc_300 : enc 300 = [130, 44] := by
  unfold enc
  rw [encP_pos (by decide), show 300 / 128 / 128 = 0 from rfl, encP_zero]
  rfl
theorem enc_0 : enc 0 = [0] := by
  unfold enc
  rw [show 0 / 128 = 0 from rfl, encP_zero]
  rfl
theorem NumR.isB {w w' : World} {q : Option Addr} {d : Nat} {l : List UInt8} (h : NumR w w' q d l) : IsB w' q d l := IsB.own h.own
theorem NumR.str {w w' : World} {q : Option Addr} {d : Nat} {l : List UInt8} (h : NumR w w' q d l) : (Go.convert 23 9 (.slice q l.length d)).run Try.prog w' = .ok (.string (str l)) w' :=
  h.isB.convert (P := Try.prog) Try.underlying23 Try.underlying5 Try.underlying9

set_option maxHeartbeats 1000000 in
set_option maxRecDepth 100000 in
theorem awake (w : World) : Calls Try.prog 10 #[] w fun e w' => e = .returned (.bool true) ∧ Below w.heap.size w w' := by
  have h1 := newReader _ (IsB.lit w [128, 5] 5 (0, 0) (by unfold maxLen; decide)) (by decide)
  change Calls Try.prog 12 #[.slice (some ⟨w.heap.size, 0, none⟩) 2 2] (w.alloc (.cells #[.int .u8 128, .int .u8 5] 5)) (fun e w' => ∃ g, e = .returned (.pointer (some ⟨g, 0, none⟩)) ∧ NewR (w.alloc (.cells #[.int .u8 128, .int .u8 5] 5)) w' g [128, 5]) at h1
  have H1 := Lib.hid h1
  have H300 := fun w => Lib.hid (frNumber w 300 (by omega))
  have H0 := fun w => Lib.hid (frNumber w 0 (by omega))
  rw [enc_300] at H300
  rw [enc_0] at H0
  clear h1
  go_enter Try.func10, Try.ntmps10
  go_wp2_with fail
  refine H1.out.mono ?_
  rintro e w1 ⟨g, rfl, hge, hrd, hbel⟩
  have RD1 := Lib.hid hrd
  have B1 : Hid (Below w.heap.size w w1) := ((Below.refl _ w).alloc (Nat.le_refl _) _).trans (hbel.mono (by simp))
  clear hrd hbel
  go_wp2_with fail
  refine (H300 _).out.mono ?_
  rintro e w2 ⟨q, d, rfl, hn⟩
  have k2 : Sem.run Try.prog (convert 23 9 (.slice q 2 d)) w2 = .ok (.string ⟨#[130, 44]⟩) w2 := hn.str
  have RD2 := Lib.hid (RD1.out.below hn.below)
  have B2 : Hid (Below w.heap.size w w2) := B1.out.trans (hn.below.mono B1.out.size)
  clear hn
  go_wp2_with fail
  refine (H0 _).out.mono ?_
  rintro e w3 ⟨q3, d3, rfl, hn⟩
  have k3 : Sem.run Try.prog (convert 23 9 (.slice q3 1 d3)) w3 = .ok (.string ⟨#[0]⟩) w3 := hn.str
  have hrd3 := RD2.out.below hn.below
  have B3 : Hid (Below w.heap.size w w3) := B2.out.trans (hn.below.mono B2.out.size)
  have HN := Lib.hid (rdNumber _ hrd3)
  have hop : numOp [128, 5] 0 = (0, [128, 5], 2) := by unfold numOp; rw [dec_awake]; rfl
  rw [hop] at HN
  have hlt := hrd3.lt
  have RD3 := Lib.hid hrd3
  clear hn hrd3
  go_wp2_with fail
  refine HN.out.mono ?_
  rintro e w4 ⟨rfl, hrd, hgr⟩
  have HE := Lib.hid (rdErr _ hrd)
  have B4 : Hid (Below w.heap.size w w4) := B3.out.trans (below_grown hgr (by simp at hge; omega) B3.out.size)
  clear hrd hgr
  go_wp2_with fail
  refine HE.out.mono ?_
  rintro e w5 ⟨rfl, rfl⟩
  go_wp2
  go_ret
  exact ⟨rfl, B4.out⟩
end Go.Proofs.Ytdiliajpcgfpoaa
