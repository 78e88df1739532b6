/- The walk of DrawsFull. -/
import Derived.Test.YtkcijbljgcgdmaaSrcAwake
import Derived.OwnWalk
import Derived.Laws.OwnMore
namespace Go.Proofs.Ytkcijbljgcgdmaa
open Go.RowKit

theorem zeros_made (n : Nat) : (madeCells #[Value.int .u8 0] n).toList = (List.replicate n (0 : UInt8)).map bv := by
  rw [toList_madeCells_one, List.map_replicate]
  rfl
theorem left_val {w : World} {S : Nat → Prop} {g : Nat} {l : List UInt8} {t : Nat} (h : Src w S g l t) (n : Int) (hn : (l.length : Int) = n) : Calls Try.prog 11 #[.pointer (some ⟨g, 0, none⟩)] w fun en w' => en = .returned (.int .i64 n) ∧ w = w' := by
  subst hn; exact srcLeft w h
theorem zeros_of (n : Int) (h : 0 ≤ n) : ∃ l : List UInt8, (l.length : Int) = n ∧ l = List.replicate l.length 0 := by
  refine ⟨List.replicate n.toNat 0, by simp; omega, by simp⟩
theorem made_isB {w : World} {base : Nat} {q : Option Addr} {l : List UInt8} (hl : l = List.replicate l.length 0) (h : w.ownsRow base 5 1 (.slice q l.length l.length) l.length (madeCells #[Value.int .u8 0] l.length).toList) : IsB w q l.length l := by
  rw [zeros_made, ← hl] at h
  exact IsB.own h

set_option maxHeartbeats 1000000 in
set_option maxRecDepth 100000 in
theorem drawsFull_law (w : World) (n m : Int) (hn : (Lit.int .u8 n).wf = true) (hm : (Lit.int .u8 m).wf = true) :
    Calls Try.prog 5 #[.int .u8 n, .int .u8 m] w fun e w' => e = .returned (.bool true) ∧ Below w.heap.size w w' := by
  obtain ⟨i0, hi, hz0, hz1, hz2⟩ := info_parts info5
  have hn0 : 0 ≤ n ∧ n < 256 := by
    simp [Lit.wf, IntKind.min, IntKind.max, IntKind.signed, IntKind.bits] at hn
    omega
  have hm0 : 0 ≤ m ∧ m < 256 := by
    simp [Lit.wf, IntKind.min, IntKind.max, IntKind.signed, IntKind.bits] at hm
    omega
  obtain ⟨n0, n1⟩ := hn0
  obtain ⟨m0, m1⟩ := hm0
  obtain ⟨l, hl1, hl2⟩ := zeros_of (16777212 + n % 8) (by omega)
  obtain ⟨b, hb1, hb2⟩ := zeros_of (m % 8) (by omega)
  obtain ⟨L, hL⟩ : ∃ L, L = l.take 16777216 := ⟨_, rfl⟩
  have hmin : (if (16777216 : Int) < (l.length : Int) then (16777216 : Int) else (l.length : Int)) = (L.length : Int) := by rw [hL, List.length_take]; split <;> omega
  have hLl : L.length ≤ 16777216 := by rw [hL, List.length_take]; omega
  have hll : l.length < 16777220 := by omega
  have hbl : b.length < 8 := by omega
  have hl3 := hl1.symm
  have hb3 := hb1.symm
  have HL := Lib.hid hL
  have HL2 := Lib.hid hl2
  have HB2 := Lib.hid hb2
  have hz2' : i0.bytes ≤ 1 := by omega
  clear hL hl2 hb2 hl1 hb1 hn hm
  go_enter Try.func5, Try.ntmps5
  go_wp2_with (refine wpList_make_full _ rfl (.tmp 15) (.tmp 15) 22 rfl w.heap.size 5 i0 (.int .u8 0) 1 Try.underlying22 hi hz0 hz1 .i64 .i64 _ _ l.length rfl rfl ?ma ?mb ?mc ?md ?me ?_)
  case ma => first | rfl | exact hl3
  case mb => first | rfl | exact hl3
  case mc => rw [hz2]; omega
  case md => unfold maxLen; omega
  case me => exact Nat.le_refl _
  intro w1 hown hgr
  have I1 := Lib.hid (made_isB HL2.out hown)
  have B1 : Hid (Below w.heap.size w w1) := (Below.refl _ w).grown hgr (Nat.le_refl _) (fun _ h => by cases h)
  clear hown hgr
  go_wp2_with fail
  refine (srcNew _ I1.out).mono ?_
  rintro e w2 ⟨g, rfl, hnew⟩
  rw [← HL.out] at hnew
  have S2 := Lib.hid hnew.src
  have B2 : Hid (Below w.heap.size w w2) := B1.out.trans (hnew.below.mono B1.out.size)
  clear hnew
  go_wp2_with fail
  refine (left_val S2.out _ rfl).mono ?_
  rintro e w' ⟨rfl, rfl⟩
  by_cases hfit : L.length + b.length ≤ 16777216
  · have gf : ¬ (16777216 : Int) < (L.length : Int) + (b.length : Int) := by omega
    go_wp2_with fail
    refine (left_val S2.out _ rfl).mono ?_
    rintro e w' ⟨rfl, rfl⟩
    go_wp2_with fail
    refine (left_val S2.out _ rfl).mono ?_
    rintro e w' ⟨rfl, rfl⟩
    go_wp2_with (refine wpList_make_full _ rfl (.tmp 38) (.tmp 38) 22 rfl w2.heap.size 5 i0 (.int .u8 0) 1 Try.underlying22 hi hz0 hz1 .i64 .i64 _ _ b.length rfl rfl ?na ?nb ?nc ?nd ?ne ?_)
    case na => first | rfl | exact hb3
    case nb => first | rfl | exact hb3
    case nc => rw [hz2]; omega
    case nd => unfold maxLen; omega
    case ne => exact Nat.le_refl _
    intro w3 hown hgr
    have I3 := Lib.hid (made_isB HB2.out hown)
    have hb := (Below.refl w2.heap.size w2).grown hgr (Nat.le_refl _) (fun _ h => by cases h)
    have B3 : Hid (Below w.heap.size w w3) := B2.out.trans (hb.mono B2.out.size)
    have S3 := Lib.hid (S2.out.below hb)
    clear hown hgr hb
    go_wp2_with fail
    refine (srcFeed _ S3.out I3.out hfit).mono ?_
    rintro e w4 ⟨rfl, hfed⟩
    have HLEFT := Lib.hid (left_val hfed.src ((L.length : Int) + (b.length : Int)) (by simp))
    have B4 : Hid (Below w.heap.size w w4) := B3.out.trans (hfed.kept.to_below (fun k hk => by have := B1.out.size; omega) B3.out.size)
    clear hfed
    go_wp2_with fail
    refine HLEFT.out.mono ?_
    rintro e w' ⟨rfl, rfl⟩
    go_wp2_with fail
    refine (awake _).mono ?_
    rintro e w5 ⟨rfl, hb5⟩
    have B5 : Hid (Below w.heap.size w w5) := B4.out.trans (hb5.mono B4.out.size)
    clear hb5
    go_wp2
    go_ret
    exact ⟨rfl, B5.out⟩
  · have gf : (16777216 : Int) < (L.length : Int) + (b.length : Int) := by omega
    go_wp2_with fail
    refine (left_val S2.out _ rfl).mono ?_
    rintro e w' ⟨rfl, rfl⟩
    go_wp2_with fail
    refine (left_val S2.out _ rfl).mono ?_
    rintro e w' ⟨rfl, rfl⟩
    go_wp2_with (refine wpList_make_full _ rfl (.tmp 38) (.tmp 38) 22 rfl w2.heap.size 5 i0 (.int .u8 0) 1 Try.underlying22 hi hz0 hz1 .i64 .i64 _ _ b.length rfl rfl ?na ?nb ?nc ?nd ?ne ?_)
    case na => first | rfl | exact hb3
    case nb => first | rfl | exact hb3
    case nc => rw [hz2]; omega
    case nd => unfold maxLen; omega
    case ne => exact Nat.le_refl _
    intro w3 hown hgr
    have hb := (Below.refl w2.heap.size w2).grown hgr (Nat.le_refl _) (fun _ h => by cases h)
    have B3 : Hid (Below w.heap.size w w3) := B2.out.trans (hb.mono B2.out.size)
    have S3 := Lib.hid (S2.out.below hb)
    clear hown hgr hb
    go_wp2_with fail
    refine (srcFeedBig _ S3.out hLl (by omega)).mono ?_
    rintro e w' ⟨rfl, rfl⟩
    go_wp2_with fail
    refine (left_val S3.out _ rfl).mono ?_
    rintro e w' ⟨rfl, rfl⟩
    go_wp2_with fail
    refine (awake _).mono ?_
    rintro e w5 ⟨rfl, hb5⟩
    have B5 : Hid (Below w.heap.size w w5) := B3.out.trans (hb5.mono B3.out.size)
    clear hb5
    go_wp2
    go_ret
    exact ⟨rfl, B5.out⟩
end Go.Proofs.Ytkcijbljgcgdmaa
