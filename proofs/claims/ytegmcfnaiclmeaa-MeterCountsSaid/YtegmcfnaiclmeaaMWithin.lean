/- The walks of Meter.Within, MeterWithin. -/
import Derived.Test.YtegmcfnaiclmeaaMBound
import Derived.Deep.RegionHeld3
namespace Go.Proofs.Ytegmcfnaiclmeaa
open Go.RowKit

def withinB (v c : Int) (n : Int) : Bool := decide (v ≤ (boundN (held n) : Int)) && decide (c ≤ v)

set_option maxHeartbeats 1000000 in
theorem within_nil (w : World) (n : Int) : Calls Try.prog 10 #[.pointer none, .int .i64 n] w fun e w' => e = .returned (.bool true) ∧ ∃ k, w' = w.drewN k := by
  go_enter Try.func10, Try.ntmps10
  go_wp2_with fail
  go_quiet (fail)
  go_wp2
  go_ret
  exact ⟨rfl, _, rfl⟩

set_option maxHeartbeats 1000000 in
theorem within (w : World) (b : Nat) (v c : Int) (n : Int) (h0 : w.cell? ⟨b, 0, none⟩ = some (.int .i64 v)) (h1 : w.cell? ⟨b, 1, none⟩ = some (.int .i64 c)) :
    Calls Try.prog 10 #[.pointer (some ⟨b, 0, none⟩), .int .i64 n] w fun e w' => e = .returned (.bool (withinB v c n)) ∧ ∃ k, w' = w.drewN k := by
  have hb := fun k => meterBound (w.drewN k) n
  have hd : withinB v c n = (decide (v ≤ (boundN (held n) : Int)) && decide (c ≤ v)) := rfl
  generalize boundN (held n) = B at *
  have HB : Hid (∀ k, Calls Try.prog 6 #[.int .i64 n] (w.drewN k) fun e w' => e = .returned (.int .i64 (B : Int)) ∧ w' = w.drewN k) := fun k => (hb k).mono fun _ _ ⟨h, h'⟩ => ⟨h, h'.symm⟩
  have HD := Lib.hid hd
  clear hb hd
  by_cases hv : v ≤ (B : Int)
  · have gv : decide (v ≤ (B : Int)) = true := by simpa using hv
    go_enter Try.func10, Try.ntmps10
    go_wp2_with fail
    go_quiet ((go_at_call 6; exact Calls.quiet_of_same (HB.out _)))
    go_wp2
    go_ret
    exact ⟨by rw [HD.out, gv]; rfl, _, rfl⟩
  · have gv : decide (v ≤ (B : Int)) = false := by simpa using hv
    go_enter Try.func10, Try.ntmps10
    go_wp2_with fail
    go_quiet ((go_at_call 6; exact Calls.quiet_of_same (HB.out _)))
    go_wp2
    go_ret
    exact ⟨by rw [HD.out, gv]; rfl, _, rfl⟩

theorem keep_below {W w1 w2 : World} {g : Nat} {x y : Value} (hlt : g < W.heap.size) (h : w1.cell? ⟨g, 0, none⟩ = some x ∧ w1.cell? ⟨g, 1, none⟩ = some y ∧ Below W.heap.size W w1) (hb : Below w1.heap.size w1 w2) :
    w2.cell? ⟨g, 0, none⟩ = some x ∧ w2.cell? ⟨g, 1, none⟩ = some y ∧ Below W.heap.size W w2 :=
  have hs : g < w1.heap.size := Nat.lt_of_lt_of_le hlt h.2.2.size
  ⟨(hb.cell (p := ⟨g, 0, none⟩) hs).trans h.1, (hb.cell (p := ⟨g, 1, none⟩) hs).trans h.2.1, h.2.2.trans (hb.mono h.2.2.size)⟩
theorem keep_drew {W w1 : World} {g : Nat} {x y : Value} (h : w1.cell? ⟨g, 0, none⟩ = some x ∧ w1.cell? ⟨g, 1, none⟩ = some y ∧ Below W.heap.size W w1) :
    w1.drew.cell? ⟨g, 0, none⟩ = some x ∧ w1.drew.cell? ⟨g, 1, none⟩ = some y ∧ Below W.heap.size W w1.drew := ⟨h.1, h.2.1, h.2.2.drew⟩

set_option maxHeartbeats 2000000 in
set_option maxRecDepth 100000 in
theorem meterWithin_calls (w : World) (v c n : Int) : Calls Try.prog 4 #[.agg #[.int .i64 v, .int .i64 c], .int .i64 n] w fun e w' => e = .returned (.bool true) ∧ Below w.heap.size w w' := by
  obtain ⟨W, hW⟩ : ∃ W, w.alloc (.cells #[.int .i64 v, .int .i64 c] 26) = W := ⟨_, rfl⟩
  have hbel : Below w.heap.size w W := hW ▸ (Below.refl _ w).alloc (Nat.le_refl _) _
  have hlt : w.heap.size < W.heap.size := by rw [← hW]; simp
  have c0 : W.cell? ⟨w.heap.size, 0, none⟩ = some (.int .i64 v) := by rw [← hW]; simp
  have c1 : W.cell? ⟨w.heap.size, 1, none⟩ = some (.int .i64 c) := by rw [← hW]; simp
  have hh := fun W => refHeld W n
  have hb := fun W => refBound W (held n) (held_le n)
  have hwi := fun W => within W w.heap.size v c n
  have hd : withinB v c n = (decide (v ≤ (boundN (held n) : Int)) && decide (c ≤ v)) := rfl
  generalize boundN (held n) = B at *
  generalize held n = h at *
  have HH := Lib.hid hh
  have HBD := Lib.hid hb
  have HWI := Lib.hid hwi
  have hbk : ∀ W1 : World, (W1.cell? ⟨w.heap.size, 0, none⟩ = some (.int .i64 v) ∧ W1.cell? ⟨w.heap.size, 1, none⟩ = some (.int .i64 c) ∧ Below W.heap.size W W1) →
      Calls Try.prog 7 #[.int .i64 (h : Int)] W1 fun e w' => e = .returned (.int .i64 (B : Int)) ∧ w'.cell? ⟨w.heap.size, 0, none⟩ = some (.int .i64 v) ∧ w'.cell? ⟨w.heap.size, 1, none⟩ = some (.int .i64 c) ∧ Below W.heap.size W w' :=
    fun W1 hS => (hb W1).mono fun _ _ ⟨he, hb⟩ => ⟨he, keep_below hlt hS hb⟩
  have HBK := Lib.hid hbk
  have HD := Lib.hid hd
  have HW := Lib.hid hW
  have HBEL := Lib.hid hbel
  clear hh hb hwi hd hW hbel hbk
  by_cases hv : v ≤ (B : Int)
  · have gv : decide (v ≤ (B : Int)) = true := by simpa using hv
    go_enter Try.func4, Try.ntmps4
    go_wp2_with fail
    rw [HW.out]
    clear HW
    go_region_held3 (fun w' => w'.cell? ⟨w.heap.size, 0, none⟩ = some (.int .i64 v) ∧ w'.cell? ⟨w.heap.size, 1, none⟩ = some (.int .i64 c) ∧ Below W.heap.size W w')
      (first | assumption | exact ⟨c0, c1, Below.refl _ _⟩ | exact ⟨c0, c1, (Below.refl _ _).drew⟩ | exact keep_drew (by assumption) | exact keep_below hlt (by assumption) (by assumption))
      (first | (go_at_call 8; refine (HH.out _).mono ?_; rintro e w' ⟨rfl, rfl⟩) | (go_at_call 7; refine (HBD.out _).mono ?_; rintro e w' ⟨rfl, hb⟩))
    rename_i hS
    clear hb
    obtain ⟨W2, rfl⟩ : ∃ W2, W2 = w' := ⟨_, rfl⟩
    obtain ⟨s0, s1, hb2⟩ := hS
    have hw2 := HWI.out W2 s0 s1
    rw [HD.out, gv] at hw2
    have HW2 := Lib.hid hw2
    have HB2 : Hid (Below w.heap.size w W2) := HBEL.out.trans (hb2.mono HBEL.out.size)
    clear hw2 hb2 s0 s1
    go_wp2_with fail
    refine HW2.out.mono ?_
    rintro e w' ⟨rfl, k, rfl⟩
    go_wp2_with fail
    refine (mAwake _).mono ?_
    rintro e w' ⟨rfl, rfl⟩
    go_wp2
    go_ret
    exact ⟨rfl, below_drewN HB2.out _⟩
  · have gv : decide (v ≤ (B : Int)) = false := by simpa using hv
    go_enter Try.func4, Try.ntmps4
    go_wp2_with fail
    rw [HW.out]
    clear HW
    first
    | (go_region_with (first | (go_at_call 8; refine (HH.out _).mono ?_; rintro e w' ⟨rfl, rfl⟩) | (go_at_call 7; refine (HBK.out _ (by first | exact ⟨c0, c1, Below.refl _ _⟩ | exact ⟨c0, c1, (Below.refl _ _).drew⟩)).mono ?_; rintro e W2 ⟨rfl, s0, s1, hb2⟩)))
    | fail
    all_goals (
      have hw2 := HWI.out W2 s0 s1
      rw [HD.out, gv] at hw2
      have HW2 := Lib.hid hw2
      have HB2 : Hid (Below w.heap.size w W2) := HBEL.out.trans (hb2.mono HBEL.out.size)
      clear hw2 hb2 s0 s1
      go_wp2_with fail
      refine HW2.out.mono ?_
      rintro e w' ⟨rfl, k, rfl⟩
      go_wp2_with fail
      refine (mAwake _).mono ?_
      rintro e w' ⟨rfl, rfl⟩
      go_wp2
      go_ret
      exact ⟨rfl, below_drewN HB2.out _⟩)
end Go.Proofs.Ytegmcfnaiclmeaa
