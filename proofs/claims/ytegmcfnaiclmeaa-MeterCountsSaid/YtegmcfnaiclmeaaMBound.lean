/- The walks of meter.Bound, of the meter laws' awake. -/
import Derived.Test.YtegmcfnaiclmeaaBound
namespace Go.Proofs.Ytegmcfnaiclmeaa
open Go.RowKit

theorem cube_lt {h : Nat} (hh : h ≤ 1048576) : (h + 1) * (h + 1) ≤ 1099513724929 ∧ (h + 1) * (h + 1) * (h + 1) ≤ 1152924803145924609 := by
  have h1 : (h + 1) * (h + 1) ≤ 1048577 * 1048577 := Nat.mul_le_mul (by omega) (by omega)
  have h2 : (h + 1) * (h + 1) * (h + 1) ≤ 1048577 * 1048577 * 1048577 := Nat.mul_le_mul h1 (by omega)
  exact ⟨by omega, by omega⟩
theorem six (x : Nat) : x * x * x * (x * x * x) = x ^ 6 := by
  simp only [Nat.pow_succ, Nat.pow_zero, Nat.one_mul, Nat.mul_assoc]
theorem u64_nat (a : Nat) (h : a < 18446744073709551616) : IntKind.u64.wrap ((a : Nat) : Int) = (a : Int) := by
  simp [IntKind.wrap, IntKind.signed, IntKind.bits]
  omega

set_option maxHeartbeats 1000000 in
set_option maxRecDepth 100000 in
theorem meterBound (w : World) (n : Int) : Calls Try.prog 6 #[.int .i64 n] w fun e w' => e = .returned (.int .i64 (boundN (held n) : Int)) ∧ w = w' := by
  obtain ⟨h, hh⟩ : ∃ h, held n = h := ⟨_, rfl⟩
  have hle := held_le n
  rw [hh] at hle ⊢
  obtain ⟨c1, c2⟩ := cube_lt hle
  have hx1 : ((h : Int) + 1) * ((h : Int) + 1) = (((h + 1) * (h + 1) : Nat) : Int) := by rw [Int.natCast_mul]; rfl
  have hx2 : (((h + 1) * (h + 1) : Nat) : Int) * ((h : Int) + 1) = (((h + 1) * (h + 1) * (h + 1) : Nat) : Int) := by rw [Int.natCast_mul ((h + 1) * (h + 1))]; rfl
  have hsix := six (h + 1)
  have hb : boundN h = 16 + blen ((h + 1) ^ 6) := rfl
  rw [← hsix] at hb
  have hmm : min (max n 0) 1048576 = (h : Int) := by
    rw [← hh]
    unfold held
    split
    · omega
    · split <;> omega
  have hw1 : IntKind.u64.wrap (((h + 1) * (h + 1) : Nat) : Int) = (((h + 1) * (h + 1) : Nat) : Int) := u64_nat _ (by omega)
  have hw2 : IntKind.u64.wrap (((h + 1) * (h + 1) * (h + 1) : Nat) : Int) = (((h + 1) * (h + 1) * (h + 1) : Nat) : Int) := u64_nat _ (by omega)
  generalize (h + 1) * (h + 1) = s at *
  generalize s * (h + 1) = c at *
  have hmul := Try.bits_Mul64 c c (by omega) (by omega) w
  have hcc : c * c < 18446744073709551616 * 18446744073709551616 := Nat.lt_of_le_of_lt (Nat.mul_le_mul c2 c2) (by decide)
  have hsum : c * c = 2 ^ 64 * (c * c / 18446744073709551616) + c * c % 18446744073709551616 := (Nat.div_add_mod _ _).symm
  have hlo : c * c % 18446744073709551616 < 2 ^ 64 := Nat.mod_lt _ (by decide)
  have hhi : c * c / 18446744073709551616 < 18446744073709551616 := Nat.div_lt_of_lt_mul hcc
  have hbig : c * c / 18446744073709551616 ≠ 0 → boundN h = 16 + (64 + blen (c * c / 18446744073709551616)) := fun hz => by
    rw [hb]
    conv => lhs; rw [hsum]
    rw [blen_high hlo hz]
  have hsmall : c * c / 18446744073709551616 = 0 → boundN h = 16 + blen (c * c % 18446744073709551616) := fun hz => by
    rw [hb]
    conv => lhs; rw [hsum, hz, Nat.mul_zero, Nat.zero_add]
  generalize c * c / 18446744073709551616 = hi at *
  generalize c * c % 18446744073709551616 = lo at *
  have hlen1 := Try.bits_Len64 (hi : Int) w (by omega) (by omega)
  have hlen2 := Try.bits_Len64 (lo : Int) w (by omega) (by omega)
  rw [Int.toNat_natCast, bitLen_blen _ (by omega)] at hlen1 hlen2
  have bh := blen_le (x := hi) (k := 64) (by omega)
  have bl := blen_le (x := lo) (k := 64) (by omega)
  have HM := Lib.hid hmul
  have H1 := Lib.hid hlen1
  have H2 := Lib.hid hlen2
  have HBIG : Hid (hi ≠ 0 → boundN h = 16 + (64 + blen hi)) := hbig
  have HSM : Hid (hi = 0 → boundN h = 16 + blen lo) := hsmall
  generalize blen hi = a at *
  generalize blen lo = b at *
  clear hsix hb hh hmul hcc hsum hbig hsmall hlen1 hlen2 hlo hhi
  by_cases hz : hi = 0
  · have hfin := HSM.out hz
    have HF : Hid (((boundN h : Nat) : Int) = 17 + (b : Int) - 1) := by show ((boundN h : Nat) : Int) = _; rw [hfin]; omega
    subst hz
    clear hfin
    go_enter Try.func6, Try.ntmps6
    go_wp2_with fail
    refine HM.out.mono ?_
    rintro e w' ⟨rfl, hw⟩
    subst hw
    go_wp2_with fail
    refine H2.out.mono ?_
    rintro e w' ⟨rfl, hw⟩
    subst hw
    go_wp2
    go_ret
    exact ⟨by rw [HF.out]; rfl, rfl⟩
  · have hfin := HBIG.out hz
    have HF : Hid (((boundN h : Nat) : Int) = 81 + (a : Int) - 1) := by show ((boundN h : Nat) : Int) = _; rw [hfin]; omega
    have hpos : (0 : Int) < (hi : Int) := by omega
    clear hfin hz
    go_enter Try.func6, Try.ntmps6
    go_wp2_with fail
    refine HM.out.mono ?_
    rintro e w' ⟨rfl, hw⟩
    subst hw
    go_wp2_with fail
    refine H1.out.mono ?_
    rintro e w' ⟨rfl, hw⟩
    subst hw
    go_wp2
    go_ret
    exact ⟨by rw [HF.out]; rfl, rfl⟩

theorem held_0 : boundN (held 0) = 17 := by decide
theorem held_1 : boundN (held 1) = 23 := by
  have : blen ((held 1 + 1) ^ 6) = 7 := blen_eq (by decide) (by decide)
  unfold boundN; omega
theorem held_3 : boundN (held 3) = 29 := by
  have : blen ((held 3 + 1) ^ 6) = 13 := blen_eq (by decide) (by decide)
  unfold boundN; omega

set_option maxHeartbeats 400000 in
theorem mAwake (w : World) : Calls Try.prog 9 #[] w fun e w' => e = .returned (.bool true) ∧ w = w' := by
  have h0 := meterBound w 0
  have h1 := meterBound w 1
  have h3 := meterBound w 3
  rw [held_0] at h0
  rw [held_1] at h1
  rw [held_3] at h3
  have H0 := Lib.hid h0
  have H1 := Lib.hid h1
  have H3 := Lib.hid h3
  clear h0 h1 h3
  go_enter Try.func9, Try.ntmps9
  go_wp2_with fail
  refine H0.out.mono ?_
  rintro e w' ⟨rfl, rfl⟩
  go_wp2_with fail
  refine H1.out.mono ?_
  rintro e w' ⟨rfl, rfl⟩
  go_wp2_with fail
  refine H3.out.mono ?_
  rintro e w' ⟨rfl, rfl⟩
  go_wp2
  go_ret
  exact ⟨rfl, rfl⟩

theorem held_mono {a b : Int} (h : a ≤ b) : held a ≤ held b := by unfold held; split <;> split <;> (try split) <;> (try split) <;> omega
theorem bound_mono {a b : Nat} (h : a ≤ b) : boundN a ≤ boundN b := by
  unfold boundN
  have := blen_mono (Nat.pow_le_pow_left (show a + 1 ≤ b + 1 by omega) 6)
  omega

set_option maxHeartbeats 1000000 in
theorem meterBounds_calls (w : World) (n m : Int) : Calls Try.prog 3 #[.int .i64 n, .int .i64 m] w fun e w' => e = .returned (.bool true) ∧ Below w.heap.size w w' := by
  have hb1 := meterBound w n
  have hh := refHeld w n
  have hb2 := refBound w (held n) (held_le n)
  have hmin := fun W => meterBound W (min n m)
  have hmax := fun W => meterBound W (max n m)
  have hle : ((boundN (held (min n m)) : Nat) : Int) ≤ ((boundN (held (max n m)) : Nat) : Int) := Int.ofNat_le.2 (bound_mono (held_mono (by omega)))
  generalize boundN (held n) = x at *
  generalize boundN (held (min n m)) = y at *
  generalize boundN (held (max n m)) = z at *
  generalize held n = h at *
  have HB1 := Lib.hid hb1
  have HH := Lib.hid hh
  have HB2 := Lib.hid hb2
  have HMIN := Lib.hid hmin
  have HMAX := Lib.hid hmax
  clear hb1 hh hb2 hmin hmax
  go_enter Try.func3, Try.ntmps3
  go_wp2_with fail
  refine HB1.out.mono ?_
  rintro e w' ⟨rfl, rfl⟩
  go_wp2_with fail
  refine HH.out.mono ?_
  rintro e w' ⟨rfl, rfl⟩
  go_wp2_with fail
  refine HB2.out.mono ?_
  rintro e w2 ⟨rfl, hbel⟩
  have HBel : Hid (Below w.heap.size w w2) := hbel
  clear hbel
  go_wp2_with fail
  refine (HMIN.out w2).mono ?_
  rintro e w' ⟨rfl, rfl⟩
  go_wp2_with fail
  refine (HMAX.out w2).mono ?_
  rintro e w' ⟨rfl, rfl⟩
  go_wp2_with fail
  refine (mAwake w2).mono ?_
  rintro e w' ⟨rfl, rfl⟩
  go_wp2
  go_ret
  exact ⟨rfl, HBel.out⟩
end Go.Proofs.Ytegmcfnaiclmeaa
