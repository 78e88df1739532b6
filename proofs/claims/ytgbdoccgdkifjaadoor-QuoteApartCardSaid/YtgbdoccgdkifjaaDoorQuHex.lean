/- The walks of hex and stray. -/
import Derived.Test.YtgbdoccgdkifjaaDoorQuWrite
import Derived.Test.YtgbdoccgdkifjaaDoorQuParse
import Derived.Laws.BitsAllLaws
namespace Go.Proofs.YtgbdoccgdkifjaaDoor
open Go.RowKit
set_option linter.unusedVariables false

/-- The digits of a number. -/
def hx (n : Nat) : Nat → List UInt8
  | 0 => []
  | k + 1 => dig (n / 16 ^ k % 16) :: hx n k

theorem and15 (n m : Nat) (hn : n < 65536) : bits .and .u32 ((n : Int) / 2 ^ (4 * m)) 15 = ((n / 16 ^ m % 16 : Nat) : Int) := by
  have e1 : (2 : Nat) ^ (4 * m) = 16 ^ m := by rw [Nat.pow_mul]
  have e2 : ((n : Int) / 2 ^ (4 * m)) = ((n / 16 ^ m : Nat) : Int) := by rw [← e1]; simp
  have e3 : n / 16 ^ m < 4294967296 := Nat.lt_of_le_of_lt (Nat.div_le_self _ _) (by omega)
  rw [e2, show (15 : Int) = ((15 : Nat) : Int) from rfl, u32_and_nat _ _ e3 (by omega)]
  rw [show (15 : Nat) = 2 ^ 4 - 1 from rfl, Nat.and_two_pow_sub_one_eq_mod]
def digits : ByteArray := ⟨#[48, 49, 50, 51, 52, 53, 54, 55, 56, 57, 97, 98, 99, 100, 101, 102]⟩
theorem index_dig (W : World) (d : Nat) (hd : d < 16) : (Instr.index 9 (.string ⟨#[48, 49, 50, 51, 52, 53, 54, 55, 56, 57, 97, 98, 99, 100, 101, 102]⟩) (.int .u32 (d : Int))).run Tryd.prog W = .ok (.int .u8 ((dig d).toNat : Int)) W := by
  match d, hd with
  | 0, _ | 1, _ | 2, _ | 3, _ | 4, _ | 5, _ | 6, _ | 7, _ | 8, _ | 9, _ | 10, _ | 11, _ | 12, _ | 13, _ | 14, _ | 15, _ => rfl
  | k + 16, h => exact absurd h (by omega)

set_option maxHeartbeats 1000000 in
set_option maxRecDepth 100000 in
theorem hexW (w : World) {B b : Nat} {l : List UInt8} (h : Bd B b l w) (n k : Nat) (hn : n < 65536) (hk : k ≤ 4) (hl : l.length ≤ 900000) (hB : B ≤ w.heap.size) :
    Calls Tryd.prog 18 #[.pointer (some ⟨b, 0, none⟩), .int .u32 (n : Int), .int .i64 (k : Int)] w fun e w' => e = .returned (.tuple #[]) ∧ Wrote w w' B b (l ++ hx n k) := by
  have H : Hid (Wrote w w B b l) := ⟨h, Below.refl _ _, Lib.OthersKept.refl _ _ _⟩
  clear h
  go_enter Tryd.func18, Tryd.ntmps18
  go_wp2
  go_loopw [6] (fun v6 wr => ∃ (j : Nat) (A : List UInt8), v6 = .int .i64 ((j : Int) - 1) ∧ j ≤ k ∧ Hid (A ++ hx n j = hx n k) ∧ A.length ≤ 4 - j ∧ Wrote w wr B b (l ++ A)) (fun v6 _ => (intOf v6 + 1).toNat)
  case atStart => exact ⟨k, [], rfl, Nat.le_refl _, rfl, Nat.zero_le _, by rw [List.append_nil]; exact H.out⟩
  case round =>
    obtain ⟨j, A, rfl, hj, HA, hAl, hw⟩ := hrel
    cases j with
    | zero =>
      have HW := Lib.hid hw
      clear hw
      have e0 : ((0 : Nat) : Int) - 1 = -1 := rfl
      rw [e0]
      go_wp2
      go_end0
      refine ⟨rfl, ?_⟩
      have := HA.out
      rw [show hx n 0 = [] from rfl, List.append_nil] at this
      rw [← this]
      exact HW.out
    | succ m =>
      have e0 : ((m + 1 : Nat) : Int) - 1 = (m : Int) := by omega
      rw [e0]
      have HW := Lib.hid hw
      have hstep : (A ++ [dig (n / 16 ^ m % 16)]) ++ hx n m = hx n k := by
        rw [List.append_assoc]
        exact HA.out
      have HST := Lib.hid hstep
      obtain ⟨dd, hdd⟩ : ∃ dd, dd = n / 16 ^ m % 16 := ⟨_, rfl⟩
      have hlt : dd < 16 := by omega
      have hbits := and15 n m hn
      rw [← hdd] at hbits
      have hix := fun W => index_dig W dd hlt
      have HDD := Lib.hid hdd
      clear hw e0 hstep hdd
      go_wp2_with fail
      refine (wByte wr HW.out.bd (dig dd) (by rw [List.length_append]; omega) (by have := HW.out.below.size; omega)).mono ?_
      rintro e w2 ⟨rfl, h2⟩
      have HW2 := Lib.hid (HW.out.trans h2)
      clear h2 hbits hix
      go_wp2
      go_roundw
      case rel => exact ⟨m, A ++ [dig dd], rfl, by omega, by rw [HDD.out]; exact HST, by rw [List.length_append]; simp; omega, by rw [← List.append_assoc]; exact HW2.out⟩
      case measure => first | (simp [intOf]; done) | (simp [intOf]; omega)
end Go.Proofs.YtgbdoccgdkifjaaDoor
