/- How many bits a number has: plain numbers, no program. -/
import Derived.Lib.BitFns
import Derived.Lib.ItoaNum
namespace Go.Proofs.Ytdiliajpcgfpoaa

def blen (x : Nat) : Nat := if x = 0 then 0 else x.log2 + 1
theorem blen_zero : blen 0 = 0 := rfl
theorem blen_eq {x k : Nat} (h1 : 2 ^ k ≤ x) (h2 : x < 2 ^ (k + 1)) : blen x = k + 1 := by
  have hx : x ≠ 0 := by have := Nat.two_pow_pos k; omega
  unfold blen
  rw [if_neg hx, (Nat.log2_eq_iff hx).2 ⟨h1, h2⟩]
theorem blen_bounds {x : Nat} (hx : x ≠ 0) : 1 ≤ blen x ∧ 2 ^ (blen x - 1) ≤ x ∧ x < 2 ^ blen x := by
  unfold blen
  rw [if_neg hx]
  exact ⟨by omega, Nat.log2_self_le hx, Nat.lt_log2_self⟩
theorem blen_lt (x : Nat) : x < 2 ^ blen x := by
  by_cases hx : x = 0
  · subst hx; exact Nat.one_pos
  · exact (blen_bounds hx).2.2
theorem blen_unique {x k : Nat} (hk : 1 ≤ k) (h1 : 2 ^ (k - 1) ≤ x) (h2 : x < 2 ^ k) : blen x = k := by
  have := blen_eq (x := x) (k := k - 1) h1 (by rw [Nat.sub_add_cancel hk]; exact h2)
  omega
theorem blen_le {x k : Nat} (h : x < 2 ^ k) : blen x ≤ k := by
  by_cases hx : x = 0
  · subst hx; exact Nat.zero_le _
  · obtain ⟨h1, h2, _⟩ := blen_bounds hx
    have : blen x - 1 < k := (Nat.pow_lt_pow_iff_right (by omega : 1 < 2)).1 (Nat.lt_of_le_of_lt h2 h)
    omega
theorem blen_ge {x k : Nat} (h : 2 ^ k ≤ x) : k + 1 ≤ blen x := by
  have := Nat.lt_of_le_of_lt h (blen_lt x)
  have := (Nat.pow_lt_pow_iff_right (by omega : 1 < 2)).1 this
  omega
theorem blen_mono {x y : Nat} (h : x ≤ y) : blen x ≤ blen y := blen_le (Nat.lt_of_le_of_lt h (blen_lt y))
theorem blen_half {x : Nat} (hx : x ≠ 0) : blen x = 1 + blen (x / 2) := by
  by_cases h1 : x / 2 = 0
  · have : x = 1 := by omega
    subst this
    rfl
  · obtain ⟨b1, b2, b3⟩ := blen_bounds h1
    have e1 : 2 ^ (1 + blen (x / 2)) = 2 * 2 ^ blen (x / 2) := by rw [Nat.pow_add]
    have e2 : 2 ^ (1 + blen (x / 2) - 1) = 2 * 2 ^ (blen (x / 2) - 1) := by
      rw [show 1 + blen (x / 2) - 1 = 1 + (blen (x / 2) - 1) from by omega, Nat.pow_add]
    exact blen_unique (by omega) (by rw [e2]; omega) (by rw [e1]; omega)
/-- Digits: what stands above k bits. -/
theorem blen_high {hi lo k : Nat} (hlo : lo < 2 ^ k) (hh : hi ≠ 0) : blen (2 ^ k * hi + lo) = k + blen hi := by
  obtain ⟨b1, b2, b3⟩ := blen_bounds hh
  refine blen_unique (by omega) ?_ ?_
  · rw [show k + blen hi - 1 = k + (blen hi - 1) from by omega, Nat.pow_add]
    have := Nat.mul_le_mul_left (2 ^ k) b2
    omega
  · rw [Nat.pow_add]
    have : 2 ^ k * (hi + 1) ≤ 2 ^ k * 2 ^ blen hi := Nat.mul_le_mul_left _ b3
    rw [Nat.mul_add] at this
    omega
theorem bitLen_blen (x : Nat) (h : x < 18446744073709551616) : Lib.bitLen x = blen x := by
  by_cases hx : x = 0
  · subst hx; rfl
  · obtain ⟨b1, b2, b3⟩ := Lib.bitLenAux_bounds 64 x h hx
    exact (blen_unique b1 b2 b3).symm

/-- The number that digits to the base 65536 make, the lowest first. -/
def val : List Nat → Nat
  | [] => 0
  | d :: r => d + 65536 * val r
theorem val_append : ∀ (a b : List Nat), val (a ++ b) = val a + 65536 ^ a.length * val b
  | [], b => by simp [val]
  | d :: a, b => by
    rw [List.cons_append, val, val_append a b, val, List.length_cons, Nat.pow_succ, Nat.mul_add]
    rw [show 65536 * (65536 ^ a.length * val b) = 65536 ^ a.length * 65536 * val b from by rw [← Nat.mul_assoc, Nat.mul_comm 65536]]
    omega
theorem val_lt : ∀ (a : List Nat), (∀ d ∈ a, d < 65536) → val a < 65536 ^ a.length
  | [], _ => by simp [val]
  | d :: a, h => by
    have h1 := h d (List.mem_cons_self ..)
    have h2 := val_lt a fun x hx => h x (List.mem_cons_of_mem _ hx)
    rw [val, List.length_cons, Nat.pow_succ]
    have : (val a + 1) * 65536 ≤ 65536 ^ a.length * 65536 := Nat.mul_le_mul_right _ h2
    omega
theorem pow_base (i : Nat) : 65536 ^ i = 2 ^ (16 * i) := by rw [Nat.pow_mul]
theorem val_take_succ {D : List Nat} {i : Nat} (h : i < D.length) : val (D.take (i + 1)) = 65536 ^ i * D[i] + val (D.take i) := by
  rw [List.take_succ_eq_append_getElem h, val_append, List.length_take, Nat.min_eq_left (by omega)]
  simp [val]
  omega
theorem blen_take {D : List Nat} (hd : ∀ d ∈ D, d < 65536) {i : Nat} (h : i < D.length) (hz : D[i] ≠ 0) : blen (val (D.take (i + 1))) = 16 * i + blen D[i] := by
  rw [val_take_succ h, pow_base]
  refine blen_high ?_ hz
  have := val_lt (D.take i) fun d hx => hd d (List.mem_of_mem_take hx)
  rw [List.length_take, Nat.min_eq_left (by omega), pow_base] at this
  exact this
theorem val_take_zero {D : List Nat} {i : Nat} (h : i < D.length) (hz : D[i] = 0) : val (D.take (i + 1)) = val (D.take i) := by
  rw [val_take_succ h, hz]
  omega
end Go.Proofs.Ytdiliajpcgfpoaa
