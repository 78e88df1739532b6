/- The order of bytes: plain lists, no program. -/
import Derived.Lib.Bytealg
namespace Go.Proofs.Ytegmcfnaiclmeaa
open Go.Lib (compareBytes)

theorem cmp_self : ∀ a : List UInt8, compareBytes a a = 0
  | [] => rfl
  | x :: a => by unfold compareBytes; rw [if_neg (UInt8.lt_irrefl x), if_neg (UInt8.lt_irrefl x)]; exact cmp_self a

theorem cmp_swap : ∀ a b : List UInt8, compareBytes a b = -compareBytes b a
  | [], [] => rfl
  | [], _ :: _ => rfl
  | _ :: _, [] => rfl
  | x :: a, y :: b => by
    unfold compareBytes
    by_cases h1 : x < y
    · have h2 : ¬ y < x := UInt8.lt_asymm h1
      simp [h1, h2]
    · by_cases h2 : y < x
      · simp [h1, h2]
      · simp only [h1, h2, if_false]
        exact cmp_swap a b

theorem cmp_range : ∀ a b : List UInt8, compareBytes a b = -1 ∨ compareBytes a b = 0 ∨ compareBytes a b = 1
  | [], [] => .inr (.inl rfl)
  | [], _ :: _ => .inl rfl
  | _ :: _, [] => .inr (.inr rfl)
  | x :: a, y :: b => by
    unfold compareBytes
    by_cases h1 : x < y
    · simp [h1]
    · by_cases h2 : y < x
      · simp [h1, h2]
      · simp only [h1, h2, if_false]
        exact cmp_range a b

theorem cmp_zero : ∀ {a b : List UInt8}, compareBytes a b = 0 → a = b
  | [], [], _ => rfl
  | [], _ :: _, h => by simp [compareBytes] at h
  | _ :: _, [], h => by simp [compareBytes] at h
  | x :: a, y :: b, h => by
    unfold compareBytes at h
    by_cases h1 : x < y
    · simp [h1] at h
    · by_cases h2 : y < x
      · simp [h1, h2] at h
      · simp only [h1, h2, if_false] at h
        rw [cmp_zero h, UInt8.le_antisymm (UInt8.not_lt.1 h2) (UInt8.not_lt.1 h1)]

theorem cmp_trans : ∀ {a b c : List UInt8}, compareBytes a b ≤ 0 → compareBytes b c ≤ 0 → compareBytes a c ≤ 0
  | [], _, [], _, _ => by simp [compareBytes]
  | [], _, _ :: _, _, _ => by simp [compareBytes]
  | _ :: _, [], _, h, _ => by simp [compareBytes] at h
  | _ :: _, _ :: _, [], _, h => by simp [compareBytes] at h
  | x :: a, y :: b, z :: c, h, k => by
    unfold compareBytes at h k ⊢
    have t1 : x < y → y < z → x < z := UInt8.lt_trans
    by_cases h1 : x < y
    · by_cases k1 : y < z
      · simp [t1 h1 k1]
      · by_cases k2 : z < y
        · simp [k1, k2] at k
        · have : y = z := UInt8.le_antisymm (UInt8.not_lt.1 k2) (UInt8.not_lt.1 k1)
          subst this; simp [h1]
    · by_cases h2 : y < x
      · simp [h1, h2] at h
      · have e : x = y := UInt8.le_antisymm (UInt8.not_lt.1 h2) (UInt8.not_lt.1 h1)
        subst e
        simp only [h1, if_false] at h
        by_cases k1 : x < z
        · simp [k1]
        · by_cases k2 : z < x
          · simp [k1, k2] at k
          · simp only [k1, k2, if_false] at k ⊢
            exact cmp_trans h k

/-- Where the first i bytes are the same, what is behind them decides. -/
theorem cmp_drop : ∀ (i : Nat) {a b : List UInt8}, a.take i = b.take i → compareBytes a b = compareBytes (a.drop i) (b.drop i)
  | 0, _, _, _ => rfl
  | _ + 1, [], [], _ => rfl
  | _ + 1, [], _ :: _, h => by simp at h
  | _ + 1, _ :: _, [], h => by simp at h
  | i + 1, x :: a, y :: b, h => by
    simp only [List.take_succ_cons, List.cons.injEq] at h
    obtain ⟨rfl, h⟩ := h
    rw [List.drop_succ_cons, List.drop_succ_cons, ← cmp_drop i h]
    conv => lhs; unfold compareBytes
    rw [if_neg (UInt8.lt_irrefl x), if_neg (UInt8.lt_irrefl x)]

/-- Is a less than b? -/
def lessB (a b : List UInt8) : Bool := compareBytes a b == -1
theorem less_at {i : Nat} {a b : List UInt8} (h : a.take i = b.take i) (ha : i < a.length) (hb : i < b.length) (hne : a[i] ≠ b[i]) : lessB a b = decide (a[i] < b[i]) := by
  unfold lessB
  rw [cmp_drop i h, List.drop_eq_getElem_cons ha, List.drop_eq_getElem_cons hb]
  unfold compareBytes
  by_cases h1 : a[i] < b[i]
  · simp [h1]
  · have h2 : b[i] < a[i] := UInt8.lt_of_le_of_ne (UInt8.not_lt.1 h1) (Ne.symm hne)
    simp [h1, h2]
theorem less_end {i : Nat} {a b : List UInt8} (h : a.take i = b.take i) (he : i = a.length ∨ i = b.length) (ha : i ≤ a.length) (hb : i ≤ b.length) : lessB a b = decide (a.length < b.length) := by
  unfold lessB
  rw [cmp_drop i h]
  rcases he with rfl | rfl
  · rw [List.drop_length]
    rcases Nat.lt_or_ge a.length b.length with hlt | hge
    · rw [List.drop_eq_getElem_cons hlt]; simp [compareBytes, hlt]
    · rw [List.drop_eq_nil_of_le hge]; simp [compareBytes]; omega
  · rw [List.drop_length]
    rcases Nat.lt_or_ge b.length a.length with hlt | hge
    · rw [List.drop_eq_getElem_cons hlt]; simp [compareBytes]; omega
    · rw [List.drop_eq_nil_of_le hge]; simp [compareBytes]; omega
theorem take_more {i : Nat} {a b : List UInt8} (h : a.take i = b.take i) (ha : i < a.length) (hb : i < b.length) (he : a[i] = b[i]) : a.take (i + 1) = b.take (i + 1) := by
  rw [List.take_succ_eq_append_getElem ha, List.take_succ_eq_append_getElem hb, h, he]
end Go.Proofs.Ytegmcfnaiclmeaa
