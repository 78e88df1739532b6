/- Numbers as bytes: plain lists, no program. -/
import Derived.Test.YtdiliajpcgfpoaaBlen
import Derived.Lib.Bytealg
namespace Go.Proofs.Ytdiliajpcgfpoaa

def u8 (x : Nat) : UInt8 := UInt8.ofNat x
theorem u8_toNat {x : Nat} (h : x < 256) : (u8 x).toNat = x := by unfold u8; rw [UInt8.toNat_ofNat']; omega
theorem u8_back (c : UInt8) : u8 c.toNat = c := by unfold u8; simp

/-- The bytes ahead of the last. -/
def encP (m : Nat) : List UInt8 := if _h : m = 0 then [] else encP (m / 128) ++ [u8 (128 + m % 128)]
termination_by m
decreasing_by omega
theorem encP_zero : encP 0 = [] := by rw [encP]; rfl
theorem encP_pos {m : Nat} (h : m ≠ 0) : encP m = encP (m / 128) ++ [u8 (128 + m % 128)] := by
  conv => lhs; rw [encP]
  rw [dif_neg h]
/-- A number as it is written. -/
def enc (n : Nat) : List UInt8 := encP (n / 128) ++ [u8 (n % 128)]

/-- What is read: the number, how many bytes it has, the error's number. -/
def decGo : Nat → Nat → List UInt8 → Nat × Nat × Nat
  | _, _, [] => (0, 0, 3)
  | acc, k, c :: r => if 2 ^ 57 ≤ acc then (0, 0, 4) else if c.toNat < 128 then (acc * 128 + c.toNat % 128, k + 1, 0) else decGo (acc * 128 + c.toNat % 128) (k + 1) r
def dec (l : List UInt8) : Nat × Nat × Nat :=
  match l with
  | [] => (0, 0, 3)
  | c :: r => if c.toNat = 128 then (0, 0, 2) else decGo 0 0 (c :: r)

theorem decGo_encP : ∀ (m : Nat) (t : List UInt8), m < 2 ^ 57 → decGo 0 0 (encP m ++ t) = decGo m (encP m).length t := by
  intro m
  induction m using Nat.strongRecOn with
  | ind m ih =>
    intro t hm
    by_cases h : m = 0
    · subst h; rw [encP_zero]; rfl
    · rw [encP_pos h, List.append_assoc, ih (m / 128) (by omega) _ (by omega), List.singleton_append]
      conv => lhs; unfold decGo
      have e : (u8 (128 + m % 128)).toNat = 128 + m % 128 := u8_toNat (by omega)
      rw [if_neg (by omega), if_neg (by rw [e]; omega), List.length_append, e]
      have e2 : m / 128 * 128 + (128 + m % 128) % 128 = m := by omega
      rw [e2]
      rfl
theorem encP_head : ∀ (m : Nat), m ≠ 0 → ∃ d r, encP m = u8 (128 + d) :: r ∧ 0 < d ∧ d < 128 := by
  intro m
  induction m using Nat.strongRecOn with
  | ind m ih =>
    intro h
    rw [encP_pos h]
    by_cases h2 : m / 128 = 0
    · rw [h2, encP_zero]
      exact ⟨m % 128, [], rfl, by omega, by omega⟩
    · obtain ⟨d, r, e, h3, h4⟩ := ih (m / 128) (by omega) h2
      rw [e]
      exact ⟨d, _, rfl, h3, h4⟩
/-- WHAT IS WRITTEN IS READ. -/
theorem dec_enc (n : Nat) (hn : n < 2 ^ 64) (rest : List UInt8) : dec (enc n ++ rest) = (n, (enc n).length, 0) := by
  have hgo : decGo 0 0 (enc n ++ rest) = (n, (enc n).length, 0) := by
    unfold enc
    rw [List.append_assoc, decGo_encP _ _ (by omega), List.singleton_append]
    unfold decGo
    have e : (u8 (n % 128)).toNat = n % 128 := u8_toNat (by omega)
    rw [e, if_neg (by omega), if_pos (by omega), List.length_append]
    have e1 : n / 128 * 128 + n % 128 % 128 = n := by omega
    rw [e1]
    rfl
  have hhead : ∃ c r, enc n ++ rest = c :: r ∧ c.toNat ≠ 128 := by
    unfold enc
    by_cases h : n / 128 = 0
    · rw [h, encP_zero]
      exact ⟨_, _, rfl, by rw [u8_toNat (by omega)]; omega⟩
    · obtain ⟨d, r, e, h1, h2⟩ := encP_head _ h
      rw [e]
      exact ⟨_, _, rfl, by rw [u8_toNat (by omega)]; omega⟩
  obtain ⟨c, r, e, hc⟩ := hhead
  rw [e] at hgo ⊢
  show (if c.toNat = 128 then (0, 0, 2) else decGo 0 0 (c :: r)) = _
  rw [if_neg hc, hgo]

theorem encP_snoc {acc d : Nat} (hd : d < 128) (h : acc ≠ 0 ∨ d ≠ 0) : encP (acc * 128 + d) = encP acc ++ [u8 (128 + d)] := by
  rw [encP_pos (by omega)]
  have e1 : (acc * 128 + d) / 128 = acc := by omega
  have e2 : (acc * 128 + d) % 128 = d := by omega
  rw [e1, e2]
theorem decGo_back : ∀ (l : List UInt8) (acc k : Nat) (n u : Nat), decGo acc k l = (n, u, 0) → (acc ≠ 0 ∨ ∀ c r, l = c :: r → c.toNat ≠ 128) →
    k < u ∧ u - k ≤ l.length ∧ encP acc ++ l.take (u - k) = enc n ∧ n < 2 ^ 64
  | [], _, _, _, _, h, _ => by simp [decGo] at h
  | c :: r, acc, k, n, u, h, hne => by
    unfold decGo at h
    by_cases h1 : 2 ^ 57 ≤ acc
    · rw [if_pos h1] at h; simp at h
    · rw [if_neg h1] at h
      have hc := c.toNat_lt
      by_cases h2 : c.toNat < 128
      · rw [if_pos h2] at h
        simp only [Prod.mk.injEq, and_true] at h
        obtain ⟨rfl, rfl⟩ := h
        refine ⟨by omega, by simp, ?_, by omega⟩
        have e1 : (acc * 128 + c.toNat % 128) / 128 = acc := by omega
        have e2 : (acc * 128 + c.toNat % 128) % 128 = c.toNat := by omega
        unfold enc
        rw [e1, e2, u8_back, show k + 1 - k = 1 from by omega]
        rfl
      · rw [if_neg h2] at h
        have hd : acc ≠ 0 ∨ c.toNat % 128 ≠ 0 := by
          rcases hne with h3 | h3
          · exact .inl h3
          · right
            have := h3 c r rfl
            omega
        obtain ⟨h4, h5, h6, h7⟩ := decGo_back r _ _ _ _ h (.inl (by omega))
        refine ⟨by omega, by simp; omega, ?_, h7⟩
        rw [← h6, encP_snoc (by omega) hd, show u - k = (u - (k + 1)) + 1 from by omega, List.take_succ_cons, List.append_assoc, List.singleton_append]
        congr 2
        rw [show 128 + c.toNat % 128 = c.toNat from by omega, u8_back]
/-- WHAT IS READ IS WRITTEN SO. -/
theorem dec_back {l : List UInt8} {n u : Nat} (h : dec l = (n, u, 0)) : 0 < u ∧ u ≤ l.length ∧ l.take u = enc n ∧ n < 2 ^ 64 := by
  unfold dec at h
  cases l with
  | nil => simp at h
  | cons c r =>
    simp only at h
    by_cases hc : c.toNat = 128
    · rw [if_pos hc] at h; simp at h
    · rw [if_neg hc] at h
      obtain ⟨h1, h2, h3, h4⟩ := decGo_back _ 0 0 n u h (.inr fun c' r' e => by simp only [List.cons.injEq] at e; rw [← e.1]; exact hc)
      rw [encP_zero] at h3
      exact ⟨h1, by simpa using h2, by simpa using h3, h4⟩

/-- How many bytes a number has. -/
def sizeN (n : Nat) : Nat := max 1 ((blen n + 6) / 7)
theorem blen_128 {m : Nat} (h : m / 128 ≠ 0) : blen m = 7 + blen (m / 128) := by
  have := blen_high (hi := m / 128) (lo := m % 128) (k := 7) (by omega) h
  rwa [show 2 ^ 7 * (m / 128) + m % 128 = m from by omega] at this
theorem encP_length : ∀ m : Nat, (encP m).length = (blen m + 6) / 7 := by
  intro m
  induction m using Nat.strongRecOn with
  | ind m ih =>
    by_cases h : m = 0
    · subst h; rw [encP_zero, blen_zero]; rfl
    · rw [encP_pos h, List.length_append, ih (m / 128) (by omega)]
      by_cases h2 : m / 128 = 0
      · have h3 := blen_le (x := m) (k := 7) (by omega)
        have h4 := (blen_bounds h).1
        rw [h2, blen_zero]
        simp
        omega
      · rw [blen_128 h2]
        simp
        omega
theorem enc_length (n : Nat) : (enc n).length = sizeN n := by
  unfold enc sizeN
  rw [List.length_append, encP_length, List.length_singleton]
  by_cases h2 : n / 128 = 0
  · have h3 := blen_le (x := n) (k := 7) (by omega)
    rw [h2, blen_zero]
    omega
  · rw [blen_128 h2]
    omega
theorem size_mono {a b : Nat} (h : a ≤ b) : sizeN a ≤ sizeN b := by
  have := blen_mono h
  unfold sizeN
  omega
theorem size_le {n : Nat} (h : n < 2 ^ 64) : sizeN n ≤ 10 := by
  have := blen_le h
  unfold sizeN
  omega
theorem size_pos (n : Nat) : 1 ≤ sizeN n := by unfold sizeN; omega

/-- The number that bytes make. -/
def dval : Nat → List UInt8 → Nat
  | acc, [] => acc
  | acc, c :: r => dval (acc * 128 + c.toNat % 128) r
theorem dval_append : ∀ (l t : List UInt8) (acc : Nat), dval acc (l ++ t) = dval (dval acc l) t
  | [], _, _ => rfl
  | c :: l, t, acc => by rw [List.cons_append]; exact dval_append l t _
theorem dval_encP : ∀ m : Nat, dval 0 (encP m) = m := by
  intro m
  induction m using Nat.strongRecOn with
  | ind m ih =>
    by_cases h : m = 0
    · subst h; rw [encP_zero]; rfl
    · rw [encP_pos h, dval_append, ih (m / 128) (by omega)]
      simp only [dval]
      rw [u8_toNat (by omega)]
      omega
theorem dval_enc (n : Nat) : dval 0 (enc n) = n := by
  unfold enc
  rw [dval_append, dval_encP]
  simp only [dval]
  rw [u8_toNat (by omega)]
  omega
theorem dval_lt : ∀ (l t : List UInt8) (a b : Nat), a < b → l.length = t.length → dval a l < dval b t
  | [], [], _, _, h, _ => h
  | [], _ :: _, _, _, _, h => by simp at h
  | _ :: _, [], _, _, _, h => by simp at h
  | c :: l, d :: t, a, b, h, hl => by
    simp only [dval]
    exact dval_lt l t _ _ (by omega) (by simpa using hl)
/-- Where more follows is the same in two texts of one size. -/
def flags (l : List UInt8) : List Bool := l.map fun c => decide (c.toNat < 128)
theorem flags_encP : ∀ m : Nat, flags (encP m) = List.replicate (encP m).length false := by
  intro m
  induction m using Nat.strongRecOn with
  | ind m ih =>
    by_cases h : m = 0
    · subst h; rw [encP_zero]; rfl
    · rw [encP_pos h]
      unfold flags at ih ⊢
      rw [List.map_append, ih (m / 128) (by omega), List.length_append]
      simp only [List.map_cons, List.map_nil, List.length_singleton]
      rw [u8_toNat (by omega), ← List.replicate_append_replicate]
      congr 1
      simp
theorem flags_enc (n : Nat) : flags (enc n) = List.replicate (sizeN n - 1) false ++ [true] := by
  have hl := enc_length n
  unfold enc at hl ⊢
  rw [List.length_append, List.length_singleton] at hl
  have hf := flags_encP (n / 128)
  unfold flags at hf ⊢
  rw [List.map_append, hf]
  simp only [List.map_cons, List.map_nil]
  rw [u8_toNat (by omega), show (encP (n / 128)).length = sizeN n - 1 from by omega]
  congr 2
  simp
  omega
theorem less_val : ∀ (l t : List UInt8) (acc : Nat), flags l = flags t → ((Lib.compareBytes l t = -1) ↔ dval acc l < dval acc t)
  | [], [], acc, _ => by simp [Lib.compareBytes]
  | [], _ :: _, _, h => by simp [flags] at h
  | _ :: _, [], _, h => by simp [flags] at h
  | c :: l, d :: t, acc, h => by
    simp only [flags, List.map_cons, List.cons.injEq] at h
    obtain ⟨h1, h2⟩ := h
    have hlen : l.length = t.length := by have := congrArg List.length h2; simpa using this
    have hf : (c.toNat < 128) = (d.toNat < 128) := by simpa using h1
    have hc := c.toNat_lt
    have hd := d.toNat_lt
    simp only [dval]
    unfold Lib.compareBytes
    by_cases h3 : c < d
    · rw [if_pos h3]
      rw [UInt8.lt_iff_toNat_lt] at h3
      have : c.toNat % 128 < d.toNat % 128 := by
        by_cases h4 : c.toNat < 128
        · have : d.toNat < 128 := hf ▸ h4; omega
        · have : ¬ d.toNat < 128 := hf ▸ h4; omega
      exact ⟨fun _ => dval_lt l t _ _ (by omega) hlen, fun _ => rfl⟩
    · rw [if_neg h3]
      by_cases h5 : d < c
      · rw [if_pos h5]
        rw [UInt8.lt_iff_toNat_lt] at h5
        have : d.toNat % 128 < c.toNat % 128 := by
          by_cases h4 : c.toNat < 128
          · have : d.toNat < 128 := hf ▸ h4; omega
          · have : ¬ d.toNat < 128 := hf ▸ h4; omega
        have h6 := dval_lt t l (acc * 128 + d.toNat % 128) (acc * 128 + c.toNat % 128) (by omega) hlen.symm
        exact ⟨fun h => by omega, fun h => by omega⟩
      · rw [if_neg h5]
        have e : c = d := UInt8.le_antisymm (UInt8.not_lt.1 h5) (UInt8.not_lt.1 h3)
        subst e
        exact less_val l t _ h2
/-- OF TWO NUMBERS OF ONE SIZE THE LESS ONE's BYTES ARE LESS. -/
theorem enc_less {a b : Nat} (h : sizeN a = sizeN b) : (Lib.compareBytes (enc a) (enc b) = -1) ↔ a < b := by
  have := less_val (enc a) (enc b) 0 (by rw [flags_enc, flags_enc, h])
  rwa [dval_enc, dval_enc] at this
end Go.Proofs.Ytdiliajpcgfpoaa
