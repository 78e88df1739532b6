/- What is parsed of a quoted text, in plain Lean. -/
import Derived.Test.YtgbdoccgdkifjaaDoorQuPure
import Derived.Lib.IndexBytes
namespace Go.Proofs.YtgbdoccgdkifjaaDoor

theorem u8_eq {a b : UInt8} (h : a.toNat = b.toNat) : a = b := UInt8.toNat_inj.1 h
theorem dig_toNat {n : Nat} (h : n < 16) : (dig n).toNat = if n < 10 then 48 + n else 87 + n := by
  unfold dig
  rw [UInt8.toNat_ofNat', Nat.mod_eq_of_lt]
  split <;> omega
/-- The value of a digit. -/
def hexv (c : UInt8) : Option Nat := if 48 ≤ c.toNat ∧ c.toNat ≤ 57 then some (c.toNat - 48) else if 97 ≤ c.toNat ∧ c.toNat ≤ 102 then some (c.toNat - 87) else none
theorem hexv_dig {n : Nat} (h : n < 16) : hexv (dig n) = some n := by
  have := dig_toNat h
  unfold hexv
  split at this
  · rw [if_pos (by omega)]; congr 1; omega
  · rw [if_neg (by omega), if_pos (by omega)]; congr 1; omega
theorem hexv_lt {c : UInt8} {n : Nat} (h : hexv c = some n) : n < 16 := by
  unfold hexv at h
  split at h
  · injection h; omega
  · split at h
    · injection h; omega
    · cases h
/-- The number of digits. -/
def num : Nat → List UInt8 → Option Nat
  | a, [] => some a
  | a, c :: r => match hexv c with
    | none => none
    | some d => num (a * 16 + d) r
/-- What stands behind a backslash, and how long that is. -/
def esc (l : List UInt8) : Option (List UInt8 × Nat) :=
  match l with
  | [] => none
  | c :: r =>
    if c.toNat = 34 ∨ c.toNat = 92 then some ([c], 1)
    else if c.toNat = 120 then (if 2 ≤ r.length then (num 0 (r.take 2)).map fun n => ([UInt8.ofNat n], 3) else none)
    else if c.toNat = 117 then (if 4 ≤ r.length then (num 0 (r.take 4)).map fun n : Nat => (Lib.encodeRune (n : Int), 5) else none)
    else none
theorem num_lt : ∀ (l : List UInt8) (a n : Nat), num a l = some n → n < (a + 1) * 16 ^ l.length
  | [], a, n, h => by injection h with h; subst h; simp
  | c :: r, a, n, h => by
    rw [num] at h
    split at h
    · cases h
    · rename_i d hd
      have := num_lt r _ n h
      have hd2 := hexv_lt hd
      have h3 : (a * 16 + d + 1) * 16 ^ r.length ≤ ((a + 1) * 16) * 16 ^ r.length := Nat.mul_le_mul_right _ (by omega)
      rw [List.length_cons, Nat.pow_succ', ← Nat.mul_assoc]
      omega
theorem encodeRune_len (r : Int) : (Lib.encodeRune r).length ≤ 4 := by
  unfold Lib.encodeRune Lib.encodeRuneZ
  rw [List.length_map]
  repeat' split
  all_goals simp
/-- The first place of a byte. -/
def fnd (c : UInt8) : List UInt8 → Option Nat
  | [] => none
  | x :: r => if x = c then some 0 else (fnd c r).map (· + 1)
theorem fnd_lt {c : UInt8} : ∀ {l : List UInt8} {k : Nat}, fnd c l = some k → k < l.length
  | [], _, h => by cases h
  | x :: r, k, h => by
    rw [fnd] at h
    split at h
    · injection h with h; subst h; simp
    · rw [Option.map_eq_some_iff] at h
      obtain ⟨j, hj, rfl⟩ := h
      have := fnd_lt hj
      simp; omega
theorem fnd_pre {c : UInt8} : ∀ (p : List UInt8) (r : List UInt8), (∀ x ∈ p, x ≠ c) → fnd c (p ++ c :: r) = some p.length
  | [], r, _ => by simp [fnd]
  | x :: p, r, h => by
    rw [List.cons_append, fnd, if_neg (h x (List.mem_cons_self ..)), fnd_pre p r (fun y hy => h y (List.mem_cons_of_mem _ hy))]
    rfl
theorem fnd_none {c : UInt8} : ∀ (p : List UInt8), (∀ x ∈ p, x ≠ c) → fnd c p = none
  | [], _ => rfl
  | x :: p, h => by
    rw [fnd, if_neg (h x (List.mem_cons_self ..)), fnd_none p (fun y hy => h y (List.mem_cons_of_mem _ hy))]
    rfl
/-- The parsing's loop. -/
def unqF : Nat → List UInt8 → List UInt8 → Option (List UInt8)
  | 0, out, _ => some out
  | f + 1, out, rest => if rest.length = 0 then some out else
    match fnd 92 rest with
    | none => some (out ++ rest)
    | some k => match esc (rest.drop (k + 1)) with
      | none => none
      | some (t, n) => unqF f (out ++ rest.take k ++ t) (rest.drop (k + 1 + n))
def unq (out rest : List UInt8) : Option (List UInt8) := unqF rest.length out rest
theorem unqF_more : ∀ (f : Nat) (out rest : List UInt8), rest.length ≤ f → unqF f out rest = unq out rest := by
  intro f
  induction f using Nat.strongRecOn with
  | _ f ih =>
    intro out l hl
    match f, l, hl with
    | 0, l, hl =>
      have : l.length = 0 := by omega
      unfold unq; rw [this]
    | f + 1, l, hl =>
      by_cases h0 : l.length = 0
      · unfold unq
        rw [h0]
        simp [unqF, h0]
      · obtain ⟨g, hg⟩ : ∃ g, l.length = g + 1 := ⟨l.length - 1, by omega⟩
        unfold unq
        rw [hg, unqF, unqF, if_neg h0, if_neg h0]
        cases hk : fnd 92 l with
        | none => rfl
        | some k =>
          dsimp only
          cases he : esc (l.drop (k + 1)) with
          | none => rfl
          | some p =>
            obtain ⟨t, n⟩ := p
            dsimp only
            rw [ih f (by omega) _ _ (by rw [List.length_drop]; omega), ih g (by omega) _ _ (by rw [List.length_drop]; omega)]
theorem unq_nil (out : List UInt8) : unq out [] = some out := rfl
theorem unq_step (out rest : List UInt8) (h : 0 < rest.length) : unq out rest = match fnd 92 rest with
    | none => some (out ++ rest)
    | some k => match esc (rest.drop (k + 1)) with
      | none => none
      | some (t, n) => unq (out ++ rest.take k ++ t) (rest.drop (k + 1 + n)) := by
  obtain ⟨g, hg⟩ : ∃ g, rest.length = g + 1 := ⟨rest.length - 1, by omega⟩
  conv => lhs; unfold unq
  rw [hg, unqF, if_neg (by omega)]
  cases hk : fnd 92 rest with
  | none => rfl
  | some k =>
    dsimp only
    cases he : esc (rest.drop (k + 1)) with
    | none => rfl
    | some p =>
      obtain ⟨t, n⟩ := p
      dsimp only
      exact unqF_more g _ _ (by rw [List.length_drop]; omega)
theorem unq_esc (out pre t r : List UInt8) (e : List UInt8) (hp : ∀ x ∈ pre, x ≠ 92) (he : esc (e ++ r) = some (t, e.length)) : unq out (pre ++ (92 :: e ++ r)) = unq (out ++ pre ++ t) r := by
  rw [unq_step _ _ (by simp; omega), List.cons_append, fnd_pre pre _ hp]
  dsimp only
  have h1 : (pre ++ 92 :: (e ++ r)).drop (pre.length + 1) = e ++ r := by
    rw [← List.drop_drop, List.drop_left]; rfl
  have h2 : (pre ++ 92 :: (e ++ r)).drop (pre.length + 1 + e.length) = r := by
    rw [← List.drop_drop, h1, List.drop_left]
  rw [h1, he]
  dsimp only
  rw [h2, List.take_left]
theorem take_one {l : List UInt8} (h : 0 < l.length) : l.take 1 = [l.getD 0 0] := by
  match l, h with
  | x :: r, _ => rfl
theorem take_two {l : List UInt8} (h : 1 < l.length) : l.take 2 = [l.getD 0 0, l.getD 1 0] := by
  match l, h with
  | x :: y :: r, _ => rfl
theorem take_three {l : List UInt8} (h : 2 < l.length) : l.take 3 = [l.getD 0 0, l.getD 1 0, l.getD 2 0] := by
  match l, h with
  | x :: y :: z :: r, _ => rfl
theorem take_four {l : List UInt8} (h : 3 < l.length) : l.take 4 = [l.getD 0 0, l.getD 1 0, l.getD 2 0, l.getD 3 0] := by
  match l, h with
  | x :: y :: z :: u :: r, _ => rfl
theorem esc_x (n : Nat) (hn : n < 256) (r : List UInt8) : esc ([120, dig (n / 16), dig (n % 16)] ++ r) = some ([UInt8.ofNat n], 3) := by
  simp only [List.cons_append, List.nil_append, esc]
  rw [if_neg (by decide), if_pos (by decide), if_pos (by simp)]
  simp only [List.take_succ_cons, List.take_zero, num, hexv_dig (show n / 16 < 16 by omega), hexv_dig (show n % 16 < 16 by omega), Option.map_some]
  rw [show (0 * 16 + n / 16) * 16 + n % 16 = n from by omega]
theorem esc_u (n : Nat) (hn : n < 256) (r : List UInt8) : esc ([117, 48, 48, dig (n / 16), dig (n % 16)] ++ r) = some (Lib.encodeRune (n : Int), 5) := by
  have h48 : hexv 48 = some 0 := by decide
  simp only [List.cons_append, List.nil_append, esc]
  rw [if_neg (by decide), if_neg (by decide), if_pos (by decide), if_pos (by simp)]
  simp only [List.take_succ_cons, List.take_zero, num, h48, hexv_dig (show n / 16 < 16 by omega), hexv_dig (show n % 16 < 16 by omega), Option.map_some]
  rw [show (((0 * 16 + 0) * 16 + 0) * 16 + n / 16) * 16 + n % 16 = n from by omega]
theorem encode_one {n : Nat} (h : n < 128) : Lib.encodeRune (n : Int) = [UInt8.ofNat n] := by
  unfold Lib.encodeRune
  rw [Lib.encodeRuneZ_one (by omega) (by omega)]
  simp
theorem encode_two {n : Nat} (h : 128 ≤ n) (h2 : n ≤ 2047) : Lib.encodeRune (n : Int) = [UInt8.ofNat (192 + n / 64), UInt8.ofNat (128 + n % 64)] := by
  unfold Lib.encodeRune
  rw [Lib.encodeRuneZ_two (by omega) (by omega)]
  simp only [List.map_cons, List.map_nil]
  rfl
theorem ofNat_bA (l : List UInt8) (i : Nat) : UInt8.ofNat (bA l i) = l.getD i 0 := by
  apply u8_eq
  rw [UInt8.toNat_ofNat', Nat.mod_eq_of_lt (bA_lt l i)]
  rfl
/-- WHAT IS PARSED OF THE QUOTED TEXT IS WHAT WAS QUOTED. -/
theorem unq_body : ∀ (n : Nat) (l : List UInt8), l.length = n → ∀ out pre : List UInt8, (∀ x ∈ pre, x ≠ 92) → unq out (pre ++ body l) = some (out ++ pre ++ l) := by
  intro n
  induction n using Nat.strongRecOn with
  | _ n ih =>
    intro l hn out pre hp
    by_cases h : 0 < l.length
    · have hs := stp_pos l
      have hsl := stp_le l h
      have hr := fun out pre hp => ih (n - stp l) (by omega) (l.drop (stp l)) (by rw [List.length_drop]; omega) out pre hp
      have hb := bA_lt l 0
      have hb1 := bA_lt l 1
      have hone := one_snd l
      have hcat : l.take (stp l) ++ l.drop (stp l) = l := List.take_append_drop ..
      rw [body_step l h]
      unfold one at hone ⊢
      split at hone
      · rename_i hw
        dsimp only at hone
        rw [if_pos hw]
        have := unq_esc out pre [UInt8.ofNat (bA l 0)] (body (l.drop (stp l))) [120, dig (bA l 0 / 16), dig (bA l 0 % 16)] hp (esc_x _ hb _)
        rw [show [92, 120, dig (bA l 0 / 16), dig (bA l 0 % 16)] ++ body (l.drop (stp l)) = 92 :: [120, dig (bA l 0 / 16), dig (bA l 0 % 16)] ++ body (l.drop (stp l)) from rfl, this]
        have h2 := hr (out ++ pre ++ [UInt8.ofNat (bA l 0)]) [] (by simp)
        rw [List.nil_append, List.append_nil] at h2
        rw [h2, ofNat_bA, ← take_one h, List.append_assoc (out ++ pre), hone, hcat]
      · rename_i hw
        rw [if_neg hw]
        split at hone
        · rename_i hq
          dsimp only at hone
          rw [if_pos hq]
          have h1 : l.take 1 = [l.getD 0 0] := take_one h
          have he : esc (l.take 1 ++ body (l.drop (stp l))) = some (l.take 1, (l.take 1).length) := by
            rw [h1]
            simp only [List.cons_append, List.nil_append, esc]
            rw [if_pos (show (l.getD 0 0).toNat = 34 ∨ (l.getD 0 0).toNat = 92 from hq.2)]
            rfl
          have := unq_esc out pre (l.take 1) (body (l.drop (stp l))) (l.take 1) hp he
          rw [show 92 :: l.take 1 ++ body (l.drop (stp l)) = 92 :: l.take 1 ++ body (l.drop (stp l)) from rfl, this]
          have h2 := hr (out ++ pre ++ l.take 1) [] (by simp)
          rw [List.nil_append, List.append_nil] at h2
          rw [h2, List.append_assoc (out ++ pre), hone, hcat]
        · rename_i hq
          rw [if_neg hq]
          split at hone
          · rename_i hc
            dsimp only at hone
            rw [if_pos hc]
            have := unq_esc out pre (Lib.encodeRune ((bA l 0 : Nat) : Int)) (body (l.drop (stp l))) [117, 48, 48, dig (bA l 0 / 16), dig (bA l 0 % 16)] hp (esc_u _ hb _)
            rw [show [92, 117, 48, 48, dig (bA l 0 / 16), dig (bA l 0 % 16)] ++ body (l.drop (stp l)) = 92 :: [117, 48, 48, dig (bA l 0 / 16), dig (bA l 0 % 16)] ++ body (l.drop (stp l)) from rfl, this]
            have h2 := hr (out ++ pre ++ Lib.encodeRune ((bA l 0 : Nat) : Int)) [] (by simp)
            rw [List.nil_append, List.append_nil] at h2
            rw [h2, encode_one (by omega), ofNat_bA, ← take_one h, List.append_assoc (out ++ pre), hone, hcat]
          · rename_i hc
            rw [if_neg hc]
            split at hone
            · rename_i h2b
              dsimp only at hone
              rw [if_pos h2b]
              have := unq_esc out pre (Lib.encodeRune ((bA l 1 : Nat) : Int)) (body (l.drop (stp l))) [117, 48, 48, dig (bA l 1 / 16), dig (bA l 1 % 16)] hp (esc_u _ hb1 _)
              rw [show [92, 117, 48, 48, dig (bA l 1 / 16), dig (bA l 1 % 16)] ++ body (l.drop (stp l)) = 92 :: [117, 48, 48, dig (bA l 1 / 16), dig (bA l 1 % 16)] ++ body (l.drop (stp l)) from rfl, this]
              have h2 := hr (out ++ pre ++ Lib.encodeRune ((bA l 1 : Nat) : Int)) [] (by simp)
              rw [List.nil_append, List.append_nil] at h2
              have hl2 : 1 < l.length := by omega
              have h128 : 128 ≤ bA l 1 := by
                rcases first l with ⟨e⟩ | ⟨e⟩ | ⟨r, e, _, _, _, _, _, e1⟩ | ⟨_, e⟩ | ⟨_, e⟩ <;> omega
              have hte : Lib.encodeRune ((bA l 1 : Nat) : Int) = l.take 2 := by
                rw [encode_two h128 (by omega), take_two hl2, ← ofNat_bA l 0, ← ofNat_bA l 1]
                rw [show 192 + bA l 1 / 64 = bA l 0 from by omega, show 128 + bA l 1 % 64 = bA l 1 from by omega]
              rw [h2, hte, List.append_assoc (out ++ pre), hone, hcat]
            · rename_i h2b
              rw [if_neg h2b]
              dsimp only at hone
              have hpre : ∀ x ∈ pre ++ l.take (wid l), x ≠ 92 := by
                intro x hx
                rcases List.mem_append.1 hx with hx | hx
                · exact hp x hx
                · intro e
                  subst e
                  rcases first l with ⟨e⟩ | ⟨e, e0⟩ | ⟨r, e, hl, _, _, _, e0, e1⟩ | ⟨r, e, hl, _, _, _, _, e0, e1, e2⟩ | ⟨r, e, hl, _, _, _, e0, e1, e2, e3⟩
                  · omega
                  · rw [e, take_one h] at hx
                    simp at hx
                    have : bA l 0 = 92 := by unfold bA; rw [List.getD_eq_getElem?_getD, ← hx]; rfl
                    omega
                  · rw [e, take_two (by omega)] at hx
                    have k0 : bA l 0 = (l.getD 0 0).toNat := rfl
                    have k1 : bA l 1 = (l.getD 1 0).toNat := rfl
                    simp only [List.mem_cons, List.not_mem_nil, or_false] at hx
                    rcases hx with hx | hx <;> (have hx := congrArg UInt8.toNat hx; change 92 = _ at hx; omega)
                  · rw [e, take_three (by omega)] at hx
                    have k0 : bA l 0 = (l.getD 0 0).toNat := rfl
                    have k1 : bA l 1 = (l.getD 1 0).toNat := rfl
                    have k2 : bA l 2 = (l.getD 2 0).toNat := rfl
                    simp only [List.mem_cons, List.not_mem_nil, or_false] at hx
                    rcases hx with hx | hx | hx <;> (have hx := congrArg UInt8.toNat hx; change 92 = _ at hx; omega)
                  · rw [e, take_four (by omega)] at hx
                    have k0 : bA l 0 = (l.getD 0 0).toNat := rfl
                    have k1 : bA l 1 = (l.getD 1 0).toNat := rfl
                    have k2 : bA l 2 = (l.getD 2 0).toNat := rfl
                    have k3 : bA l 3 = (l.getD 3 0).toNat := rfl
                    simp only [List.mem_cons, List.not_mem_nil, or_false] at hx
                    rcases hx with hx | hx | hx | hx <;> (have hx := congrArg UInt8.toNat hx; change 92 = _ at hx; omega)
              have h2 := hr out (pre ++ l.take (wid l)) hpre
              rw [List.append_assoc] at h2
              rw [h2, hone, ← List.append_assoc out, List.append_assoc (out ++ pre), hcat]
    · have : l = [] := List.eq_nil_of_length_eq_zero (by omega)
      subst this
      rw [body_nil, List.append_nil, List.append_nil]
      by_cases hp0 : 0 < pre.length
      · rw [unq_step _ _ hp0, fnd_none pre hp]
      · have : pre = [] := List.eq_nil_of_length_eq_zero (by omega)
        subst this
        simp [unq_nil]
theorem unq_of (l : List UInt8) : unq [] (body l) = some l := by
  have := unq_body _ l rfl [] [] (by simp)
  simpa using this
theorem body_inj {a b : List UInt8} (h : body a = body b) : a = b := by
  have h1 := unq_of a
  rw [h, unq_of b] at h1
  exact (Option.some.inj h1).symm
theorem qt_inj {a b : List UInt8} (h : qt a = qt b) : a = b := by
  unfold qt at h
  injection h with _ h
  exact body_inj (List.append_cancel_right h)
end Go.Proofs.YtgbdoccgdkifjaaDoor
