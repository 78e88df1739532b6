/- The quoted text, in plain Lean: widths, runes, the text, what is parsed of it. -/
import Derived.Lib.DecodeN
import Derived.Lib.RuneBytes
namespace Go.Proofs.YtgbdoccgdkifjaaDoor

/-- The number of the byte at a place (0 behind the end). -/
def bA (l : List UInt8) (i : Nat) : Nat := (l.getD i 0).toNat
theorem bA_lt (l : List UInt8) (i : Nat) : bA l i < 256 := (l.getD i 0).toNat_lt
theorem bA_drop (l : List UInt8) (k i : Nat) : bA (l.drop k) i = bA l (k + i) := by
  unfold bA
  rw [List.getD_eq_getElem?_getD, List.getD_eq_getElem?_getD, List.getElem?_drop]
def inR (l : List UInt8) (i lo hi : Nat) : Prop := i < l.length ∧ lo ≤ bA l i ∧ bA l i ≤ hi
instance (l : List UInt8) (i lo hi : Nat) : Decidable (inR l i lo hi) := by unfold inR; infer_instance
/-- How many bytes the rune has that stands first; 0: a stray byte does. -/
def wid (l : List UInt8) : Nat :=
  if bA l 0 < 128 then 1
  else if 194 ≤ bA l 0 ∧ bA l 0 ≤ 223 then (if inR l 1 128 191 then 2 else 0)
  else if 224 ≤ bA l 0 ∧ bA l 0 ≤ 239 then (if inR l 1 (if bA l 0 = 224 then 160 else 128) (if bA l 0 = 237 then 159 else 191) ∧ inR l 2 128 191 then 3 else 0)
  else if 240 ≤ bA l 0 ∧ bA l 0 ≤ 244 then (if inR l 1 (if bA l 0 = 240 then 144 else 128) (if bA l 0 = 244 then 143 else 191) ∧ inR l 2 128 191 ∧ inR l 3 128 191 then 4 else 0)
  else 0
def dec (l : List UInt8) : Nat × Nat := Lib.decodeN l.length (bA l 0) (bA l 1) (bA l 2) (bA l 3)

/-- WHAT STANDS FIRST. -/
inductive First (l : List UInt8) : Prop
  | stray (h : wid l = 0) (h0 : 128 ≤ bA l 0) (hd : dec l = (65533, 1))
  | one (h : wid l = 1) (h0 : bA l 0 < 128) (hd : dec l = (bA l 0, 1))
  | two (r : Nat) (h : wid l = 2) (hl : 2 ≤ l.length) (hd : dec l = (r, 2)) (h1 : 128 ≤ r) (h2 : r ≤ 2047) (e0 : bA l 0 = 192 + r / 64) (e1 : bA l 1 = 128 + r % 64)
  | three (r : Nat) (h : wid l = 3) (hl : 3 ≤ l.length) (hd : dec l = (r, 3)) (h1 : 2048 ≤ r) (h2 : r < 55296 ∨ 57343 < r) (h3 : r ≤ 65535) (e0 : bA l 0 = 224 + r / 4096) (e1 : bA l 1 = 128 + r / 64 % 64) (e2 : bA l 2 = 128 + r % 64)
  | four (r : Nat) (h : wid l = 4) (hl : 4 ≤ l.length) (hd : dec l = (r, 4)) (h1 : 65536 ≤ r) (h2 : r ≤ 1114111) (e0 : bA l 0 = 240 + r / 262144) (e1 : bA l 1 = 128 + r / 4096 % 64) (e2 : bA l 2 = 128 + r / 64 % 64) (e3 : bA l 3 = 128 + r % 64)
theorem first (l : List UInt8) : First l := by
  have a0 := bA_lt l 0
  have a1 := bA_lt l 1
  have a2 := bA_lt l 2
  have a3 := bA_lt l 3
  by_cases h0 : bA l 0 < 128
  · refine .one ?_ h0 ?_
    · unfold wid; rw [if_pos h0]
    · unfold dec Lib.decodeN; rw [if_pos h0]
  by_cases h1 : 194 ≤ bA l 0 ∧ bA l 0 ≤ 223
  · by_cases i1 : inR l 1 128 191
    · obtain ⟨j1, j2, j3⟩ := i1
      refine .two (bA l 0 % 32 * 64 + bA l 1 % 64) ?_ (by omega) ?_ (by omega) (by omega) (by omega) (by omega)
      · unfold wid; rw [if_neg h0, if_pos h1, if_pos ⟨j1, j2, j3⟩]
      · unfold dec Lib.decodeN; rw [if_neg h0, if_pos ⟨by omega, j1, by omega⟩, if_pos (by omega)]
    · refine .stray ?_ (by omega) ?_
      · unfold wid; rw [if_neg h0, if_pos h1, if_neg i1]
      · unfold dec Lib.decodeN
        have n1 : ¬ (bA l 0 / 32 = 6 ∧ (1 < l.length ∧ bA l 1 / 64 = 2)) := fun ⟨_, q1, q2⟩ => i1 ⟨q1, by omega, by omega⟩
        rw [if_neg h0, if_neg n1, if_neg (by omega), if_neg (by omega)]
  by_cases h2 : 224 ≤ bA l 0 ∧ bA l 0 ≤ 239
  · by_cases i1 : inR l 1 (if bA l 0 = 224 then 160 else 128) (if bA l 0 = 237 then 159 else 191) ∧ inR l 2 128 191
    · have hw : wid l = 3 := by unfold wid; rw [if_neg h0, if_neg h1, if_pos h2, if_pos i1]
      obtain ⟨⟨j1, j2, j3⟩, j4, j5, j6⟩ := i1
      have j7 : 128 ≤ bA l 1 ∧ bA l 1 ≤ 191 ∧ (bA l 0 = 224 → 160 ≤ bA l 1) ∧ (bA l 0 = 237 → bA l 1 ≤ 159) := by
        split at j2 <;> split at j3 <;> omega
      refine .three (bA l 0 % 16 * 4096 + bA l 1 % 64 * 64 + bA l 2 % 64) hw (by omega) ?_ (by omega) (by omega) (by omega) (by omega) (by omega) (by omega)
      unfold dec Lib.decodeN
      rw [if_neg h0, if_neg (by omega), if_pos ⟨by omega, ⟨j1, by omega⟩, j4, by omega⟩, if_pos (by omega)]
    · refine .stray ?_ (by omega) ?_
      · unfold wid; rw [if_neg h0, if_neg h1, if_pos h2, if_neg i1]
      · unfold dec Lib.decodeN
        rw [if_neg h0, if_neg (by omega)]
        split
        · rename_i q
          obtain ⟨_, ⟨q1, q2⟩, q3, q4⟩ := q
          rw [if_neg]
          intro q5
          refine i1 ⟨⟨q1, ?_, ?_⟩, q3, by omega, by omega⟩
          · split <;> omega
          · split <;> omega
        · rw [if_neg (by omega)]
  by_cases h3 : 240 ≤ bA l 0 ∧ bA l 0 ≤ 244
  · by_cases i1 : inR l 1 (if bA l 0 = 240 then 144 else 128) (if bA l 0 = 244 then 143 else 191) ∧ inR l 2 128 191 ∧ inR l 3 128 191
    · have hw : wid l = 4 := by unfold wid; rw [if_neg h0, if_neg h1, if_neg h2, if_pos h3, if_pos i1]
      obtain ⟨⟨j1, j2, j3⟩, ⟨j4, j5, j6⟩, k4, k5, k6⟩ := i1
      have j7 : 128 ≤ bA l 1 ∧ bA l 1 ≤ 191 ∧ (bA l 0 = 240 → 144 ≤ bA l 1) ∧ (bA l 0 = 244 → bA l 1 ≤ 143) := by
        split at j2 <;> split at j3 <;> omega
      refine .four (bA l 0 % 8 * 262144 + bA l 1 % 64 * 4096 + bA l 2 % 64 * 64 + bA l 3 % 64) hw (by omega) ?_ (by omega) (by omega) (by omega) (by omega) (by omega) (by omega)
      unfold dec Lib.decodeN
      rw [if_neg h0, if_neg (by omega), if_neg (by omega), if_pos ⟨by omega, ⟨j1, by omega⟩, ⟨j4, by omega⟩, k4, by omega⟩, if_pos (by omega)]
    · refine .stray ?_ (by omega) ?_
      · unfold wid; rw [if_neg h0, if_neg h1, if_neg h2, if_pos h3, if_neg i1]
      · unfold dec Lib.decodeN
        rw [if_neg h0, if_neg (by omega), if_neg (by omega)]
        split
        · rename_i q
          obtain ⟨_, ⟨q1, q2⟩, ⟨q3, q4⟩, q6, q7⟩ := q
          rw [if_neg]
          intro q5
          refine i1 ⟨⟨q1, ?_, ?_⟩, ⟨q3, by omega, by omega⟩, q6, by omega, by omega⟩
          · split <;> omega
          · split <;> omega
        · rfl
  refine .stray ?_ (by omega) ?_
  · unfold wid; rw [if_neg h0, if_neg h1, if_neg h2, if_neg h3]
  · unfold dec Lib.decodeN
    rw [if_neg h0]
    split
    · rw [if_neg (by omega)]
    · rw [if_neg (by omega)]
      split
      · rw [if_neg (by omega)]
      · rfl

/-- A digit of a number from 0 to 15. -/
def dig (n : Nat) : UInt8 := UInt8.ofNat (if n < 10 then 48 + n else 87 + n)
/-- What stands for what is first, and how many bytes that has. -/
def one (l : List UInt8) : List UInt8 × Nat :=
  if wid l = 0 then ([92, 120, dig (bA l 0 / 16), dig (bA l 0 % 16)], 1)
  else if wid l = 1 ∧ (bA l 0 = 34 ∨ bA l 0 = 92) then (92 :: l.take 1, 1)
  else if wid l = 1 ∧ (bA l 0 < 32 ∨ bA l 0 = 127) then ([92, 117, 48, 48, dig (bA l 0 / 16), dig (bA l 0 % 16)], 1)
  else if wid l = 2 ∧ bA l 0 = 194 ∧ bA l 1 < 160 then ([92, 117, 48, 48, dig (bA l 1 / 16), dig (bA l 1 % 16)], 2)
  else (l.take (wid l), wid l)
/-- How many bytes are gone behind what is first. -/
def stp (l : List UInt8) : Nat := if wid l = 0 then 1 else wid l
theorem one_snd (l : List UInt8) : (one l).2 = stp l := by
  unfold one stp
  split
  · rfl
  · split
    · rename_i h; simp only; omega
    · split
      · rename_i h; simp only; omega
      · split
        · rename_i h; simp only; omega
        · rfl
theorem stp_pos (l : List UInt8) : 1 ≤ stp l := by unfold stp; split <;> omega
theorem wid_le (l : List UInt8) (h : 0 < l.length) : wid l ≤ l.length := by
  rcases first l with ⟨e⟩ | ⟨e⟩ | ⟨_, e, hl⟩ | ⟨_, e, hl⟩ | ⟨_, e, hl⟩ <;> omega
theorem stp_le (l : List UInt8) (h : 0 < l.length) : stp l ≤ l.length := by
  have := wid_le l h
  unfold stp; split <;> omega
theorem dec_snd (l : List UInt8) : (dec l).2 = stp l := by
  unfold stp
  rcases first l with ⟨e, _, hd⟩ | ⟨e, _, hd⟩ | ⟨_, e, _, hd⟩ | ⟨_, e, _, hd⟩ | ⟨_, e, _, hd⟩ <;> rw [hd, e] <;> rfl
/-- It is stray just if the decoder tells an error of one byte. -/
theorem stray_iff (l : List UInt8) : ((dec l).1 = 65533 ∧ (dec l).2 = 1) ↔ wid l = 0 := by
  rcases first l with ⟨e, _, hd⟩ | ⟨e, h0, hd⟩ | ⟨r, e, _, hd⟩ | ⟨r, e, _, hd⟩ | ⟨r, e, _, hd⟩ <;> rw [hd, e] <;> simp <;> omega

def bodyF : Nat → List UInt8 → List UInt8
  | 0, _ => []
  | f + 1, l => if l.length = 0 then [] else (one l).1 ++ bodyF f (l.drop (stp l))
/-- The quoted text without its quotes. -/
def body (l : List UInt8) : List UInt8 := bodyF l.length l
theorem bodyF_more : ∀ (f : Nat) (l : List UInt8), l.length ≤ f → bodyF f l = body l := by
  intro f
  induction f using Nat.strongRecOn with
  | _ f ih =>
    intro l hl
    match f, l, hl with
    | 0, l, hl =>
      have : l.length = 0 := by omega
      unfold body; rw [this]
    | f + 1, l, hl =>
      by_cases h0 : l.length = 0
      · unfold body
        rw [h0]
        simp [bodyF, h0]
      · obtain ⟨g, hg⟩ : ∃ g, l.length = g + 1 := ⟨l.length - 1, by omega⟩
        have hs := stp_pos l
        have h1 := ih f (by omega) (l.drop (stp l)) (by rw [List.length_drop]; omega)
        have h2 : bodyF g (l.drop (stp l)) = body (l.drop (stp l)) := ih g (by omega) (l.drop (stp l)) (by rw [List.length_drop]; omega)
        unfold body
        rw [hg, bodyF, bodyF, if_neg h0, if_neg h0, h1, h2]
theorem body_nil : body [] = [] := rfl
theorem body_step (l : List UInt8) (h : 0 < l.length) : body l = (one l).1 ++ body (l.drop (stp l)) := by
  obtain ⟨g, hg⟩ : ∃ g, l.length = g + 1 := ⟨l.length - 1, by omega⟩
  have hs := stp_pos l
  conv => lhs; unfold body
  rw [hg, bodyF, if_neg (by omega), bodyF_more g _ (by rw [List.length_drop]; omega)]
/-- The quoted text. -/
def qt (l : List UInt8) : List UInt8 := 34 :: (body l ++ [34])
theorem one_len (l : List UInt8) : (one l).1.length ≤ 6 * stp l := by
  unfold one stp
  split
  · rename_i h; simp
  · split
    · rename_i h; simp; omega
    · split
      · rename_i h; simp; omega
      · split
        · rename_i h; simp; omega
        · simp; omega
theorem body_len (l : List UInt8) : (body l).length ≤ 6 * l.length := by
  generalize hn : l.length = n
  induction n using Nat.strongRecOn generalizing l with
  | _ n ih =>
    by_cases h : 0 < l.length
    · rw [body_step l h, List.length_append]
      have h1 := one_len l
      have h2 := stp_pos l
      have h3 := stp_le l h
      have := ih (n - stp l) (by omega) (l.drop (stp l)) (by rw [List.length_drop]; omega)
      omega
    · have : l = [] := List.eq_nil_of_length_eq_zero (by omega)
      subst this
      simp [body_nil]

/-- How many runes and stray bytes. -/
def cntF : Nat → List UInt8 → Nat × Nat
  | 0, _ => (0, 0)
  | f + 1, l => if l.length = 0 then (0, 0) else
    let p := cntF f (l.drop (stp l))
    if wid l = 0 then (p.1, p.2 + 1) else (p.1 + 1, p.2)
def cnt (l : List UInt8) : Nat × Nat := cntF l.length l
theorem cntF_more : ∀ (f : Nat) (l : List UInt8), l.length ≤ f → cntF f l = cnt l := by
  intro f
  induction f using Nat.strongRecOn with
  | _ f ih =>
    intro l hl
    match f, l, hl with
    | 0, l, hl =>
      have : l.length = 0 := by omega
      unfold cnt; rw [this]
    | f + 1, l, hl =>
      by_cases h0 : l.length = 0
      · unfold cnt
        rw [h0]
        simp [cntF, h0]
      · obtain ⟨g, hg⟩ : ∃ g, l.length = g + 1 := ⟨l.length - 1, by omega⟩
        have hs := stp_pos l
        have h1 := ih f (by omega) (l.drop (stp l)) (by rw [List.length_drop]; omega)
        have h2 : cntF g (l.drop (stp l)) = cnt (l.drop (stp l)) := ih g (by omega) (l.drop (stp l)) (by rw [List.length_drop]; omega)
        unfold cnt
        rw [hg, cntF, cntF, if_neg h0, if_neg h0, h1, h2]
theorem cnt_step (l : List UInt8) (h : 0 < l.length) : cnt l = if wid l = 0 then ((cnt (l.drop (stp l))).1, (cnt (l.drop (stp l))).2 + 1) else ((cnt (l.drop (stp l))).1 + 1, (cnt (l.drop (stp l))).2) := by
  obtain ⟨g, hg⟩ : ∃ g, l.length = g + 1 := ⟨l.length - 1, by omega⟩
  have hs := stp_pos l
  conv => lhs; unfold cnt
  rw [hg, cntF, if_neg (by omega), cntF_more g _ (by rw [List.length_drop]; omega)]
end Go.Proofs.YtgbdoccgdkifjaaDoor
