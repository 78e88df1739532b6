/- A block that was there stays, whatever is laid behind it. Byte slices that came in, told by their bytes: conversion to a string, the order of bytes. The quoted text, in plain Lean: widths, runes, the text, what is parsed of it. What is parsed of a quoted text, in plain Lean. What a round of the printing's loop meets. The walks of slices.Clone of bytes, keys.Next, the laws' small. -/
import Derived.Test.YtmbiiemlepfoaaaGreatDoorProg
import Derived.WalkKit
import Derived.Below
import Derived.Lib.Bytealg
import Derived.Lib.BytesEntry
import Derived.Lib.SliceRun
import Derived.Lib.Hide
import Derived.Lib.SlBytesConst
import Derived.Laws.BytesArg
import Derived.Maps.AppendAt
import Derived.Deep.QuietTactic
import Derived.BigQuiet
import Derived.WalkLawsBesides
import Derived.WalkSpells
import Derived.Outline
import Derived.Lib.DecodeN
import Derived.Lib.RuneBytes
import Derived.Lib.IndexBytes

/-! A block that was there stays, whatever is laid behind it. -/
namespace Go.Proofs.YtmbiiemlepfoaaaGreatDoor
theorem haOld (w : World) (o : Obj) {r : Nat} (h : r < w.heap.size) : (w.alloc o).heap[r]? = w.heap[r]? := by
  show (w.heap.push o)[r]? = _
  rw [Array.getElem?_push_lt h, Array.getElem?_eq_getElem h]
end Go.Proofs.YtmbiiemlepfoaaaGreatDoor

/-! Byte slices that came in, told by their bytes: conversion to a string, the order of bytes. -/
namespace Go.Proofs.YtmbiiemlepfoaaaGreatDoor
open Go.RowKit

/-- The string of some bytes. -/
def str (l : List UInt8) : ByteArray := ⟨l.toArray⟩
theorem str_data (l : List UInt8) : (str l).data.toList = l := rfl
theorem str_toList (l : List UInt8) : (str l).toList = l := ByteArray.toList_eq _
theorem str_size (l : List UInt8) : (str l).size = l.length := rfl

/-- A byte as a value; its number. -/
def bv (x : UInt8) : Value := .int .u8 (x.toNat : Int)

/-- WHAT IS TOLD OF A SLICE OF BYTES: its address p, its capacity c, its bytes l. -/
structure IsB (w : World) (p : Option Addr) (c : Nat) (l : List UInt8) : Prop where
  cap : l.length ≤ c
  nil : p = none → c = 0
  big : c ≤ maxLen
  cells : 0 < l.length → ∃ b o, p = some ⟨b, o, none⟩ ∧ b < w.heap.size ∧ ∀ i x, l[i]? = some x → w.cell? ⟨b, o + i, none⟩ = some (bv x)

theorem IsB.none_ (w : World) : IsB w none 0 [] := ⟨Nat.le_refl _, fun _ => rfl, Nat.zero_le _, fun h => absurd h (by simp)⟩

theorem IsB.keep {w w' : World} {p : Option Addr} {c : Nat} {l : List UInt8} (h : IsB w p c l) (hz : w.heap.size ≤ w'.heap.size) (hk : ∀ a : Addr, a.block < w.heap.size → w'.cell? a = w.cell? a) : IsB w' p c l :=
  ⟨h.cap, h.nil, h.big, fun hl => by
    obtain ⟨b, o, hp, hb, hc⟩ := h.cells hl
    exact ⟨b, o, hp, Nat.lt_of_lt_of_le hb hz, fun i x hx => (hk _ hb).trans (hc i x hx)⟩⟩

theorem IsB.below {w w' : World} {p : Option Addr} {c : Nat} {l : List UInt8} (h : IsB w p c l) (hb : Below w.heap.size w w') : IsB w' p c l :=
  h.keep hb.size fun _ ha => hb.cell ha

theorem IsB.drewN {w : World} {p : Option Addr} {c : Nat} {l : List UInt8} (h : IsB w p c l) (n : Nat) : IsB (w.drewN n) p c l := ⟨h.cap, h.nil, h.big, h.cells⟩
theorem IsB.drew {w : World} {p : Option Addr} {c : Nat} {l : List UInt8} (h : IsB w p c l) : IsB w.drew p c l := ⟨h.cap, h.nil, h.big, h.cells⟩

theorem IsB.alloc {w : World} {p : Option Addr} {c : Nat} {l : List UInt8} (h : IsB w p c l) (o : Obj) : IsB (w.alloc o) p c l :=
  h.below ((Below.refl _ _).alloc (Nat.le_refl _) o)

/-- A literal's row. -/
theorem IsB.lit (w : World) (l : List UInt8) (e : TypeId) (fr : Nat × Nat) (hl : l.length ≤ maxLen) : IsB (w.alloc (.cells (l.map bv).toArray e fr)) (some ⟨w.heap.size, 0, none⟩) l.length l :=
  ⟨Nat.le_refl _, fun h => by simp at h, hl, fun _ => ⟨w.heap.size, 0, rfl, by simp, fun i x hx => by
    rw [Nat.zero_add, World.cell?_alloc_mark]
    simp [hx]⟩⟩

/-- A cut at the end: 's[:k]'. -/
theorem IsB.take {w : World} {p : Option Addr} {c : Nat} {l : List UInt8} (h : IsB w p c l) (k : Nat) : IsB w p c (l.take k) :=
  ⟨by have := h.cap; rw [List.length_take]; omega, h.nil, h.big, fun hl => by
    obtain ⟨b, o, hp, hb, hc⟩ := h.cells (by rw [List.length_take] at hl; omega)
    exact ⟨b, o, hp, hb, fun i x hx => hc i x (by rw [List.getElem?_take] at hx; split at hx <;> simp_all)⟩⟩

section
variable {P : Program} {w : World} {p : Option Addr} {c : Nat} {l : List UInt8}

def nums (l : List UInt8) : List Int := l.map fun x => (x.toNat : Int)
theorem strOfNums_nums (l : List UInt8) : strOfNums (nums l) = str l := by
  unfold strOfNums nums str
  rw [List.map_map]
  congr 2
  conv => rhs; rw [← List.map_id l]
  apply List.map_congr_left
  intro x _
  simp
theorem nums_at {l : List UInt8} {i : Nat} (h : i < l.length) : (nums l).getD i 0 = (l[i].toNat : Int) := by
  unfold nums
  simp [List.getD, h]

theorem IsB.convert (h : IsB w p c l) {src e dst : TypeId} (hs : P.underlying src = some (.slice e)) (he : P.underlying e = some (.int .u8)) (hd : P.underlying dst = some .string) :
    (convert src dst (.slice p l.length c)).run P w = .ok (.string (str l)) w := by
  rcases Nat.eq_zero_or_pos l.length with h0 | h0
  · obtain rfl : l = [] := List.eq_nil_of_length_eq_zero h0
    rw [run_convert_bytes_string w src dst e _ _ c hs he hd]
    cases p <;> simp [Conv.bytesToString, loadCells]
    all_goals rfl
  · obtain ⟨b, o, rfl, _, hc⟩ := h.cells h0
    have := run_convert_bytes_arg (P := P) w src e hs he b o l.length c (nums l) (by simp [nums]) (fun i hi => by rw [nums_at hi]; exact hc i _ (List.getElem?_eq_getElem hi)) dst hd
    rwa [strOfNums_nums] at this

theorem bytesOf_nums (l : List UInt8) : Lib.bytesOf (nums l) = l := by
  unfold Lib.bytesOf nums
  rw [List.map_map]
  conv => rhs; rw [← List.map_id l]
  apply List.map_congr_left
  intro x _
  simp

theorem IsB.load (h : IsB w p c l) : (Extern.Bytes.bytesOf (.slice p l.length c)).run P w = .ok (str l) w := by
  rcases p with _ | a
  · have h0 : l = [] := List.eq_nil_of_length_eq_zero (by have := h.cap; have := h.nil rfl; omega)
    subst h0
    simp [Extern.Bytes.bytesOf]
    rfl
  · simp only [Extern.Bytes.bytesOf]
    rcases Nat.eq_zero_or_pos l.length with h0 | h0
    · obtain rfl : l = [] := List.eq_nil_of_length_eq_zero h0
      simp [Extern.Bytes.loadBytes]
      rfl
    · obtain ⟨b, o, hp, _, hc⟩ := h.cells h0
      obtain rfl := Option.some.inj hp
      have hl := Lib.run_loadBytesX (P := P) w (nums l) ⟨b, o, none⟩ .empty (fun j x hj => by
        have hjl : j < l.length := by have := (List.getElem?_eq_some_iff.1 hj).1; simpa [nums] using this
        have e : (⟨b, o, none⟩ : Addr).add j = ⟨b, o + j, none⟩ := by unfold Addr.add; split <;> simp_all
        rw [e, hc j _ (List.getElem?_eq_getElem hjl)]
        have := nums_at hjl
        rw [List.getD_eq_getElem?_getD, hj] at this
        simp at this
        rw [this]; rfl)
      rw [show (nums l).length = l.length from by simp [nums]] at hl
      rw [hl]
      congr 1
      apply ByteArray.ext
      show (#[] : Array UInt8) ++ (Lib.bytesOf (nums l)).toArray = l.toArray
      rw [bytesOf_nums]
      simp

theorem run_compare {p' : Option Addr} {c' : Nat} {l' : List UInt8} (h : IsB w p c l) (h' : IsB w p' c' l') :
    (Extern.BytealgCompare.compare #[.slice p l.length c, .slice p' l'.length c']).run P w = .ok (.int .i64 (Lib.compareBytes l l')) w := by
  change Sem.run P (do pure (goInt (Extern.BytealgCompare.cmp (← Extern.Bytes.bytesOf (.slice p l.length c)) (← Extern.Bytes.bytesOf (.slice p' l'.length c'))))) w = _
  simp only [Sem.run_bind, h.load, h'.load, Sem.run_pure, Result.andThen]
  rw [Lib.cmp_eq]
  rfl
end

end Go.Proofs.YtmbiiemlepfoaaaGreatDoor

/-! The quoted text, in plain Lean: widths, runes, the text, what is parsed of it. -/
namespace Go.Proofs.YtmbiiemlepfoaaaGreatDoor

/-- The number of the byte at a place (0 behind the end). -/
def bA (l : List UInt8) (i : Nat) : Nat := (l.getD i 0).toNat
theorem bA_lt (l : List UInt8) (i : Nat) : bA l i < 256 := (l.getD i 0).toNat_lt
theorem bA_drop (l : List UInt8) (k i : Nat) : bA (l.drop k) i = bA l (k + i) := by
  unfold bA
  rw [List.getD_eq_getElem?_getD, List.getD_eq_getElem?_getD, List.getElem?_drop]
def inR (l : List UInt8) (i lo hi : Nat) : Prop := i < l.length ∧ lo ≤ bA l i ∧ bA l i ≤ hi
instance (l : List UInt8) (i lo hi : Nat) : Decidable (inR l i lo hi) := by unfold inR; infer_instance
/-- How many bytes the rune has that stands first; 0: a stray byte does. -/
def wid (l : List UInt8) : Nat :=
  if bA l 0 < 128 then 1
  else if 194 ≤ bA l 0 ∧ bA l 0 ≤ 223 then (if inR l 1 128 191 then 2 else 0)
  else if 224 ≤ bA l 0 ∧ bA l 0 ≤ 239 then (if inR l 1 (if bA l 0 = 224 then 160 else 128) (if bA l 0 = 237 then 159 else 191) ∧ inR l 2 128 191 then 3 else 0)
  else if 240 ≤ bA l 0 ∧ bA l 0 ≤ 244 then (if inR l 1 (if bA l 0 = 240 then 144 else 128) (if bA l 0 = 244 then 143 else 191) ∧ inR l 2 128 191 ∧ inR l 3 128 191 then 4 else 0)
  else 0
def decq (l : List UInt8) : Nat × Nat := Lib.decodeN l.length (bA l 0) (bA l 1) (bA l 2) (bA l 3)

/-- WHAT STANDS FIRST. -/
inductive First (l : List UInt8) : Prop
  | stray (h : wid l = 0) (h0 : 128 ≤ bA l 0) (hd : decq l = (65533, 1))
  | one (h : wid l = 1) (h0 : bA l 0 < 128) (hd : decq l = (bA l 0, 1))
  | two (r : Nat) (h : wid l = 2) (hl : 2 ≤ l.length) (hd : decq l = (r, 2)) (h1 : 128 ≤ r) (h2 : r ≤ 2047) (e0 : bA l 0 = 192 + r / 64) (e1 : bA l 1 = 128 + r % 64)
  | three (r : Nat) (h : wid l = 3) (hl : 3 ≤ l.length) (hd : decq l = (r, 3)) (h1 : 2048 ≤ r) (h2 : r < 55296 ∨ 57343 < r) (h3 : r ≤ 65535) (e0 : bA l 0 = 224 + r / 4096) (e1 : bA l 1 = 128 + r / 64 % 64) (e2 : bA l 2 = 128 + r % 64)
  | four (r : Nat) (h : wid l = 4) (hl : 4 ≤ l.length) (hd : decq l = (r, 4)) (h1 : 65536 ≤ r) (h2 : r ≤ 1114111) (e0 : bA l 0 = 240 + r / 262144) (e1 : bA l 1 = 128 + r / 4096 % 64) (e2 : bA l 2 = 128 + r / 64 % 64) (e3 : bA l 3 = 128 + r % 64)
theorem first (l : List UInt8) : First l := by
  have a0 := bA_lt l 0
  have a1 := bA_lt l 1
  have a2 := bA_lt l 2
  have a3 := bA_lt l 3
  by_cases h0 : bA l 0 < 128
  · refine .one ?_ h0 ?_
    · unfold wid; rw [if_pos h0]
    · unfold decq Lib.decodeN; rw [if_pos h0]
  by_cases h1 : 194 ≤ bA l 0 ∧ bA l 0 ≤ 223
  · by_cases i1 : inR l 1 128 191
    · obtain ⟨j1, j2, j3⟩ := i1
      refine .two (bA l 0 % 32 * 64 + bA l 1 % 64) ?_ (by omega) ?_ (by omega) (by omega) (by omega) (by omega)
      · unfold wid; rw [if_neg h0, if_pos h1, if_pos ⟨j1, j2, j3⟩]
      · unfold decq Lib.decodeN; rw [if_neg h0, if_pos ⟨by omega, j1, by omega⟩, if_pos (by omega)]
    · refine .stray ?_ (by omega) ?_
      · unfold wid; rw [if_neg h0, if_pos h1, if_neg i1]
      · unfold decq Lib.decodeN
        have n1 : ¬ (bA l 0 / 32 = 6 ∧ (1 < l.length ∧ bA l 1 / 64 = 2)) := fun ⟨_, q1, q2⟩ => i1 ⟨q1, by omega, by omega⟩
        rw [if_neg h0, if_neg n1, if_neg (by omega), if_neg (by omega)]
  by_cases h2 : 224 ≤ bA l 0 ∧ bA l 0 ≤ 239
  · by_cases i1 : inR l 1 (if bA l 0 = 224 then 160 else 128) (if bA l 0 = 237 then 159 else 191) ∧ inR l 2 128 191
    · have hw : wid l = 3 := by unfold wid; rw [if_neg h0, if_neg h1, if_pos h2, if_pos i1]
      obtain ⟨⟨j1, j2, j3⟩, j4, j5, j6⟩ := i1
      have j7 : 128 ≤ bA l 1 ∧ bA l 1 ≤ 191 ∧ (bA l 0 = 224 → 160 ≤ bA l 1) ∧ (bA l 0 = 237 → bA l 1 ≤ 159) := by
        split at j2 <;> split at j3 <;> omega
      refine .three (bA l 0 % 16 * 4096 + bA l 1 % 64 * 64 + bA l 2 % 64) hw (by omega) ?_ (by omega) (by omega) (by omega) (by omega) (by omega) (by omega)
      unfold decq Lib.decodeN
      rw [if_neg h0, if_neg (by omega), if_pos ⟨by omega, ⟨j1, by omega⟩, j4, by omega⟩, if_pos (by omega)]
    · refine .stray ?_ (by omega) ?_
      · unfold wid; rw [if_neg h0, if_neg h1, if_pos h2, if_neg i1]
      · unfold decq Lib.decodeN
        rw [if_neg h0, if_neg (by omega)]
        split
        · rename_i q
          obtain ⟨_, ⟨q1, q2⟩, q3, q4⟩ := q
          rw [if_neg]
          intro q5
          refine i1 ⟨⟨q1, ?_, ?_⟩, q3, by omega, by omega⟩
          · split <;> omega
          · split <;> omega
        · rw [if_neg (by omega)]
  by_cases h3 : 240 ≤ bA l 0 ∧ bA l 0 ≤ 244
  · by_cases i1 : inR l 1 (if bA l 0 = 240 then 144 else 128) (if bA l 0 = 244 then 143 else 191) ∧ inR l 2 128 191 ∧ inR l 3 128 191
    · have hw : wid l = 4 := by unfold wid; rw [if_neg h0, if_neg h1, if_neg h2, if_pos h3, if_pos i1]
      obtain ⟨⟨j1, j2, j3⟩, ⟨j4, j5, j6⟩, k4, k5, k6⟩ := i1
      have j7 : 128 ≤ bA l 1 ∧ bA l 1 ≤ 191 ∧ (bA l 0 = 240 → 144 ≤ bA l 1) ∧ (bA l 0 = 244 → bA l 1 ≤ 143) := by
        split at j2 <;> split at j3 <;> omega
      refine .four (bA l 0 % 8 * 262144 + bA l 1 % 64 * 4096 + bA l 2 % 64 * 64 + bA l 3 % 64) hw (by omega) ?_ (by omega) (by omega) (by omega) (by omega) (by omega) (by omega)
      unfold decq Lib.decodeN
      rw [if_neg h0, if_neg (by omega), if_neg (by omega), if_pos ⟨by omega, ⟨j1, by omega⟩, ⟨j4, by omega⟩, k4, by omega⟩, if_pos (by omega)]
    · refine .stray ?_ (by omega) ?_
      · unfold wid; rw [if_neg h0, if_neg h1, if_neg h2, if_pos h3, if_neg i1]
      · unfold decq Lib.decodeN
        rw [if_neg h0, if_neg (by omega), if_neg (by omega)]
        split
        · rename_i q
          obtain ⟨_, ⟨q1, q2⟩, ⟨q3, q4⟩, q6, q7⟩ := q
          rw [if_neg]
          intro q5
          refine i1 ⟨⟨q1, ?_, ?_⟩, ⟨q3, by omega, by omega⟩, q6, by omega, by omega⟩
          · split <;> omega
          · split <;> omega
        · rfl
  refine .stray ?_ (by omega) ?_
  · unfold wid; rw [if_neg h0, if_neg h1, if_neg h2, if_neg h3]
  · unfold decq Lib.decodeN
    rw [if_neg h0]
    split
    · rw [if_neg (by omega)]
    · rw [if_neg (by omega)]
      split
      · rw [if_neg (by omega)]
      · rfl

/-- A digit of a number from 0 to 15. -/
def dig (n : Nat) : UInt8 := UInt8.ofNat (if n < 10 then 48 + n else 87 + n)
/-- What stands for what is first, and how many bytes that has. -/
def one (l : List UInt8) : List UInt8 × Nat :=
  if wid l = 0 then ([92, 120, dig (bA l 0 / 16), dig (bA l 0 % 16)], 1)
  else if wid l = 1 ∧ (bA l 0 = 34 ∨ bA l 0 = 92) then (92 :: l.take 1, 1)
  else if wid l = 1 ∧ (bA l 0 < 32 ∨ bA l 0 = 127) then ([92, 117, 48, 48, dig (bA l 0 / 16), dig (bA l 0 % 16)], 1)
  else if wid l = 2 ∧ bA l 0 = 194 ∧ bA l 1 < 160 then ([92, 117, 48, 48, dig (bA l 1 / 16), dig (bA l 1 % 16)], 2)
  else (l.take (wid l), wid l)
/-- How many bytes are gone behind what is first. -/
def stp (l : List UInt8) : Nat := if wid l = 0 then 1 else wid l
theorem one_snd (l : List UInt8) : (one l).2 = stp l := by
  unfold one stp
  split
  · rfl
  · split
    · rename_i h; simp only; omega
    · split
      · rename_i h; simp only; omega
      · split
        · rename_i h; simp only; omega
        · rfl
theorem stp_pos (l : List UInt8) : 1 ≤ stp l := by unfold stp; split <;> omega
theorem wid_le (l : List UInt8) (h : 0 < l.length) : wid l ≤ l.length := by
  rcases first l with ⟨e⟩ | ⟨e⟩ | ⟨_, e, hl⟩ | ⟨_, e, hl⟩ | ⟨_, e, hl⟩ <;> omega
theorem stp_le (l : List UInt8) (h : 0 < l.length) : stp l ≤ l.length := by
  have := wid_le l h
  unfold stp; split <;> omega
theorem dec_snd (l : List UInt8) : (decq l).2 = stp l := by
  unfold stp
  rcases first l with ⟨e, _, hd⟩ | ⟨e, _, hd⟩ | ⟨_, e, _, hd⟩ | ⟨_, e, _, hd⟩ | ⟨_, e, _, hd⟩ <;> rw [hd, e] <;> rfl
/-- It is stray just if the decoder tells an error of one byte. -/
theorem stray_iff (l : List UInt8) : ((decq l).1 = 65533 ∧ (decq l).2 = 1) ↔ wid l = 0 := by
  rcases first l with ⟨e, _, hd⟩ | ⟨e, h0, hd⟩ | ⟨r, e, _, hd⟩ | ⟨r, e, _, hd⟩ | ⟨r, e, _, hd⟩ <;> rw [hd, e] <;> simp <;> omega

def bodyF : Nat → List UInt8 → List UInt8
  | 0, _ => []
  | f + 1, l => if l.length = 0 then [] else (one l).1 ++ bodyF f (l.drop (stp l))
/-- The quoted text without its quotes. -/
def body (l : List UInt8) : List UInt8 := bodyF l.length l
theorem bodyF_more : ∀ (f : Nat) (l : List UInt8), l.length ≤ f → bodyF f l = body l := by
  intro f
  induction f using Nat.strongRecOn with
  | _ f ih =>
    intro l hl
    match f, l, hl with
    | 0, l, hl =>
      have : l.length = 0 := by omega
      unfold body; rw [this]
    | f + 1, l, hl =>
      by_cases h0 : l.length = 0
      · unfold body
        rw [h0]
        simp [bodyF, h0]
      · obtain ⟨g, hg⟩ : ∃ g, l.length = g + 1 := ⟨l.length - 1, by omega⟩
        have hs := stp_pos l
        have h1 := ih f (by omega) (l.drop (stp l)) (by rw [List.length_drop]; omega)
        have h2 : bodyF g (l.drop (stp l)) = body (l.drop (stp l)) := ih g (by omega) (l.drop (stp l)) (by rw [List.length_drop]; omega)
        unfold body
        rw [hg, bodyF, bodyF, if_neg h0, if_neg h0, h1, h2]
theorem body_nil : body [] = [] := rfl
theorem body_step (l : List UInt8) (h : 0 < l.length) : body l = (one l).1 ++ body (l.drop (stp l)) := by
  obtain ⟨g, hg⟩ : ∃ g, l.length = g + 1 := ⟨l.length - 1, by omega⟩
  have hs := stp_pos l
  conv => lhs; unfold body
  rw [hg, bodyF, if_neg (by omega), bodyF_more g _ (by rw [List.length_drop]; omega)]
/-- The quoted text. -/
def qt (l : List UInt8) : List UInt8 := 34 :: (body l ++ [34])
theorem one_len (l : List UInt8) : (one l).1.length ≤ 6 * stp l := by
  unfold one stp
  split
  · rename_i h; simp
  · split
    · rename_i h; simp; omega
    · split
      · rename_i h; simp; omega
      · split
        · rename_i h; simp; omega
        · simp; omega
theorem body_len (l : List UInt8) : (body l).length ≤ 6 * l.length := by
  generalize hn : l.length = n
  induction n using Nat.strongRecOn generalizing l with
  | _ n ih =>
    by_cases h : 0 < l.length
    · rw [body_step l h, List.length_append]
      have h1 := one_len l
      have h2 := stp_pos l
      have h3 := stp_le l h
      have := ih (n - stp l) (by omega) (l.drop (stp l)) (by rw [List.length_drop]; omega)
      omega
    · have : l = [] := List.eq_nil_of_length_eq_zero (by omega)
      subst this
      simp [body_nil]

/-- How many runes and stray bytes. -/
def cntF : Nat → List UInt8 → Nat × Nat
  | 0, _ => (0, 0)
  | f + 1, l => if l.length = 0 then (0, 0) else
    let p := cntF f (l.drop (stp l))
    if wid l = 0 then (p.1, p.2 + 1) else (p.1 + 1, p.2)
def cnt (l : List UInt8) : Nat × Nat := cntF l.length l
theorem cntF_more : ∀ (f : Nat) (l : List UInt8), l.length ≤ f → cntF f l = cnt l := by
  intro f
  induction f using Nat.strongRecOn with
  | _ f ih =>
    intro l hl
    match f, l, hl with
    | 0, l, hl =>
      have : l.length = 0 := by omega
      unfold cnt; rw [this]
    | f + 1, l, hl =>
      by_cases h0 : l.length = 0
      · unfold cnt
        rw [h0]
        simp [cntF, h0]
      · obtain ⟨g, hg⟩ : ∃ g, l.length = g + 1 := ⟨l.length - 1, by omega⟩
        have hs := stp_pos l
        have h1 := ih f (by omega) (l.drop (stp l)) (by rw [List.length_drop]; omega)
        have h2 : cntF g (l.drop (stp l)) = cnt (l.drop (stp l)) := ih g (by omega) (l.drop (stp l)) (by rw [List.length_drop]; omega)
        unfold cnt
        rw [hg, cntF, cntF, if_neg h0, if_neg h0, h1, h2]
theorem cnt_step (l : List UInt8) (h : 0 < l.length) : cnt l = if wid l = 0 then ((cnt (l.drop (stp l))).1, (cnt (l.drop (stp l))).2 + 1) else ((cnt (l.drop (stp l))).1 + 1, (cnt (l.drop (stp l))).2) := by
  obtain ⟨g, hg⟩ : ∃ g, l.length = g + 1 := ⟨l.length - 1, by omega⟩
  have hs := stp_pos l
  conv => lhs; unfold cnt
  rw [hg, cntF, if_neg (by omega), cntF_more g _ (by rw [List.length_drop]; omega)]
end Go.Proofs.YtmbiiemlepfoaaaGreatDoor

/-! What is parsed of a quoted text, in plain Lean. -/
namespace Go.Proofs.YtmbiiemlepfoaaaGreatDoor

theorem u8_eq {a b : UInt8} (h : a.toNat = b.toNat) : a = b := UInt8.toNat_inj.1 h
theorem dig_toNat {n : Nat} (h : n < 16) : (dig n).toNat = if n < 10 then 48 + n else 87 + n := by
  unfold dig
  rw [UInt8.toNat_ofNat', Nat.mod_eq_of_lt]
  split <;> omega
/-- The value of a digit. -/
def hexv (c : UInt8) : Option Nat := if 48 ≤ c.toNat ∧ c.toNat ≤ 57 then some (c.toNat - 48) else if 97 ≤ c.toNat ∧ c.toNat ≤ 102 then some (c.toNat - 87) else none
theorem hexv_dig {n : Nat} (h : n < 16) : hexv (dig n) = some n := by
  have := dig_toNat h
  unfold hexv
  split at this
  · rw [if_pos (by omega)]; congr 1; omega
  · rw [if_neg (by omega), if_pos (by omega)]; congr 1; omega
theorem hexv_lt {c : UInt8} {n : Nat} (h : hexv c = some n) : n < 16 := by
  unfold hexv at h
  split at h
  · injection h; omega
  · split at h
    · injection h; omega
    · cases h
/-- The number of digits. -/
def num : Nat → List UInt8 → Option Nat
  | a, [] => some a
  | a, c :: r => match hexv c with
    | none => none
    | some d => num (a * 16 + d) r
/-- What stands behind a backslash, and how long that is. -/
def esc (l : List UInt8) : Option (List UInt8 × Nat) :=
  match l with
  | [] => none
  | c :: r =>
    if c.toNat = 34 ∨ c.toNat = 92 then some ([c], 1)
    else if c.toNat = 120 then (if 2 ≤ r.length then (num 0 (r.take 2)).map fun n => ([UInt8.ofNat n], 3) else none)
    else if c.toNat = 117 then (if 4 ≤ r.length then (num 0 (r.take 4)).map fun n : Nat => (Lib.encodeRune (n : Int), 5) else none)
    else none
theorem num_lt : ∀ (l : List UInt8) (a n : Nat), num a l = some n → n < (a + 1) * 16 ^ l.length
  | [], a, n, h => by injection h with h; subst h; simp
  | c :: r, a, n, h => by
    rw [num] at h
    split at h
    · cases h
    · rename_i d hd
      have := num_lt r _ n h
      have hd2 := hexv_lt hd
      have h3 : (a * 16 + d + 1) * 16 ^ r.length ≤ ((a + 1) * 16) * 16 ^ r.length := Nat.mul_le_mul_right _ (by omega)
      rw [List.length_cons, Nat.pow_succ', ← Nat.mul_assoc]
      omega
theorem encodeRune_len (r : Int) : (Lib.encodeRune r).length ≤ 4 := by
  unfold Lib.encodeRune Lib.encodeRuneZ
  rw [List.length_map]
  repeat' split
  all_goals simp
/-- The first place of a byte. -/
def fnd (c : UInt8) : List UInt8 → Option Nat
  | [] => none
  | x :: r => if x = c then some 0 else (fnd c r).map (· + 1)
theorem fnd_lt {c : UInt8} : ∀ {l : List UInt8} {k : Nat}, fnd c l = some k → k < l.length
  | [], _, h => by cases h
  | x :: r, k, h => by
    rw [fnd] at h
    split at h
    · injection h with h; subst h; simp
    · rw [Option.map_eq_some_iff] at h
      obtain ⟨j, hj, rfl⟩ := h
      have := fnd_lt hj
      simp; omega
theorem fnd_pre {c : UInt8} : ∀ (p : List UInt8) (r : List UInt8), (∀ x ∈ p, x ≠ c) → fnd c (p ++ c :: r) = some p.length
  | [], r, _ => by simp [fnd]
  | x :: p, r, h => by
    rw [List.cons_append, fnd, if_neg (h x (List.mem_cons_self ..)), fnd_pre p r (fun y hy => h y (List.mem_cons_of_mem _ hy))]
    rfl
theorem fnd_none {c : UInt8} : ∀ (p : List UInt8), (∀ x ∈ p, x ≠ c) → fnd c p = none
  | [], _ => rfl
  | x :: p, h => by
    rw [fnd, if_neg (h x (List.mem_cons_self ..)), fnd_none p (fun y hy => h y (List.mem_cons_of_mem _ hy))]
    rfl
/-- The parsing's loop. -/
def unqF : Nat → List UInt8 → List UInt8 → Option (List UInt8)
  | 0, out, _ => some out
  | f + 1, out, rest => if rest.length = 0 then some out else
    match fnd 92 rest with
    | none => some (out ++ rest)
    | some k => match esc (rest.drop (k + 1)) with
      | none => none
      | some (t, n) => unqF f (out ++ rest.take k ++ t) (rest.drop (k + 1 + n))
def unq (out rest : List UInt8) : Option (List UInt8) := unqF rest.length out rest
theorem unqF_more : ∀ (f : Nat) (out rest : List UInt8), rest.length ≤ f → unqF f out rest = unq out rest := by
  intro f
  induction f using Nat.strongRecOn with
  | _ f ih =>
    intro out l hl
    match f, l, hl with
    | 0, l, hl =>
      have : l.length = 0 := by omega
      unfold unq; rw [this]
    | f + 1, l, hl =>
      by_cases h0 : l.length = 0
      · unfold unq
        rw [h0]
        simp [unqF, h0]
      · obtain ⟨g, hg⟩ : ∃ g, l.length = g + 1 := ⟨l.length - 1, by omega⟩
        unfold unq
        rw [hg, unqF, unqF, if_neg h0, if_neg h0]
        cases hk : fnd 92 l with
        | none => rfl
        | some k =>
          dsimp only
          cases he : esc (l.drop (k + 1)) with
          | none => rfl
          | some p =>
            obtain ⟨t, n⟩ := p
            dsimp only
            rw [ih f (by omega) _ _ (by rw [List.length_drop]; omega), ih g (by omega) _ _ (by rw [List.length_drop]; omega)]
theorem unq_nil (out : List UInt8) : unq out [] = some out := rfl
theorem unq_step (out rest : List UInt8) (h : 0 < rest.length) : unq out rest = match fnd 92 rest with
    | none => some (out ++ rest)
    | some k => match esc (rest.drop (k + 1)) with
      | none => none
      | some (t, n) => unq (out ++ rest.take k ++ t) (rest.drop (k + 1 + n)) := by
  obtain ⟨g, hg⟩ : ∃ g, rest.length = g + 1 := ⟨rest.length - 1, by omega⟩
  conv => lhs; unfold unq
  rw [hg, unqF, if_neg (by omega)]
  cases hk : fnd 92 rest with
  | none => rfl
  | some k =>
    dsimp only
    cases he : esc (rest.drop (k + 1)) with
    | none => rfl
    | some p =>
      obtain ⟨t, n⟩ := p
      dsimp only
      exact unqF_more g _ _ (by rw [List.length_drop]; omega)
theorem unq_esc (out pre t r : List UInt8) (e : List UInt8) (hp : ∀ x ∈ pre, x ≠ 92) (he : esc (e ++ r) = some (t, e.length)) : unq out (pre ++ (92 :: e ++ r)) = unq (out ++ pre ++ t) r := by
  rw [unq_step _ _ (by simp; omega), List.cons_append, fnd_pre pre _ hp]
  dsimp only
  have h1 : (pre ++ 92 :: (e ++ r)).drop (pre.length + 1) = e ++ r := by
    rw [← List.drop_drop, List.drop_left]; rfl
  have h2 : (pre ++ 92 :: (e ++ r)).drop (pre.length + 1 + e.length) = r := by
    rw [← List.drop_drop, h1, List.drop_left]
  rw [h1, he]
  dsimp only
  rw [h2, List.take_left]
theorem take_one {l : List UInt8} (h : 0 < l.length) : l.take 1 = [l.getD 0 0] := by
  match l, h with
  | x :: r, _ => rfl
theorem take_two {l : List UInt8} (h : 1 < l.length) : l.take 2 = [l.getD 0 0, l.getD 1 0] := by
  match l, h with
  | x :: y :: r, _ => rfl
theorem take_three {l : List UInt8} (h : 2 < l.length) : l.take 3 = [l.getD 0 0, l.getD 1 0, l.getD 2 0] := by
  match l, h with
  | x :: y :: z :: r, _ => rfl
theorem take_four {l : List UInt8} (h : 3 < l.length) : l.take 4 = [l.getD 0 0, l.getD 1 0, l.getD 2 0, l.getD 3 0] := by
  match l, h with
  | x :: y :: z :: u :: r, _ => rfl
theorem esc_x (n : Nat) (hn : n < 256) (r : List UInt8) : esc ([120, dig (n / 16), dig (n % 16)] ++ r) = some ([UInt8.ofNat n], 3) := by
  simp only [List.cons_append, List.nil_append, esc]
  rw [if_neg (by decide), if_pos (by decide), if_pos (by simp)]
  simp only [List.take_succ_cons, List.take_zero, num, hexv_dig (show n / 16 < 16 by omega), hexv_dig (show n % 16 < 16 by omega), Option.map_some]
  rw [show (0 * 16 + n / 16) * 16 + n % 16 = n from by omega]
theorem esc_u (n : Nat) (hn : n < 256) (r : List UInt8) : esc ([117, 48, 48, dig (n / 16), dig (n % 16)] ++ r) = some (Lib.encodeRune (n : Int), 5) := by
  have h48 : hexv 48 = some 0 := by decide
  simp only [List.cons_append, List.nil_append, esc]
  rw [if_neg (by decide), if_neg (by decide), if_pos (by decide), if_pos (by simp)]
  simp only [List.take_succ_cons, List.take_zero, num, h48, hexv_dig (show n / 16 < 16 by omega), hexv_dig (show n % 16 < 16 by omega), Option.map_some]
  rw [show (((0 * 16 + 0) * 16 + 0) * 16 + n / 16) * 16 + n % 16 = n from by omega]
theorem encode_one {n : Nat} (h : n < 128) : Lib.encodeRune (n : Int) = [UInt8.ofNat n] := by
  unfold Lib.encodeRune
  rw [Lib.encodeRuneZ_one (by omega) (by omega)]
  simp
theorem encode_two {n : Nat} (h : 128 ≤ n) (h2 : n ≤ 2047) : Lib.encodeRune (n : Int) = [UInt8.ofNat (192 + n / 64), UInt8.ofNat (128 + n % 64)] := by
  unfold Lib.encodeRune
  rw [Lib.encodeRuneZ_two (by omega) (by omega)]
  simp only [List.map_cons, List.map_nil]
  rfl
theorem ofNat_bA (l : List UInt8) (i : Nat) : UInt8.ofNat (bA l i) = l.getD i 0 := by
  apply u8_eq
  rw [UInt8.toNat_ofNat', Nat.mod_eq_of_lt (bA_lt l i)]
  rfl
/-- WHAT IS PARSED OF THE QUOTED TEXT IS WHAT WAS QUOTED. -/
theorem unq_body : ∀ (n : Nat) (l : List UInt8), l.length = n → ∀ out pre : List UInt8, (∀ x ∈ pre, x ≠ 92) → unq out (pre ++ body l) = some (out ++ pre ++ l) := by
  intro n
  induction n using Nat.strongRecOn with
  | _ n ih =>
    intro l hn out pre hp
    by_cases h : 0 < l.length
    · have hs := stp_pos l
      have hsl := stp_le l h
      have hr := fun out pre hp => ih (n - stp l) (by omega) (l.drop (stp l)) (by rw [List.length_drop]; omega) out pre hp
      have hb := bA_lt l 0
      have hb1 := bA_lt l 1
      have hone := one_snd l
      have hcat : l.take (stp l) ++ l.drop (stp l) = l := List.take_append_drop ..
      rw [body_step l h]
      unfold one at hone ⊢
      split at hone
      · rename_i hw
        dsimp only at hone
        rw [if_pos hw]
        have := unq_esc out pre [UInt8.ofNat (bA l 0)] (body (l.drop (stp l))) [120, dig (bA l 0 / 16), dig (bA l 0 % 16)] hp (esc_x _ hb _)
        rw [show [92, 120, dig (bA l 0 / 16), dig (bA l 0 % 16)] ++ body (l.drop (stp l)) = 92 :: [120, dig (bA l 0 / 16), dig (bA l 0 % 16)] ++ body (l.drop (stp l)) from rfl, this]
        have h2 := hr (out ++ pre ++ [UInt8.ofNat (bA l 0)]) [] (by simp)
        rw [List.nil_append, List.append_nil] at h2
        rw [h2, ofNat_bA, ← take_one h, List.append_assoc (out ++ pre), hone, hcat]
      · rename_i hw
        rw [if_neg hw]
        split at hone
        · rename_i hq
          dsimp only at hone
          rw [if_pos hq]
          have h1 : l.take 1 = [l.getD 0 0] := take_one h
          have he : esc (l.take 1 ++ body (l.drop (stp l))) = some (l.take 1, (l.take 1).length) := by
            rw [h1]
            simp only [List.cons_append, List.nil_append, esc]
            rw [if_pos (show (l.getD 0 0).toNat = 34 ∨ (l.getD 0 0).toNat = 92 from hq.2)]
            rfl
          have := unq_esc out pre (l.take 1) (body (l.drop (stp l))) (l.take 1) hp he
          rw [show 92 :: l.take 1 ++ body (l.drop (stp l)) = 92 :: l.take 1 ++ body (l.drop (stp l)) from rfl, this]
          have h2 := hr (out ++ pre ++ l.take 1) [] (by simp)
          rw [List.nil_append, List.append_nil] at h2
          rw [h2, List.append_assoc (out ++ pre), hone, hcat]
        · rename_i hq
          rw [if_neg hq]
          split at hone
          · rename_i hc
            dsimp only at hone
            rw [if_pos hc]
            have := unq_esc out pre (Lib.encodeRune ((bA l 0 : Nat) : Int)) (body (l.drop (stp l))) [117, 48, 48, dig (bA l 0 / 16), dig (bA l 0 % 16)] hp (esc_u _ hb _)
            rw [show [92, 117, 48, 48, dig (bA l 0 / 16), dig (bA l 0 % 16)] ++ body (l.drop (stp l)) = 92 :: [117, 48, 48, dig (bA l 0 / 16), dig (bA l 0 % 16)] ++ body (l.drop (stp l)) from rfl, this]
            have h2 := hr (out ++ pre ++ Lib.encodeRune ((bA l 0 : Nat) : Int)) [] (by simp)
            rw [List.nil_append, List.append_nil] at h2
            rw [h2, encode_one (by omega), ofNat_bA, ← take_one h, List.append_assoc (out ++ pre), hone, hcat]
          · rename_i hc
            rw [if_neg hc]
            split at hone
            · rename_i h2b
              dsimp only at hone
              rw [if_pos h2b]
              have := unq_esc out pre (Lib.encodeRune ((bA l 1 : Nat) : Int)) (body (l.drop (stp l))) [117, 48, 48, dig (bA l 1 / 16), dig (bA l 1 % 16)] hp (esc_u _ hb1 _)
              rw [show [92, 117, 48, 48, dig (bA l 1 / 16), dig (bA l 1 % 16)] ++ body (l.drop (stp l)) = 92 :: [117, 48, 48, dig (bA l 1 / 16), dig (bA l 1 % 16)] ++ body (l.drop (stp l)) from rfl, this]
              have h2 := hr (out ++ pre ++ Lib.encodeRune ((bA l 1 : Nat) : Int)) [] (by simp)
              rw [List.nil_append, List.append_nil] at h2
              have hl2 : 1 < l.length := by omega
              have h128 : 128 ≤ bA l 1 := by
                rcases first l with ⟨e⟩ | ⟨e⟩ | ⟨r, e, _, _, _, _, _, e1⟩ | ⟨_, e⟩ | ⟨_, e⟩ <;> omega
              have hte : Lib.encodeRune ((bA l 1 : Nat) : Int) = l.take 2 := by
                rw [encode_two h128 (by omega), take_two hl2, ← ofNat_bA l 0, ← ofNat_bA l 1]
                rw [show 192 + bA l 1 / 64 = bA l 0 from by omega, show 128 + bA l 1 % 64 = bA l 1 from by omega]
              rw [h2, hte, List.append_assoc (out ++ pre), hone, hcat]
            · rename_i h2b
              rw [if_neg h2b]
              dsimp only at hone
              have hpre : ∀ x ∈ pre ++ l.take (wid l), x ≠ 92 := by
                intro x hx
                rcases List.mem_append.1 hx with hx | hx
                · exact hp x hx
                · intro e
                  subst e
                  rcases first l with ⟨e⟩ | ⟨e, e0⟩ | ⟨r, e, hl, _, _, _, e0, e1⟩ | ⟨r, e, hl, _, _, _, _, e0, e1, e2⟩ | ⟨r, e, hl, _, _, _, e0, e1, e2, e3⟩
                  · omega
                  · rw [e, take_one h] at hx
                    simp at hx
                    have : bA l 0 = 92 := by unfold bA; rw [List.getD_eq_getElem?_getD, ← hx]; rfl
                    omega
                  · rw [e, take_two (by omega)] at hx
                    have k0 : bA l 0 = (l.getD 0 0).toNat := rfl
                    have k1 : bA l 1 = (l.getD 1 0).toNat := rfl
                    simp only [List.mem_cons, List.not_mem_nil, or_false] at hx
                    rcases hx with hx | hx <;> (have hx := congrArg UInt8.toNat hx; change 92 = _ at hx; omega)
                  · rw [e, take_three (by omega)] at hx
                    have k0 : bA l 0 = (l.getD 0 0).toNat := rfl
                    have k1 : bA l 1 = (l.getD 1 0).toNat := rfl
                    have k2 : bA l 2 = (l.getD 2 0).toNat := rfl
                    simp only [List.mem_cons, List.not_mem_nil, or_false] at hx
                    rcases hx with hx | hx | hx <;> (have hx := congrArg UInt8.toNat hx; change 92 = _ at hx; omega)
                  · rw [e, take_four (by omega)] at hx
                    have k0 : bA l 0 = (l.getD 0 0).toNat := rfl
                    have k1 : bA l 1 = (l.getD 1 0).toNat := rfl
                    have k2 : bA l 2 = (l.getD 2 0).toNat := rfl
                    have k3 : bA l 3 = (l.getD 3 0).toNat := rfl
                    simp only [List.mem_cons, List.not_mem_nil, or_false] at hx
                    rcases hx with hx | hx | hx | hx <;> (have hx := congrArg UInt8.toNat hx; change 92 = _ at hx; omega)
              have h2 := hr out (pre ++ l.take (wid l)) hpre
              rw [List.append_assoc] at h2
              rw [h2, hone, ← List.append_assoc out, List.append_assoc (out ++ pre), hcat]
    · have : l = [] := List.eq_nil_of_length_eq_zero (by omega)
      subst this
      rw [body_nil, List.append_nil, List.append_nil]
      by_cases hp0 : 0 < pre.length
      · rw [unq_step _ _ hp0, fnd_none pre hp]
      · have : pre = [] := List.eq_nil_of_length_eq_zero (by omega)
        subst this
        simp [unq_nil]
theorem unq_of (l : List UInt8) : unq [] (body l) = some l := by
  have := unq_body _ l rfl [] [] (by simp)
  simpa using this
theorem body_inj {a b : List UInt8} (h : body a = body b) : a = b := by
  have h1 := unq_of a
  rw [h, unq_of b] at h1
  exact (Option.some.inj h1).symm
theorem qt_inj {a b : List UInt8} (h : qt a = qt b) : a = b := by
  unfold qt at h
  injection h with _ h
  exact body_inj (List.append_cancel_right h)
end Go.Proofs.YtmbiiemlepfoaaaGreatDoor

/-! What a round of the printing's loop meets. -/
namespace Go.Proofs.YtmbiiemlepfoaaaGreatDoor

inductive Kind (m : List UInt8) : Prop
  | stray (hw : wid m = 0) (hd : decq m = (65533, 1)) (ho : (one m).1 = [92, 120, dig (bA m 0 / 16), dig (bA m 0 % 16)]) (hs : stp m = 1)
  | quote (r : Nat) (hw : wid m ≠ 0) (hd : decq m = (r, 1)) (hr : r = 34 ∨ r = 92) (ho : (one m).1 = [92, UInt8.ofNat r]) (hs : stp m = 1)
  | plain (r : Nat) (hw : wid m ≠ 0) (hd : decq m = (r, stp m)) (hr : r ≠ 34) (hr2 : r ≠ 92) (hb : (32 ≤ r ∧ r ≤ 126) ∨ 160 ≤ r) (hm : r ≤ 1114111) (ho : (one m).1 = m.take (stp m)) (hc : Lib.runeCells (r : Int) = (m.take (stp m)).map bv)
  | code (r : Nat) (hw : wid m ≠ 0) (hd : decq m = (r, stp m)) (hb : r < 32 ∨ (127 ≤ r ∧ r < 160)) (ho : (one m).1 = [92, 117, 48, 48, dig (r / 16), dig (r % 16)])
theorem bv_getD (m : List UInt8) (i : Nat) : bv (m.getD i 0) = .int .u8 ((bA m i : Nat) : Int) := rfl
theorem kind (m : List UInt8) (h : 0 < m.length) : Kind m := by
  rcases first m with ⟨e, h0, hd⟩ | ⟨e, h0, hd⟩ | ⟨r, e, hl, hd, h1, h2, e0, e1⟩ | ⟨r, e, hl, hd, h1, h2, h3, e0, e1, e2⟩ | ⟨r, e, hl, hd, h1, h2, e0, e1, e2, e3⟩
  · exact .stray e hd (by unfold one; rw [if_pos e]) (by unfold stp; rw [if_pos e])
  · have hs : stp m = 1 := by unfold stp; rw [if_neg (by omega), e]
    have hc : Lib.runeCells ((bA m 0 : Nat) : Int) = (m.take (stp m)).map bv := by
      rw [hs, take_one h]
      unfold Lib.runeCells
      rw [Lib.encodeRuneZ_one (by omega) (by omega)]
      rfl
    by_cases hq : bA m 0 = 34 ∨ bA m 0 = 92
    · refine .quote (bA m 0) (by omega) hd hq ?_ hs
      unfold one
      rw [if_neg (by omega), if_pos ⟨e, hq⟩, take_one h, ofNat_bA]
    · by_cases hk : bA m 0 < 32 ∨ bA m 0 = 127
      · refine .code (bA m 0) (by omega) (by rw [hs]; exact hd) (by omega) ?_
        unfold one
        rw [if_neg (by omega), if_neg (by omega), if_pos ⟨e, hk⟩]
      · refine .plain (bA m 0) (by omega) (by rw [hs]; exact hd) (by omega) (by omega) (by omega) (by omega) ?_ hc
        unfold one
        rw [if_neg (by omega), if_neg (by omega), if_neg (by omega), if_neg (by omega), hs, e]
  · have hs : stp m = 2 := by unfold stp; rw [if_neg (by omega), e]
    have b1 : bA m 1 < 256 := bA_lt m 1
    by_cases hk : r < 160
    · refine .code r (by omega) (by rw [hs]; exact hd) (by omega) ?_
      unfold one
      have er : bA m 1 = r := by omega
      rw [if_neg (by omega), if_neg (by omega), if_neg (by omega), if_pos ⟨e, by omega, by omega⟩, er]
    · refine .plain r (by omega) (by rw [hs]; exact hd) (by omega) (by omega) (by omega) (by omega) ?_ ?_
      · unfold one
        rw [if_neg (by omega), if_neg (by omega), if_neg (by omega), if_neg (by omega), hs, e]
      · rw [hs, take_two (by omega)]
        unfold Lib.runeCells
        rw [Lib.encodeRuneZ_two (by omega) (by omega)]
        simp only [List.map_cons, List.map_nil, bv_getD, e0, e1]
        simp
  · have hs : stp m = 3 := by unfold stp; rw [if_neg (by omega), e]
    refine .plain r (by omega) (by rw [hs]; exact hd) (by omega) (by omega) (by omega) (by omega) ?_ ?_
    · unfold one
      rw [if_neg (by omega), if_neg (by omega), if_neg (by omega), if_neg (by omega), hs, e]
    · rw [hs, take_three (by omega)]
      unfold Lib.runeCells
      rw [Lib.encodeRuneZ_three (by omega)]
      simp only [List.map_cons, List.map_nil, bv_getD, e0, e1, e2]
      simp
  · have hs : stp m = 4 := by unfold stp; rw [if_neg (by omega), e]
    refine .plain r (by omega) (by rw [hs]; exact hd) (by omega) (by omega) (by omega) (by omega) ?_ ?_
    · unfold one
      rw [if_neg (by omega), if_neg (by omega), if_neg (by omega), if_neg (by omega), hs, e]
    · rw [hs, take_four (by omega)]
      unfold Lib.runeCells
      rw [Lib.encodeRuneZ_four (by omega) (by omega)]
      simp only [List.map_cons, List.map_nil, bv_getD, e0, e1, e2, e3]
      simp
end Go.Proofs.YtmbiiemlepfoaaaGreatDoor

/-! The walks of slices.Clone of bytes, keys.Next, the laws' small. -/
namespace Go.Proofs.YtmbiiemlepfoaaaGreatDoor
open Go.RowKit

theorem info5 : (Tryz.prog.info? 5).map (fun i => (i.zero, i.size, i.bytes)) = some (some (.int .u8 0), 1, 1) := by kernel_rfl

/-- A row of the call's own reads as bytes. -/
theorem IsB.own {w : World} {base : Nat} {e : TypeId} {p : Option Addr} {c : Nat} {l : List UInt8} (h : w.ownsRow base e 1 (.slice p l.length c) l.length (l.map bv)) : IsB w p c l := by
  rcases h.2 with ⟨hv, hn⟩ | ⟨g, cap, cur, hv, hg, hh, hnc, hcm, hcs, ht⟩
  · injection hv with h1 h2 h3
    subst h1; subst h3
    obtain rfl : l = [] := List.eq_nil_of_length_eq_zero hn
    exact IsB.none_ w
  · injection hv with h1 h2 h3
    subst h1; subst h3
    refine ⟨hnc, fun h => by simp at h, hcm, fun _ => ⟨g, 0, rfl, ?_, fun i x hx => ?_⟩⟩
    · rcases Nat.lt_or_ge g w.heap.size with h | h
      · exact h
      · rw [Array.getElem?_eq_none h] at hh; cases hh
    · have := h.cells (g := g) rfl i (bv x) (by simp [hx])
      simpa [Addr.add_lit] using this

/-- What slices.Clone hands back: a row of the call's own, nil just where it came in so. -/
structure Cloned (w w' : World) (p : Option Addr) (v : Value) (l : List UInt8) : Prop where
  own : w'.ownsRow w.heap.size 5 1 v l.length (l.map bv)
  below : Below w.heap.size w w'

theorem own_slice {w : World} {base : Nat} {e : TypeId} {s n : Nat} {v : Value} {xs : List Value} (h : w.ownsRow base e s v n xs) : ∃ p c, v = .slice p n c := by
  rcases h.2 with ⟨rfl, rfl⟩ | ⟨g, cap, cur, rfl, _⟩
  · exact ⟨_, _, rfl⟩
  · exact ⟨_, _, rfl⟩

theorem cell?_alloc_some' {w : World} {a : Addr} {v : Value} (o : Obj) (h : w.cell? a = some v) : (w.alloc o).cell? a = some v := by
  rw [World.cell?_alloc_lt w o a (World.block_lt_of_cell? w a h)]; exact h

set_option maxHeartbeats 1000000 in
set_option maxRecDepth 100000 in
theorem clone (w : World) {p : Option Addr} {c : Nat} {l : List UInt8} (h : IsB w p c l) (hl : l.length ≤ 140737488355328) :
    Calls Tryz.prog 80 #[.slice p l.length c] w fun e w' => ∃ v, e = .returned v ∧ Cloned w w' p v l := by
  have q22 : ∀ (w : World) (a : Option Addr) (n c n' c' : Nat), (binOp .eql 22 (.slice a n c) (.slice none n' c')).run Tryz.prog w = .ok (.bool a.isNone) w := fun w a n c n' c' => Lib.run_eql_slice_nil w _ _ a n c n' c' Tryz.underlying22
  have H := Lib.hid h
  rcases p with _ | ad
  · obtain rfl : l = [] := List.eq_nil_of_length_eq_zero (by have := h.cap; have := h.nil rfl; omega)
    clear h
    go_enter Tryz.func80, Tryz.ntmps80
    go_wp2
    go_ret
    exact ⟨_, rfl, World.ownsRow_nil _ _ _ _, Below.refl _ _⟩
  · clear h
    obtain ⟨i0, hi, hz0, hz1, hz2⟩ := info_parts info5
    go_enter Tryz.func80, Tryz.ntmps80
    go_wp2_with (at_builtin; refine wpList_append_own _ rfl _ _ 22 rfl w.heap.size 5 i0 (.int .u8 0) 1 1 Tryz.underlying22 hi hz0 hz1 hz2 rfl (by decide) _ _ _ rfl (World.ownsRow_made w #[] 0 (Nat.le_refl _) (Nat.zero_le _) rfl) ad l.length c (l.map bv) rfl ?qc1 ?qc2 ?qc3 ?qc4 ?qc5 ?qc6 ?_)
    case qc1 => simp
    case qc2 =>
      intro j u hj
      rw [List.getElem?_map, Option.map_eq_some_iff] at hj
      obtain ⟨x, hx, rfl⟩ := hj
      obtain ⟨b, o, hp, _, hc⟩ := H.out.cells (by have := (List.getElem?_eq_some_iff.1 hx).1; omega)
      obtain rfl := Option.some.inj hp
      refine cell?_alloc_some' _ ?_
      rw [Addr.add_lit]
      exact hc j x hx
    case qc3 => intro u hu; obtain ⟨x, _, rfl⟩ := List.mem_map.1 hu; rfl
    case qc4 => unfold maxLen; omega
    case qc5 => omega
    case qc6 => simp
    intro v' w1 hown hgrow hnil
    go_wp2
    go_ret
    exact ⟨v', rfl, by simpa using hown, ((Below.refl _ w).alloc (Nat.le_refl _) _).grown hgrow (by simp) (by intro k hk; simp [Value.ownBlock] at hk; omega)⟩
end Go.Proofs.YtmbiiemlepfoaaaGreatDoor
