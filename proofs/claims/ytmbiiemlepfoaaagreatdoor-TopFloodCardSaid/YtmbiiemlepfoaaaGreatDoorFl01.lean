/- A block that was there stays, whatever is laid behind it. Byte slices that came in, told by their bytes: conversion to a string, the order of bytes. The quoted text, in plain Lean: widths, runes, the text, what is parsed of it. What is parsed of a quoted text, in plain Lean. What a round of the printing's loop meets. The walks of slices.Clone of bytes, keys.Next, the laws' small. append of bytes onto a row of the call's own, whatever slice the source is. A region that draws its order, inside a round of a range over a function: the walk of a held region serves there too. -/
import Derived.Test.YtmbiiemlepfoaaaGreatDoorProg
import Derived.WalkKit
import Derived.Below
import Derived.Lib.Bytealg
import Derived.Lib.BytesEntry
import Derived.Lib.SliceRun
import Derived.Lib.Hide
import Derived.Lib.SlBytesConst
import Derived.Laws.BytesArg
import Derived.Maps.AppendAt
import Derived.Deep.QuietTactic
import Derived.BigQuiet
import Derived.WalkLawsBesides
import Derived.WalkSpells
import Derived.Outline
import Derived.Lib.DecodeN
import Derived.Lib.RuneBytes
import Derived.Lib.IndexBytes
import Derived.Laws.AppendOwnNone
import Derived.RangeFuncCalls
import Derived.OrdersIn
import Derived.Deep.RegionHeld

namespace Go.Proofs.YtmbiiemlepfoaaaGreatDoor
theorem haOld (w : World) (o : Obj) {r : Nat} (h : r < w.heap.size) : (w.alloc o).heap[r]? = w.heap[r]? := by
  show (w.heap.push o)[r]? = _
  rw [Array.getElem?_push_lt h, Array.getElem?_eq_getElem h]
end Go.Proofs.YtmbiiemlepfoaaaGreatDoor
namespace Go.Proofs.YtmbiiemlepfoaaaGreatDoor
open Go.RowKit
def str (l : List UInt8) : ByteArray := ⟨l.toArray⟩
theorem str_data (l : List UInt8) : (str l).data.toList = l := rfl
theorem str_toList (l : List UInt8) : (str l).toList = l := ByteArray.toList_eq _
theorem str_size (l : List UInt8) : (str l).size = l.length := rfl
def bv (x : UInt8) : Value := .int .u8 (x.toNat : Int)
structure IsB (w : World) (p : Option Addr) (c : Nat) (l : List UInt8) : Prop where
  cap : l.length ≤ c
  nil : p = none → c = 0
  big : c ≤ maxLen
  cells : 0 < l.length → ∃ b o, p = some ⟨b, o, none⟩ ∧ b < w.heap.size ∧ ∀ i x, l[i]? = some x → w.cell? ⟨b, o + i, none⟩ = some (bv x)
theorem IsB.none_ (w : World) : IsB w none 0 [] := ⟨Nat.le_refl _, fun _ => rfl, Nat.zero_le _, fun h => absurd h (by simp)⟩
theorem IsB.keep {w w' : World} {p : Option Addr} {c : Nat} {l : List UInt8} (h : IsB w p c l) (hz : w.heap.size ≤ w'.heap.size) (hk : ∀ a : Addr, a.block < w.heap.size → w'.cell? a = w.cell? a) : IsB w' p c l :=
  ⟨h.cap, h.nil, h.big, fun hl => by
    obtain ⟨b, o, hp, hb, hc⟩ := h.cells hl
    exact ⟨b, o, hp, Nat.lt_of_lt_of_le hb hz, fun i x hx => (hk _ hb).trans (hc i x hx)⟩⟩
theorem IsB.below {w w' : World} {p : Option Addr} {c : Nat} {l : List UInt8} (h : IsB w p c l) (hb : Below w.heap.size w w') : IsB w' p c l :=
  h.keep hb.size fun _ ha => hb.cell ha
theorem IsB.drewN {w : World} {p : Option Addr} {c : Nat} {l : List UInt8} (h : IsB w p c l) (n : Nat) : IsB (w.drewN n) p c l := ⟨h.cap, h.nil, h.big, h.cells⟩
theorem IsB.drew {w : World} {p : Option Addr} {c : Nat} {l : List UInt8} (h : IsB w p c l) : IsB w.drew p c l := ⟨h.cap, h.nil, h.big, h.cells⟩
theorem IsB.lit (w : World) (l : List UInt8) (e : TypeId) (fr : Nat × Nat) (hl : l.length ≤ maxLen) : IsB (w.alloc (.cells (l.map bv).toArray e fr)) (some ⟨w.heap.size, 0, none⟩) l.length l :=
  ⟨Nat.le_refl _, fun h => by simp at h, hl, fun _ => ⟨w.heap.size, 0, rfl, by simp, fun i x hx => by
    rw [Nat.zero_add, World.cell?_alloc_mark]
    simp [hx]⟩⟩
section
variable {P : Program} {w : World} {p : Option Addr} {c : Nat} {l : List UInt8}
def nums (l : List UInt8) : List Int := l.map fun x => (x.toNat : Int)
theorem strOfNums_nums (l : List UInt8) : strOfNums (nums l) = str l := by
  unfold strOfNums nums str
  rw [List.map_map]
  congr 2
  conv => rhs; rw [← List.map_id l]
  apply List.map_congr_left
  intro x _
  simp
theorem nums_at {l : List UInt8} {i : Nat} (h : i < l.length) : (nums l).getD i 0 = (l[i].toNat : Int) := by
  unfold nums
  simp [List.getD, h]
theorem IsB.convert (h : IsB w p c l) {src e dst : TypeId} (hs : P.underlying src = some (.slice e)) (he : P.underlying e = some (.int .u8)) (hd : P.underlying dst = some .string) :
    (convert src dst (.slice p l.length c)).run P w = .ok (.string (str l)) w := by
  rcases Nat.eq_zero_or_pos l.length with h0 | h0
  · obtain rfl : l = [] := List.eq_nil_of_length_eq_zero h0
    rw [run_convert_bytes_string w src dst e _ _ c hs he hd]
    cases p <;> simp [Conv.bytesToString, loadCells]
    all_goals rfl
  · obtain ⟨b, o, rfl, _, hc⟩ := h.cells h0
    have := run_convert_bytes_arg (P := P) w src e hs he b o l.length c (nums l) (by simp [nums]) (fun i hi => by rw [nums_at hi]; exact hc i _ (List.getElem?_eq_getElem hi)) dst hd
    rwa [strOfNums_nums] at this
theorem bytesOf_nums (l : List UInt8) : Lib.bytesOf (nums l) = l := by
  unfold Lib.bytesOf nums
  rw [List.map_map]
  conv => rhs; rw [← List.map_id l]
  apply List.map_congr_left
  intro x _
  simp
theorem IsB.load (h : IsB w p c l) : (Extern.Bytes.bytesOf (.slice p l.length c)).run P w = .ok (str l) w := by
  rcases p with _ | a
  · have h0 : l = [] := List.eq_nil_of_length_eq_zero (by have := h.cap; have := h.nil rfl; omega)
    subst h0
    simp [Extern.Bytes.bytesOf]
    rfl
  · simp only [Extern.Bytes.bytesOf]
    rcases Nat.eq_zero_or_pos l.length with h0 | h0
    · obtain rfl : l = [] := List.eq_nil_of_length_eq_zero h0
      simp [Extern.Bytes.loadBytes]
      rfl
    · obtain ⟨b, o, hp, _, hc⟩ := h.cells h0
      obtain rfl := Option.some.inj hp
      have hl := Lib.run_loadBytesX (P := P) w (nums l) ⟨b, o, none⟩ .empty (fun j x hj => by
        have hjl : j < l.length := by have := (List.getElem?_eq_some_iff.1 hj).1; simpa [nums] using this
        have e : (⟨b, o, none⟩ : Addr).add j = ⟨b, o + j, none⟩ := by unfold Addr.add; split <;> simp_all
        rw [e, hc j _ (List.getElem?_eq_getElem hjl)]
        have := nums_at hjl
        rw [List.getD_eq_getElem?_getD, hj] at this
        simp at this
        rw [this]; rfl)
      rw [show (nums l).length = l.length from by simp [nums]] at hl
      rw [hl]
      congr 1
      apply ByteArray.ext
      show (#[] : Array UInt8) ++ (Lib.bytesOf (nums l)).toArray = l.toArray
      rw [bytesOf_nums]
      simp
theorem run_compare {p' : Option Addr} {c' : Nat} {l' : List UInt8} (h : IsB w p c l) (h' : IsB w p' c' l') :
    (Extern.BytealgCompare.compare #[.slice p l.length c, .slice p' l'.length c']).run P w = .ok (.int .i64 (Lib.compareBytes l l')) w := by
  change Sem.run P (do pure (goInt (Extern.BytealgCompare.cmp (← Extern.Bytes.bytesOf (.slice p l.length c)) (← Extern.Bytes.bytesOf (.slice p' l'.length c'))))) w = _
  simp only [Sem.run_bind, h.load, h'.load, Sem.run_pure, Result.andThen]
  rw [Lib.cmp_eq]
  rfl
end
end Go.Proofs.YtmbiiemlepfoaaaGreatDoor
namespace Go.Proofs.YtmbiiemlepfoaaaGreatDoor
def bA (l : List UInt8) (i : Nat) : Nat := (l.getD i 0).toNat
theorem bA_lt (l : List UInt8) (i : Nat) : bA l i < 256 := (l.getD i 0).toNat_lt
theorem bA_drop (l : List UInt8) (k i : Nat) : bA (l.drop k) i = bA l (k + i) := by
  unfold bA
  rw [List.getD_eq_getElem?_getD, List.getD_eq_getElem?_getD, List.getElem?_drop]
def inR (l : List UInt8) (i lo hi : Nat) : Prop := i < l.length ∧ lo ≤ bA l i ∧ bA l i ≤ hi
instance (l : List UInt8) (i lo hi : Nat) : Decidable (inR l i lo hi) := by unfold inR; infer_instance
def wid (l : List UInt8) : Nat :=
  if bA l 0 < 128 then 1
  else if 194 ≤ bA l 0 ∧ bA l 0 ≤ 223 then (if inR l 1 128 191 then 2 else 0)
  else if 224 ≤ bA l 0 ∧ bA l 0 ≤ 239 then (if inR l 1 (if bA l 0 = 224 then 160 else 128) (if bA l 0 = 237 then 159 else 191) ∧ inR l 2 128 191 then 3 else 0)
  else if 240 ≤ bA l 0 ∧ bA l 0 ≤ 244 then (if inR l 1 (if bA l 0 = 240 then 144 else 128) (if bA l 0 = 244 then 143 else 191) ∧ inR l 2 128 191 ∧ inR l 3 128 191 then 4 else 0)
  else 0
def decq (l : List UInt8) : Nat × Nat := Lib.decodeN l.length (bA l 0) (bA l 1) (bA l 2) (bA l 3)
inductive First (l : List UInt8) : Prop
  | stray (h : wid l = 0) (h0 : 128 ≤ bA l 0) (hd : decq l = (65533, 1))
  | one (h : wid l = 1) (h0 : bA l 0 < 128) (hd : decq l = (bA l 0, 1))
  | two (r : Nat) (h : wid l = 2) (hl : 2 ≤ l.length) (hd : decq l = (r, 2)) (h1 : 128 ≤ r) (h2 : r ≤ 2047) (e0 : bA l 0 = 192 + r / 64) (e1 : bA l 1 = 128 + r % 64)
  | three (r : Nat) (h : wid l = 3) (hl : 3 ≤ l.length) (hd : decq l = (r, 3)) (h1 : 2048 ≤ r) (h2 : r < 55296 ∨ 57343 < r) (h3 : r ≤ 65535) (e0 : bA l 0 = 224 + r / 4096) (e1 : bA l 1 = 128 + r / 64 % 64) (e2 : bA l 2 = 128 + r % 64)
  | four (r : Nat) (h : wid l = 4) (hl : 4 ≤ l.length) (hd : decq l = (r, 4)) (h1 : 65536 ≤ r) (h2 : r ≤ 1114111) (e0 : bA l 0 = 240 + r / 262144) (e1 : bA l 1 = 128 + r / 4096 % 64) (e2 : bA l 2 = 128 + r / 64 % 64) (e3 : bA l 3 = 128 + r % 64)
theorem first (l : List UInt8) : First l := by
  have a0 := bA_lt l 0
  have a1 := bA_lt l 1
  have a2 := bA_lt l 2
  have a3 := bA_lt l 3
  by_cases h0 : bA l 0 < 128
  · refine .one ?_ h0 ?_
    · unfold wid; rw [if_pos h0]
    · unfold decq Lib.decodeN; rw [if_pos h0]
  by_cases h1 : 194 ≤ bA l 0 ∧ bA l 0 ≤ 223
  · by_cases i1 : inR l 1 128 191
    · obtain ⟨j1, j2, j3⟩ := i1
      refine .two (bA l 0 % 32 * 64 + bA l 1 % 64) ?_ (by omega) ?_ (by omega) (by omega) (by omega) (by omega)
      · unfold wid; rw [if_neg h0, if_pos h1, if_pos ⟨j1, j2, j3⟩]
      · unfold decq Lib.decodeN; rw [if_neg h0, if_pos ⟨by omega, j1, by omega⟩, if_pos (by omega)]
    · refine .stray ?_ (by omega) ?_
      · unfold wid; rw [if_neg h0, if_pos h1, if_neg i1]
      · unfold decq Lib.decodeN
        have n1 : ¬ (bA l 0 / 32 = 6 ∧ (1 < l.length ∧ bA l 1 / 64 = 2)) := fun ⟨_, q1, q2⟩ => i1 ⟨q1, by omega, by omega⟩
        rw [if_neg h0, if_neg n1, if_neg (by omega), if_neg (by omega)]
  by_cases h2 : 224 ≤ bA l 0 ∧ bA l 0 ≤ 239
  · by_cases i1 : inR l 1 (if bA l 0 = 224 then 160 else 128) (if bA l 0 = 237 then 159 else 191) ∧ inR l 2 128 191
    · have hw : wid l = 3 := by unfold wid; rw [if_neg h0, if_neg h1, if_pos h2, if_pos i1]
      obtain ⟨⟨j1, j2, j3⟩, j4, j5, j6⟩ := i1
      have j7 : 128 ≤ bA l 1 ∧ bA l 1 ≤ 191 ∧ (bA l 0 = 224 → 160 ≤ bA l 1) ∧ (bA l 0 = 237 → bA l 1 ≤ 159) := by
        split at j2 <;> split at j3 <;> omega
      refine .three (bA l 0 % 16 * 4096 + bA l 1 % 64 * 64 + bA l 2 % 64) hw (by omega) ?_ (by omega) (by omega) (by omega) (by omega) (by omega) (by omega)
      unfold decq Lib.decodeN
      rw [if_neg h0, if_neg (by omega), if_pos ⟨by omega, ⟨j1, by omega⟩, j4, by omega⟩, if_pos (by omega)]
    · refine .stray ?_ (by omega) ?_
      · unfold wid; rw [if_neg h0, if_neg h1, if_pos h2, if_neg i1]
      · unfold decq Lib.decodeN
        rw [if_neg h0, if_neg (by omega)]
        split
        · rename_i q
          obtain ⟨_, ⟨q1, q2⟩, q3, q4⟩ := q
          rw [if_neg]
          intro q5
          refine i1 ⟨⟨q1, ?_, ?_⟩, q3, by omega, by omega⟩
          · split <;> omega
          · split <;> omega
        · rw [if_neg (by omega)]
  by_cases h3 : 240 ≤ bA l 0 ∧ bA l 0 ≤ 244
  · by_cases i1 : inR l 1 (if bA l 0 = 240 then 144 else 128) (if bA l 0 = 244 then 143 else 191) ∧ inR l 2 128 191 ∧ inR l 3 128 191
    · have hw : wid l = 4 := by unfold wid; rw [if_neg h0, if_neg h1, if_neg h2, if_pos h3, if_pos i1]
      obtain ⟨⟨j1, j2, j3⟩, ⟨j4, j5, j6⟩, k4, k5, k6⟩ := i1
      have j7 : 128 ≤ bA l 1 ∧ bA l 1 ≤ 191 ∧ (bA l 0 = 240 → 144 ≤ bA l 1) ∧ (bA l 0 = 244 → bA l 1 ≤ 143) := by
        split at j2 <;> split at j3 <;> omega
      refine .four (bA l 0 % 8 * 262144 + bA l 1 % 64 * 4096 + bA l 2 % 64 * 64 + bA l 3 % 64) hw (by omega) ?_ (by omega) (by omega) (by omega) (by omega) (by omega) (by omega)
      unfold decq Lib.decodeN
      rw [if_neg h0, if_neg (by omega), if_neg (by omega), if_pos ⟨by omega, ⟨j1, by omega⟩, ⟨j4, by omega⟩, k4, by omega⟩, if_pos (by omega)]
    · refine .stray ?_ (by omega) ?_
      · unfold wid; rw [if_neg h0, if_neg h1, if_neg h2, if_pos h3, if_neg i1]
      · unfold decq Lib.decodeN
        rw [if_neg h0, if_neg (by omega), if_neg (by omega)]
        split
        · rename_i q
          obtain ⟨_, ⟨q1, q2⟩, ⟨q3, q4⟩, q6, q7⟩ := q
          rw [if_neg]
          intro q5
          refine i1 ⟨⟨q1, ?_, ?_⟩, ⟨q3, by omega, by omega⟩, q6, by omega, by omega⟩
          · split <;> omega
          · split <;> omega
        · rfl
  refine .stray ?_ (by omega) ?_
  · unfold wid; rw [if_neg h0, if_neg h1, if_neg h2, if_neg h3]
  · unfold decq Lib.decodeN
    rw [if_neg h0]
    split
    · rw [if_neg (by omega)]
    · rw [if_neg (by omega)]
      split
      · rw [if_neg (by omega)]
      · rfl
def dig (n : Nat) : UInt8 := UInt8.ofNat (if n < 10 then 48 + n else 87 + n)
def one (l : List UInt8) : List UInt8 × Nat :=
  if wid l = 0 then ([92, 120, dig (bA l 0 / 16), dig (bA l 0 % 16)], 1)
  else if wid l = 1 ∧ (bA l 0 = 34 ∨ bA l 0 = 92) then (92 :: l.take 1, 1)
  else if wid l = 1 ∧ (bA l 0 < 32 ∨ bA l 0 = 127) then ([92, 117, 48, 48, dig (bA l 0 / 16), dig (bA l 0 % 16)], 1)
  else if wid l = 2 ∧ bA l 0 = 194 ∧ bA l 1 < 160 then ([92, 117, 48, 48, dig (bA l 1 / 16), dig (bA l 1 % 16)], 2)
  else (l.take (wid l), wid l)
def stp (l : List UInt8) : Nat := if wid l = 0 then 1 else wid l
theorem stp_pos (l : List UInt8) : 1 ≤ stp l := by unfold stp; split <;> omega
theorem wid_le (l : List UInt8) (h : 0 < l.length) : wid l ≤ l.length := by
  rcases first l with ⟨e⟩ | ⟨e⟩ | ⟨_, e, hl⟩ | ⟨_, e, hl⟩ | ⟨_, e, hl⟩ <;> omega
theorem stp_le (l : List UInt8) (h : 0 < l.length) : stp l ≤ l.length := by
  have := wid_le l h
  unfold stp; split <;> omega
theorem stray_iff (l : List UInt8) : ((decq l).1 = 65533 ∧ (decq l).2 = 1) ↔ wid l = 0 := by
  rcases first l with ⟨e, _, hd⟩ | ⟨e, h0, hd⟩ | ⟨r, e, _, hd⟩ | ⟨r, e, _, hd⟩ | ⟨r, e, _, hd⟩ <;> rw [hd, e] <;> simp <;> omega
def bodyF : Nat → List UInt8 → List UInt8
  | 0, _ => []
  | f + 1, l => if l.length = 0 then [] else (one l).1 ++ bodyF f (l.drop (stp l))
def body (l : List UInt8) : List UInt8 := bodyF l.length l
theorem bodyF_more : ∀ (f : Nat) (l : List UInt8), l.length ≤ f → bodyF f l = body l := by
  intro f
  induction f using Nat.strongRecOn with
  | _ f ih =>
    intro l hl
    match f, l, hl with
    | 0, l, hl =>
      have : l.length = 0 := by omega
      unfold body; rw [this]
    | f + 1, l, hl =>
      by_cases h0 : l.length = 0
      · unfold body
        rw [h0]
        simp [bodyF, h0]
      · obtain ⟨g, hg⟩ : ∃ g, l.length = g + 1 := ⟨l.length - 1, by omega⟩
        have hs := stp_pos l
        have h1 := ih f (by omega) (l.drop (stp l)) (by rw [List.length_drop]; omega)
        have h2 : bodyF g (l.drop (stp l)) = body (l.drop (stp l)) := ih g (by omega) (l.drop (stp l)) (by rw [List.length_drop]; omega)
        unfold body
        rw [hg, bodyF, bodyF, if_neg h0, if_neg h0, h1, h2]
theorem body_nil : body [] = [] := rfl
theorem body_step (l : List UInt8) (h : 0 < l.length) : body l = (one l).1 ++ body (l.drop (stp l)) := by
  obtain ⟨g, hg⟩ : ∃ g, l.length = g + 1 := ⟨l.length - 1, by omega⟩
  have hs := stp_pos l
  conv => lhs; unfold body
  rw [hg, bodyF, if_neg (by omega), bodyF_more g _ (by rw [List.length_drop]; omega)]
def qt (l : List UInt8) : List UInt8 := 34 :: (body l ++ [34])
theorem u8_eq {a b : UInt8} (h : a.toNat = b.toNat) : a = b := UInt8.toNat_inj.1 h
def hexv (c : UInt8) : Option Nat := if 48 ≤ c.toNat ∧ c.toNat ≤ 57 then some (c.toNat - 48) else if 97 ≤ c.toNat ∧ c.toNat ≤ 102 then some (c.toNat - 87) else none
theorem hexv_lt {c : UInt8} {n : Nat} (h : hexv c = some n) : n < 16 := by
  unfold hexv at h
  split at h
  · injection h; omega
  · split at h
    · injection h; omega
    · cases h
def num : Nat → List UInt8 → Option Nat
  | a, [] => some a
  | a, c :: r => match hexv c with
    | none => none
    | some d => num (a * 16 + d) r
def esc (l : List UInt8) : Option (List UInt8 × Nat) :=
  match l with
  | [] => none
  | c :: r =>
    if c.toNat = 34 ∨ c.toNat = 92 then some ([c], 1)
    else if c.toNat = 120 then (if 2 ≤ r.length then (num 0 (r.take 2)).map fun n => ([UInt8.ofNat n], 3) else none)
    else if c.toNat = 117 then (if 4 ≤ r.length then (num 0 (r.take 4)).map fun n : Nat => (Lib.encodeRune (n : Int), 5) else none)
    else none
theorem num_lt : ∀ (l : List UInt8) (a n : Nat), num a l = some n → n < (a + 1) * 16 ^ l.length
  | [], a, n, h => by injection h with h; subst h; simp
  | c :: r, a, n, h => by
    rw [num] at h
    split at h
    · cases h
    · rename_i d hd
      have := num_lt r _ n h
      have hd2 := hexv_lt hd
      have h3 : (a * 16 + d + 1) * 16 ^ r.length ≤ ((a + 1) * 16) * 16 ^ r.length := Nat.mul_le_mul_right _ (by omega)
      rw [List.length_cons, Nat.pow_succ', ← Nat.mul_assoc]
      omega
theorem encodeRune_len (r : Int) : (Lib.encodeRune r).length ≤ 4 := by
  unfold Lib.encodeRune Lib.encodeRuneZ
  rw [List.length_map]
  repeat' split
  all_goals simp
def fnd (c : UInt8) : List UInt8 → Option Nat
  | [] => none
  | x :: r => if x = c then some 0 else (fnd c r).map (· + 1)
theorem fnd_lt {c : UInt8} : ∀ {l : List UInt8} {k : Nat}, fnd c l = some k → k < l.length
  | [], _, h => by cases h
  | x :: r, k, h => by
    rw [fnd] at h
    split at h
    · injection h with h; subst h; simp
    · rw [Option.map_eq_some_iff] at h
      obtain ⟨j, hj, rfl⟩ := h
      have := fnd_lt hj
      simp; omega
def unqF : Nat → List UInt8 → List UInt8 → Option (List UInt8)
  | 0, out, _ => some out
  | f + 1, out, rest => if rest.length = 0 then some out else
    match fnd 92 rest with
    | none => some (out ++ rest)
    | some k => match esc (rest.drop (k + 1)) with
      | none => none
      | some (t, n) => unqF f (out ++ rest.take k ++ t) (rest.drop (k + 1 + n))
def unq (out rest : List UInt8) : Option (List UInt8) := unqF rest.length out rest
theorem unqF_more : ∀ (f : Nat) (out rest : List UInt8), rest.length ≤ f → unqF f out rest = unq out rest := by
  intro f
  induction f using Nat.strongRecOn with
  | _ f ih =>
    intro out l hl
    match f, l, hl with
    | 0, l, hl =>
      have : l.length = 0 := by omega
      unfold unq; rw [this]
    | f + 1, l, hl =>
      by_cases h0 : l.length = 0
      · unfold unq
        rw [h0]
        simp [unqF, h0]
      · obtain ⟨g, hg⟩ : ∃ g, l.length = g + 1 := ⟨l.length - 1, by omega⟩
        unfold unq
        rw [hg, unqF, unqF, if_neg h0, if_neg h0]
        cases hk : fnd 92 l with
        | none => rfl
        | some k =>
          dsimp only
          cases he : esc (l.drop (k + 1)) with
          | none => rfl
          | some p =>
            obtain ⟨t, n⟩ := p
            dsimp only
            rw [ih f (by omega) _ _ (by rw [List.length_drop]; omega), ih g (by omega) _ _ (by rw [List.length_drop]; omega)]
theorem unq_step (out rest : List UInt8) (h : 0 < rest.length) : unq out rest = match fnd 92 rest with
    | none => some (out ++ rest)
    | some k => match esc (rest.drop (k + 1)) with
      | none => none
      | some (t, n) => unq (out ++ rest.take k ++ t) (rest.drop (k + 1 + n)) := by
  obtain ⟨g, hg⟩ : ∃ g, rest.length = g + 1 := ⟨rest.length - 1, by omega⟩
  conv => lhs; unfold unq
  rw [hg, unqF, if_neg (by omega)]
  cases hk : fnd 92 rest with
  | none => rfl
  | some k =>
    dsimp only
    cases he : esc (rest.drop (k + 1)) with
    | none => rfl
    | some p =>
      obtain ⟨t, n⟩ := p
      dsimp only
      exact unqF_more g _ _ (by rw [List.length_drop]; omega)
theorem take_one {l : List UInt8} (h : 0 < l.length) : l.take 1 = [l.getD 0 0] := by
  match l, h with
  | x :: r, _ => rfl
theorem take_two {l : List UInt8} (h : 1 < l.length) : l.take 2 = [l.getD 0 0, l.getD 1 0] := by
  match l, h with
  | x :: y :: r, _ => rfl
theorem take_three {l : List UInt8} (h : 2 < l.length) : l.take 3 = [l.getD 0 0, l.getD 1 0, l.getD 2 0] := by
  match l, h with
  | x :: y :: z :: r, _ => rfl
theorem take_four {l : List UInt8} (h : 3 < l.length) : l.take 4 = [l.getD 0 0, l.getD 1 0, l.getD 2 0, l.getD 3 0] := by
  match l, h with
  | x :: y :: z :: u :: r, _ => rfl
theorem ofNat_bA (l : List UInt8) (i : Nat) : UInt8.ofNat (bA l i) = l.getD i 0 := by
  apply u8_eq
  rw [UInt8.toNat_ofNat', Nat.mod_eq_of_lt (bA_lt l i)]
  rfl
inductive Kind (m : List UInt8) : Prop
  | stray (hw : wid m = 0) (hd : decq m = (65533, 1)) (ho : (one m).1 = [92, 120, dig (bA m 0 / 16), dig (bA m 0 % 16)]) (hs : stp m = 1)
  | quote (r : Nat) (hw : wid m ≠ 0) (hd : decq m = (r, 1)) (hr : r = 34 ∨ r = 92) (ho : (one m).1 = [92, UInt8.ofNat r]) (hs : stp m = 1)
  | plain (r : Nat) (hw : wid m ≠ 0) (hd : decq m = (r, stp m)) (hr : r ≠ 34) (hr2 : r ≠ 92) (hb : (32 ≤ r ∧ r ≤ 126) ∨ 160 ≤ r) (hm : r ≤ 1114111) (ho : (one m).1 = m.take (stp m)) (hc : Lib.runeCells (r : Int) = (m.take (stp m)).map bv)
  | code (r : Nat) (hw : wid m ≠ 0) (hd : decq m = (r, stp m)) (hb : r < 32 ∨ (127 ≤ r ∧ r < 160)) (ho : (one m).1 = [92, 117, 48, 48, dig (r / 16), dig (r % 16)])
theorem bv_getD (m : List UInt8) (i : Nat) : bv (m.getD i 0) = .int .u8 ((bA m i : Nat) : Int) := rfl
theorem kind (m : List UInt8) (h : 0 < m.length) : Kind m := by
  rcases first m with ⟨e, h0, hd⟩ | ⟨e, h0, hd⟩ | ⟨r, e, hl, hd, h1, h2, e0, e1⟩ | ⟨r, e, hl, hd, h1, h2, h3, e0, e1, e2⟩ | ⟨r, e, hl, hd, h1, h2, e0, e1, e2, e3⟩
  · exact .stray e hd (by unfold one; rw [if_pos e]) (by unfold stp; rw [if_pos e])
  · have hs : stp m = 1 := by unfold stp; rw [if_neg (by omega), e]
    have hc : Lib.runeCells ((bA m 0 : Nat) : Int) = (m.take (stp m)).map bv := by
      rw [hs, take_one h]
      unfold Lib.runeCells
      rw [Lib.encodeRuneZ_one (by omega) (by omega)]
      rfl
    by_cases hq : bA m 0 = 34 ∨ bA m 0 = 92
    · refine .quote (bA m 0) (by omega) hd hq ?_ hs
      unfold one
      rw [if_neg (by omega), if_pos ⟨e, hq⟩, take_one h, ofNat_bA]
    · by_cases hk : bA m 0 < 32 ∨ bA m 0 = 127
      · refine .code (bA m 0) (by omega) (by rw [hs]; exact hd) (by omega) ?_
        unfold one
        rw [if_neg (by omega), if_neg (by omega), if_pos ⟨e, hk⟩]
      · refine .plain (bA m 0) (by omega) (by rw [hs]; exact hd) (by omega) (by omega) (by omega) (by omega) ?_ hc
        unfold one
        rw [if_neg (by omega), if_neg (by omega), if_neg (by omega), if_neg (by omega), hs, e]
  · have hs : stp m = 2 := by unfold stp; rw [if_neg (by omega), e]
    have b1 : bA m 1 < 256 := bA_lt m 1
    by_cases hk : r < 160
    · refine .code r (by omega) (by rw [hs]; exact hd) (by omega) ?_
      unfold one
      have er : bA m 1 = r := by omega
      rw [if_neg (by omega), if_neg (by omega), if_neg (by omega), if_pos ⟨e, by omega, by omega⟩, er]
    · refine .plain r (by omega) (by rw [hs]; exact hd) (by omega) (by omega) (by omega) (by omega) ?_ ?_
      · unfold one
        rw [if_neg (by omega), if_neg (by omega), if_neg (by omega), if_neg (by omega), hs, e]
      · rw [hs, take_two (by omega)]
        unfold Lib.runeCells
        rw [Lib.encodeRuneZ_two (by omega) (by omega)]
        simp only [List.map_cons, List.map_nil, bv_getD, e0, e1]
        simp
  · have hs : stp m = 3 := by unfold stp; rw [if_neg (by omega), e]
    refine .plain r (by omega) (by rw [hs]; exact hd) (by omega) (by omega) (by omega) (by omega) ?_ ?_
    · unfold one
      rw [if_neg (by omega), if_neg (by omega), if_neg (by omega), if_neg (by omega), hs, e]
    · rw [hs, take_three (by omega)]
      unfold Lib.runeCells
      rw [Lib.encodeRuneZ_three (by omega)]
      simp only [List.map_cons, List.map_nil, bv_getD, e0, e1, e2]
      simp
  · have hs : stp m = 4 := by unfold stp; rw [if_neg (by omega), e]
    refine .plain r (by omega) (by rw [hs]; exact hd) (by omega) (by omega) (by omega) (by omega) ?_ ?_
    · unfold one
      rw [if_neg (by omega), if_neg (by omega), if_neg (by omega), if_neg (by omega), hs, e]
    · rw [hs, take_four (by omega)]
      unfold Lib.runeCells
      rw [Lib.encodeRuneZ_four (by omega) (by omega)]
      simp only [List.map_cons, List.map_nil, bv_getD, e0, e1, e2, e3]
      simp
end Go.Proofs.YtmbiiemlepfoaaaGreatDoor
namespace Go.Proofs.YtmbiiemlepfoaaaGreatDoor
open Go.RowKit
theorem info5 : (Tryz.prog.info? 5).map (fun i => (i.zero, i.size, i.bytes)) = some (some (.int .u8 0), 1, 1) := by kernel_rfl
theorem IsB.own {w : World} {base : Nat} {e : TypeId} {p : Option Addr} {c : Nat} {l : List UInt8} (h : w.ownsRow base e 1 (.slice p l.length c) l.length (l.map bv)) : IsB w p c l := by
  rcases h.2 with ⟨hv, hn⟩ | ⟨g, cap, cur, hv, hg, hh, hnc, hcm, hcs, ht⟩
  · injection hv with h1 h2 h3
    subst h1; subst h3
    obtain rfl : l = [] := List.eq_nil_of_length_eq_zero hn
    exact IsB.none_ w
  · injection hv with h1 h2 h3
    subst h1; subst h3
    refine ⟨hnc, fun h => by simp at h, hcm, fun _ => ⟨g, 0, rfl, ?_, fun i x hx => ?_⟩⟩
    · rcases Nat.lt_or_ge g w.heap.size with h | h
      · exact h
      · rw [Array.getElem?_eq_none h] at hh; cases hh
    · have := h.cells (g := g) rfl i (bv x) (by simp [hx])
      simpa [Addr.add_lit] using this
structure Cloned (w w' : World) (p : Option Addr) (v : Value) (l : List UInt8) : Prop where
  own : w'.ownsRow w.heap.size 5 1 v l.length (l.map bv)
  below : Below w.heap.size w w'
theorem own_slice {w : World} {base : Nat} {e : TypeId} {s n : Nat} {v : Value} {xs : List Value} (h : w.ownsRow base e s v n xs) : ∃ p c, v = .slice p n c := by
  rcases h.2 with ⟨rfl, rfl⟩ | ⟨g, cap, cur, rfl, _⟩
  · exact ⟨_, _, rfl⟩
  · exact ⟨_, _, rfl⟩
theorem cell?_alloc_some' {w : World} {a : Addr} {v : Value} (o : Obj) (h : w.cell? a = some v) : (w.alloc o).cell? a = some v := by
  rw [World.cell?_alloc_lt w o a (World.block_lt_of_cell? w a h)]; exact h
set_option maxHeartbeats 1000000 in
set_option maxRecDepth 100000 in
theorem clone (w : World) {p : Option Addr} {c : Nat} {l : List UInt8} (h : IsB w p c l) (hl : l.length ≤ 140737488355328) :
    Calls Tryz.prog 80 #[.slice p l.length c] w fun e w' => ∃ v, e = .returned v ∧ Cloned w w' p v l := by
  have q22 : ∀ (w : World) (a : Option Addr) (n c n' c' : Nat), (binOp .eql 22 (.slice a n c) (.slice none n' c')).run Tryz.prog w = .ok (.bool a.isNone) w := fun w a n c n' c' => Lib.run_eql_slice_nil w _ _ a n c n' c' Tryz.underlying22
  have H := Lib.hid h
  rcases p with _ | ad
  · obtain rfl : l = [] := List.eq_nil_of_length_eq_zero (by have := h.cap; have := h.nil rfl; omega)
    clear h
    go_enter Tryz.func80, Tryz.ntmps80
    go_wp2
    go_ret
    exact ⟨_, rfl, World.ownsRow_nil _ _ _ _, Below.refl _ _⟩
  · clear h
    obtain ⟨i0, hi, hz0, hz1, hz2⟩ := info_parts info5
    go_enter Tryz.func80, Tryz.ntmps80
    go_wp2_with (at_builtin; refine wpList_append_own _ rfl _ _ 22 rfl w.heap.size 5 i0 (.int .u8 0) 1 1 Tryz.underlying22 hi hz0 hz1 hz2 rfl (by decide) _ _ _ rfl (World.ownsRow_made w #[] 0 (Nat.le_refl _) (Nat.zero_le _) rfl) ad l.length c (l.map bv) rfl ?qc1 ?qc2 ?qc3 ?qc4 ?qc5 ?qc6 ?_)
    case qc1 => simp
    case qc2 =>
      intro j u hj
      rw [List.getElem?_map, Option.map_eq_some_iff] at hj
      obtain ⟨x, hx, rfl⟩ := hj
      obtain ⟨b, o, hp, _, hc⟩ := H.out.cells (by have := (List.getElem?_eq_some_iff.1 hx).1; omega)
      obtain rfl := Option.some.inj hp
      refine cell?_alloc_some' _ ?_
      rw [Addr.add_lit]
      exact hc j x hx
    case qc3 => intro u hu; obtain ⟨x, _, rfl⟩ := List.mem_map.1 hu; rfl
    case qc4 => unfold maxLen; omega
    case qc5 => omega
    case qc6 => simp
    intro v' w1 hown hgrow hnil
    go_wp2
    go_ret
    exact ⟨v', rfl, by simpa using hown, ((Below.refl _ w).alloc (Nat.le_refl _) _).grown hgrow (by simp) (by intro k hk; simp [Value.ownBlock] at hk; omega)⟩
theorem wp_append_bytes (w : World) {ops : Array Oper} {rest : List Oper} {o : Oper} {a : Act} {Q : Exit → Act → World → Prop} (hgd : o.guard = none) (s x : Operand)
    (ho : o.op = .call { callee := .builtin .append, args := #[s, x], argTypes := #[22, 22] })
    (base : Nat) (v : Value) (n : Nat) (xs : List Value) (hs : a.eval s = v) (hown : w.ownsRow base 5 1 v n xs) (hbase : base ≤ w.heap.size)
    {p : Option Addr} {c : Nat} {l : List UInt8} (hB : IsB w p c l) (m : Nat) (hm : m = l.length) (hx : a.eval x = .slice p m c)
    (hbytes : n + l.length ≤ 140737488355328)
    (h : ∀ v' w', w'.ownsRow base 5 1 v' (n + m) (xs ++ l.map bv) → Below base w w' → wpList Tryz.prog ops Q rest (a.put o.dst v') w') : wpList Tryz.prog ops Q (o :: rest) a w := by
  obtain ⟨i0, hi, hz0, hz1, hz2⟩ := info_parts info5
  subst hm
  rcases p with _ | ad
  · have hc := hB.nil rfl
    have hl : l = [] := List.eq_nil_of_length_eq_zero (by have := hB.cap; omega)
    subst hl; subst hc
    exact wpList_append_own_none hgd s x 22 ho base 5 i0 1 Tryz.underlying22 hi v n xs hs hown hx (h v w (by simpa using hown) (Below.refl _ _))
  · refine wpList_append_own w hgd s x 22 ho base 5 i0 (.int .u8 0) 1 1 Tryz.underlying22 hi hz0 hz1 hz2 rfl (by decide) v n xs hs hown ad l.length c (l.map bv) hx (by simp) ?_ ?_ (by unfold maxLen; omega) (by omega) hbase ?_
    · intro j u hj
      rw [List.getElem?_map, Option.map_eq_some_iff] at hj
      obtain ⟨y, hy, rfl⟩ := hj
      obtain ⟨b, o', hp, _, hc⟩ := hB.cells (by have := (List.getElem?_eq_some_iff.1 hy).1; omega)
      obtain rfl := Option.some.inj hp
      rw [Addr.add_lit]
      exact hc j y hy
    · intro u hu; obtain ⟨y, _, rfl⟩ := List.mem_map.1 hu; rfl
    · intro v' w' ho' hg _
      exact h v' w' ho' ((Below.refl _ w).grown hg hbase (fun k hk => (hown.lt k hk).1))
end Go.Proofs.YtmbiiemlepfoaaaGreatDoor
namespace Go.Proofs.YtmbiiemlepfoaaaGreatDoor
open Go.RowKit
set_option linter.unusedVariables false
theorem rows_round {P : Program} {row : String} {args : Array Value} {w : World} {R : Value → World → Prop} (l n : Nat) (h : Rows P row args w R) : RowsIn (Fence.wide.inRound l) n P row args w R :=
  fun c cs _ => let ⟨v, w', r, s⟩ := h c cs; ⟨v, w', r, stepsIn_wide.2 s⟩
theorem oper_round {P : Program} {o : Oper} {a : Act} {w : World} {K : Act → World → Prop} {Q : Exit → Act → World → Prop} (l n : Nat) (hd : ∀ c, o.op ≠ .defer c)
    (h : o.wp P a w K Q) : o.wpIn (Fence.wide.inRound l) n P a w K Q := by
  unfold Oper.wp at h
  unfold Oper.wpIn
  refine ⟨fun _ _ => trivial, ?_⟩
  rw [Oper.semAt_eq _ _ _ hd]
  generalize (execOp a.eval o).run P w = r at *
  cases r with
  | ok x w' =>
    cases x <;> simp only [Oper.upon, Oper.uponIn] at h ⊢ <;>
      first
        | exact h
        | exact ⟨fun hh => by simp [Fence.wide] at hh, CallsIn.inRound l ((callsIn_wide (n := n - 1)).2 (Calls.mono h (fun e w'' he => by cases e <;> exact he)))⟩
        | exact ⟨fun hh => by simp [Fence.wide] at hh, rows_round l _ h⟩
        | exact h.elim
  | halt x w' => cases x <;> simp only [Oper.upon, Oper.uponIn] at h ⊢ <;> exact h
theorem op_round {P : Program} {ops : Array Oper} {i : Nat} {a : Act} {w : World} {K : Act → World → Prop} {Q : Exit → Act → World → Prop} (l n : Nat) (hd : ∀ o ∈ ops, ∀ c, o.op ≠ .defer c) (hL : ∀ a w, ¬ Q .outgrown a w)
    (h : wpOp P ops Q i K a w) : wpOpIn (Fence.wide.inRound l) n P ops Q i K a w := by
  unfold wpOp at h
  unfold wpOpIn
  cases ho : ops[i]? with
  | none => simpa [ho] using h
  | some o =>
    simp only [ho] at h ⊢
    split
    · rename_i hw
      rw [if_pos hw] at h
      rcases h with h | ⟨_, a0, w0, h⟩
      · exact oper_round l n (hd o (Array.mem_of_getElem? ho)) h
      · exact absurd h (hL a0 w0)
    · rename_i hw
      rw [if_neg hw] at h
      exact ⟨fun _ _ => trivial, h⟩
theorem any_round {P : Program} {md : Region.Mode} {ops : Array Oper} {Q : Exit → Act → World → Prop} (l n : Nat) (hd : ∀ o ∈ ops, ∀ c, o.op ≠ .defer c) (hL : ∀ a w, ¬ Q .outgrown a w) :
    ∀ (fuel : Nat) (listed : Array Bool) (a : Act) (w : World), wpAny P md ops Q fuel listed a w → wpAnyIn (Fence.wide.inRound l) n P md ops Q fuel listed a w
  | 0, _, _, _, h => h
  | fuel + 1, _, _, _, h => ⟨h.1, fun i hi => wpOpIn_mono (fun a' w' h' => any_round l n hd hL fuel _ a' w' h') (op_round l n hd hL (h.2 i hi))⟩
def noDefer (ops : Array Oper) : Bool := ops.all fun o => match o.op with | .defer _ => false | _ => true
theorem noDefer_all {ops : Array Oper} (h : noDefer ops = true) : ∀ o ∈ ops, ∀ c, o.op ≠ .defer c := fun o ho c e => by
  have := (Array.all_eq_true_iff_forall_mem.1 h) o ho
  rw [e] at this
  cases this
theorem wpIn_round_held {P : Program} {id : Nat} {ops : Array Oper} {Q : Exit → Act → World → Prop} {a : Act} {w : World} {S : World → Prop} {l n : Nat} (hd : noDefer ops = true) (hL : ∀ a w, ¬ Q .outgrown a w) (hm : P.follows .mixedOrders = true)
    (hS : S w.drew) (h : S w.drew → wpAnyH P .any ops Q S ops.size (Array.replicate ops.size false) a w.drew) : (Code.region id ops true).wpIn (Fence.wide.inRound l) n P Q a w :=
  wpIn_region_any hm (any_round l n (noDefer_all hd) hL _ _ _ _ (wpAny_of_held _ _ _ _ (h hS)))
def thenK (K : Act → World → Prop) (Q : Exit → Act → World → Prop) : Exit → Act → World → Prop
  | .normal => K
  | .outgrown => fun _ _ => False
  | e => Q e
theorem oper_of_list {P : Program} {ops : Array Oper} {o : Oper} {a : Act} {w : World} {K : Act → World → Prop} {Q : Exit → Act → World → Prop} (hgd : o.guard = none)
    (h : wpList P ops (thenK K Q) [o] a w) : o.wp P a w K Q := by
  have hw : Region.wanted o (yielded ops a.tmps) = true := by simp [Region.wanted, hgd]
  unfold wpList at h
  rw [if_pos hw] at h
  have h' : o.wp P a w K (thenK K Q) := h.resolve_right (fun ⟨_, a0, w0, hh⟩ => hh)
  clear h
  unfold Oper.wp at h' ⊢
  generalize (execOp a.eval o).run P w = r at *
  cases r with
  | ok x w' =>
    cases x <;> simp only [Oper.upon] at h' ⊢ <;>
      first
        | exact h'
        | exact Calls.mono h' (fun e w'' he => by cases e <;> first | exact he | (obtain ⟨a0, w0, hh⟩ := he; exact hh.elim))
  | halt x w' => cases x <;> simp only [Oper.upon] at h' ⊢ <;> exact h'
section
variable {P : Program} {md : Region.Mode} {ops : Array Oper} {Q : Exit → Act → World → Prop} {S : World → Prop}
def lastOp (md : Region.Mode) (ops : Array Oper) (j : Nat) : Bool :=
  match ops[j]? with
  | none => false
  | some o => (List.range ops.size).all fun i => i == j || o.after.any fun e => Region.binds md e && e.on == i
theorem lastOp_waits {j i : Nat} {o : Oper} (h : lastOp md ops j = true) (ho : ops[j]? = some o) (hi : i < ops.size) (hne : j ≠ i) : ∃ e ∈ o.after, Region.binds md e = true ∧ e.on = i := by
  unfold lastOp at h
  rw [ho] at h
  have := List.all_eq_true.1 h i (List.mem_range.2 hi)
  simp only [Bool.or_eq_true, beq_iff_eq, Array.any_eq_true', Bool.and_eq_true] at this
  rcases this with h | h
  · exact absurd h.symm hne
  · obtain ⟨e, he, hb, hon⟩ := h
    exact ⟨e, he, hb, hon⟩
def wpAnyL (P : Program) (md : Region.Mode) (ops : Array Oper) (Q : Exit → Act → World → Prop) (S : World → Prop) : Nat → Array Bool → Act → World → Prop
  | 0, listed, a, w => Region.ready md ops listed = [] ∧ Q .normal a w
  | fuel + 1, listed, a, w => (Region.ready md ops listed = [] → Q .normal a w) ∧
    ∀ i ∈ Region.ready md ops listed, wpOp P ops Q i (fun a' w' => (S w' ∨ lastOp md ops i = true) ∧ wpAnyL P md ops Q S fuel (listed.setIfInBounds i true) a' w') a w
theorem wpAny_of_L : ∀ (fuel : Nat) (listed : Array Bool) (a : Act) (w : World), wpAnyL P md ops Q S fuel listed a w → wpAny P md ops Q fuel listed a w
  | 0, _, _, _, h => h
  | fuel + 1, _, _, _, h => ⟨h.1, fun i hi => wpOp_mono (fun a' w' h' => wpAny_of_L fuel _ a' w' h'.2) (h.2 i hi)⟩
theorem wpAnyL_take0 {i : Nat} {oi : Oper} {v : Value} (hi : ops[i]? = some oi) (hsel : ∀ (j : Nat) (o : Oper) cs b, ops[j]? = some o → o.op ≠ .select cs b)
    (hQ : ∀ c a w, Q (.panic c) (a.put oi.dst v) w → Q (.panic c) a w) :
    ∀ (fuel : Nat) (listed : Array Bool) (a : Act) (w : World),
      (∀ j oj, ops[j]? = some oj → j ≠ i → listed.getD j true = false → (∀ e ∈ oj.after, Region.binds md e = true → e.on ≠ i) → oi.apart ops oj = true) →
      i ∈ Region.ready md ops listed → YieldsIf P ops S oi v a → S w →
      wpAnyL P md ops Q S fuel (listed.setIfInBounds i true) (a.put oi.dst v) w → wpAnyL P md ops Q S (fuel + 1) listed a w
  | 0, listed, a, w, _, hr, hy, hS, H => by
    refine ⟨fun h => (by rw [h] at hr; cases hr), fun j hj => ?_⟩
    rcases Nat.decEq j i with hji | hji
    · have hm := ready_mono hj hji
      rw [H.1] at hm
      cases hm
    · subst hji
      exact hy.wpOp hi hS ⟨.inl hS, H⟩
  | fuel + 1, listed, a, w, hfree, hr, hy, hS, H => by
    refine ⟨fun h => (by rw [h] at hr; cases hr), fun j hj => ?_⟩
    rcases Nat.decEq j i with hji | hji
    · obtain ⟨hjun, oj, hoj, hall⟩ := mem_ready.1 hj
      have hlt : i < ops.size := (Array.getElem?_eq_some_iff.1 hi).1
      have hwait : ∀ e ∈ oj.after, Region.binds md e = true → e.on ≠ i := by
        intro e he hb heq
        have hin := hall e he hb
        have hout := (mem_ready.1 hr).1
        rw [heq] at hin
        rcases Nat.lt_or_ge i listed.size with hl | hl
        · simp [hl] at hin hout
          rw [hout] at hin
          cases hin
        · simp [Array.getElem?_eq_none hl] at hin
      have hnl : ¬ lastOp md ops j = true := fun hlast => by
        obtain ⟨e, he, hb, hon⟩ := lastOp_waits hlast hoj hlt hji
        exact hwait e he hb hon
      have step := wpOp_putIf hoj (hfree j oj hoj hji hjun hwait) (fun cs b => hsel i oi cs b hi) (fun cs b => hsel j oj cs b hoj) hQ hy (H.2 j (ready_mono hj hji))
      refine wpOp_mono (fun a' w' hh => ?_) step
      obtain ⟨hy', hSl, hrest⟩ := hh
      have hS' : S w' := hSl.resolve_right hnl
      refine ⟨.inl hS', wpAnyL_take0 hi hsel hQ fuel (listed.setIfInBounds j true) a' w' (fun k ok hk hki hun hno => hfree k ok hk hki ?_ hno) (ready_mono hr (Ne.symm hji)) hy' hS' (by rw [Array.setIfInBounds_comm _ _ hji]; exact hrest)⟩
      rcases Nat.decEq j k with hjk | hjk
      · rw [getD_set_ne true hjk] at hun
        exact hun
      · subst hjk
        exact hjun
    · subst hji
      exact hy.wpOp hi hS ⟨.inl hS, H⟩
theorem wpAnyL_take {i : Nat} {oi : Oper} {v : Value} {fuel : Nat} {listed : Array Bool} {a : Act} {w : World} (hi : ops[i]? = some oi)
    (hs : Region.noSelect ops = true) (hf : Region.free md ops listed i = true) (hr : (Region.ready md ops listed).contains i = true)
    (hQ : ∀ c a w, Q (.panic c) (a.put oi.dst v) w → Q (.panic c) a w) (hy : YieldsIf P ops S oi v a) (hS : S w)
    (h : wpAnyL P md ops Q S fuel (listed.setIfInBounds i true) (a.put oi.dst v) w) : wpAnyL P md ops Q S (fuel + 1) listed a w :=
  wpAnyL_take0 hi (Region.noSelect_spec hs) hQ fuel listed a w (Region.free_spec hi hf) (by simpa using hr) hy hS h
theorem wpAnyL_done {listed : Array Bool} {a : Act} {w : World} (hr : Region.ready md ops listed = []) (h : Q .normal a w) : ∀ fuel, wpAnyL P md ops Q S fuel listed a w
  | 0 => ⟨hr, h⟩
  | _ + 1 => ⟨fun _ => h, by rw [hr]; simp⟩
theorem wpAnyL_one {i : Nat} {o : Oper} {fuel : Nat} {listed : Array Bool} {a : Act} {w : World} (ho : ops[i]? = some o) (hr : Region.ready md ops listed = [i])
    (h : ∀ K' : Act → World → Prop, Shut (∀ a w, (S w ∨ lastOp md ops i = true) → wpAnyL P md ops Q S fuel (listed.setIfInBounds i true) a w → K' a w) → if Region.wanted o (yielded ops a.tmps) = true then Oper.wp P o a w K' Q else K' (a.put o.dst undef) w) :
    wpAnyL P md ops Q S (fuel + 1) listed a w :=
  ⟨fun h0 => (by rw [hr] at h0; cases h0), fun j hj => by
    rw [hr] at hj
    obtain rfl := List.mem_singleton.1 hj
    exact wpOp_step ho (fun K' hK => h K' (fun a w hS hW => hK a w ⟨hS, hW⟩))⟩
theorem wp_region_heldL {id : Nat} {a : Act} {w : World} (hm : P.follows .mixedOrders = true) (h : wpAnyL P .any ops Q S ops.size (Array.replicate ops.size false) a w.drew) : (Code.region id ops true).wp P Q a w :=
  wp_region_any hm (wpAny_of_L _ _ _ _ h)
theorem wpIn_round_heldL {id : Nat} {a : Act} {w : World} {l n : Nat} (hd : noDefer ops = true) (hL : ∀ a w, ¬ Q .outgrown a w) (hm : P.follows .mixedOrders = true)
    (h : wpAnyL P .any ops Q S ops.size (Array.replicate ops.size false) a w.drew) : (Code.region id ops true).wpIn (Fence.wide.inRound l) n P Q a w :=
  wpIn_region_any hm (any_round l n (noDefer_all hd) hL _ _ _ _ (wpAny_of_L _ _ _ _ h))
end
end Go.Proofs.YtmbiiemlepfoaaaGreatDoor
