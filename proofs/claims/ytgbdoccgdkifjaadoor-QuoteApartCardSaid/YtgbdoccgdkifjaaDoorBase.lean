/- Byte slices that came in, told by their bytes: conversion to a string, the order of bytes. -/
import Derived.Test.YtgbdoccgdkifjaaDoorProg
import Derived.WalkKit
import Derived.Below
import Derived.Lib.Bytealg
import Derived.Lib.BytesEntry
import Derived.Lib.SliceRun
import Derived.Lib.Hide
import Derived.Lib.SlBytesConst
import Derived.Laws.BytesArg
import Derived.Maps.AppendAt
import Derived.Deep.QuietTactic
import Derived.BigQuiet
import Derived.WalkLawsBesides
import Derived.WalkSpells
import Derived.Outline
namespace Go.Proofs.YtgbdoccgdkifjaaDoor
open Go.RowKit

/-- The string of some bytes. -/
def str (l : List UInt8) : ByteArray := ⟨l.toArray⟩
theorem str_data (l : List UInt8) : (str l).data.toList = l := rfl
theorem str_toList (l : List UInt8) : (str l).toList = l := ByteArray.toList_eq _
theorem str_size (l : List UInt8) : (str l).size = l.length := rfl

/-- A byte as a value; its number. -/
def bv (x : UInt8) : Value := .int .u8 (x.toNat : Int)

/-- WHAT IS TOLD OF A SLICE OF BYTES: its address p, its capacity c, its bytes l. -/
structure IsB (w : World) (p : Option Addr) (c : Nat) (l : List UInt8) : Prop where
  cap : l.length ≤ c
  nil : p = none → c = 0
  big : c ≤ maxLen
  cells : 0 < l.length → ∃ b o, p = some ⟨b, o, none⟩ ∧ b < w.heap.size ∧ ∀ i x, l[i]? = some x → w.cell? ⟨b, o + i, none⟩ = some (bv x)

theorem IsB.none_ (w : World) : IsB w none 0 [] := ⟨Nat.le_refl _, fun _ => rfl, Nat.zero_le _, fun h => absurd h (by simp)⟩

theorem IsB.keep {w w' : World} {p : Option Addr} {c : Nat} {l : List UInt8} (h : IsB w p c l) (hz : w.heap.size ≤ w'.heap.size) (hk : ∀ a : Addr, a.block < w.heap.size → w'.cell? a = w.cell? a) : IsB w' p c l :=
  ⟨h.cap, h.nil, h.big, fun hl => by
    obtain ⟨b, o, hp, hb, hc⟩ := h.cells hl
    exact ⟨b, o, hp, Nat.lt_of_lt_of_le hb hz, fun i x hx => (hk _ hb).trans (hc i x hx)⟩⟩

theorem IsB.below {w w' : World} {p : Option Addr} {c : Nat} {l : List UInt8} (h : IsB w p c l) (hb : Below w.heap.size w w') : IsB w' p c l :=
  h.keep hb.size fun _ ha => hb.cell ha

theorem IsB.drewN {w : World} {p : Option Addr} {c : Nat} {l : List UInt8} (h : IsB w p c l) (n : Nat) : IsB (w.drewN n) p c l := ⟨h.cap, h.nil, h.big, h.cells⟩
theorem IsB.drew {w : World} {p : Option Addr} {c : Nat} {l : List UInt8} (h : IsB w p c l) : IsB w.drew p c l := ⟨h.cap, h.nil, h.big, h.cells⟩

theorem IsB.alloc {w : World} {p : Option Addr} {c : Nat} {l : List UInt8} (h : IsB w p c l) (o : Obj) : IsB (w.alloc o) p c l :=
  h.below ((Below.refl _ _).alloc (Nat.le_refl _) o)

/-- A literal's row. -/
theorem IsB.lit (w : World) (l : List UInt8) (e : TypeId) (fr : Nat × Nat) (hl : l.length ≤ maxLen) : IsB (w.alloc (.cells (l.map bv).toArray e fr)) (some ⟨w.heap.size, 0, none⟩) l.length l :=
  ⟨Nat.le_refl _, fun h => by simp at h, hl, fun _ => ⟨w.heap.size, 0, rfl, by simp, fun i x hx => by
    rw [Nat.zero_add, World.cell?_alloc_mark]
    simp [hx]⟩⟩

/-- A cut at the end: 's[:k]'. -/
theorem IsB.take {w : World} {p : Option Addr} {c : Nat} {l : List UInt8} (h : IsB w p c l) (k : Nat) : IsB w p c (l.take k) :=
  ⟨by have := h.cap; rw [List.length_take]; omega, h.nil, h.big, fun hl => by
    obtain ⟨b, o, hp, hb, hc⟩ := h.cells (by rw [List.length_take] at hl; omega)
    exact ⟨b, o, hp, hb, fun i x hx => hc i x (by rw [List.getElem?_take] at hx; split at hx <;> simp_all)⟩⟩

section
variable {P : Program} {w : World} {p : Option Addr} {c : Nat} {l : List UInt8}

def nums (l : List UInt8) : List Int := l.map fun x => (x.toNat : Int)
theorem strOfNums_nums (l : List UInt8) : strOfNums (nums l) = str l := by
  unfold strOfNums nums str
  rw [List.map_map]
  congr 2
  conv => rhs; rw [← List.map_id l]
  apply List.map_congr_left
  intro x _
  simp
theorem nums_at {l : List UInt8} {i : Nat} (h : i < l.length) : (nums l).getD i 0 = (l[i].toNat : Int) := by
  unfold nums
  simp [List.getD, h]

theorem IsB.convert (h : IsB w p c l) {src e dst : TypeId} (hs : P.underlying src = some (.slice e)) (he : P.underlying e = some (.int .u8)) (hd : P.underlying dst = some .string) :
    (convert src dst (.slice p l.length c)).run P w = .ok (.string (str l)) w := by
  rcases Nat.eq_zero_or_pos l.length with h0 | h0
  · obtain rfl : l = [] := List.eq_nil_of_length_eq_zero h0
    rw [run_convert_bytes_string w src dst e _ _ c hs he hd]
    cases p <;> simp [Conv.bytesToString, loadCells]
    all_goals rfl
  · obtain ⟨b, o, rfl, _, hc⟩ := h.cells h0
    have := run_convert_bytes_arg (P := P) w src e hs he b o l.length c (nums l) (by simp [nums]) (fun i hi => by rw [nums_at hi]; exact hc i _ (List.getElem?_eq_getElem hi)) dst hd
    rwa [strOfNums_nums] at this

theorem bytesOf_nums (l : List UInt8) : Lib.bytesOf (nums l) = l := by
  unfold Lib.bytesOf nums
  rw [List.map_map]
  conv => rhs; rw [← List.map_id l]
  apply List.map_congr_left
  intro x _
  simp

theorem IsB.load (h : IsB w p c l) : (Extern.Bytes.bytesOf (.slice p l.length c)).run P w = .ok (str l) w := by
  rcases p with _ | a
  · have h0 : l = [] := List.eq_nil_of_length_eq_zero (by have := h.cap; have := h.nil rfl; omega)
    subst h0
    simp [Extern.Bytes.bytesOf]
    rfl
  · simp only [Extern.Bytes.bytesOf]
    rcases Nat.eq_zero_or_pos l.length with h0 | h0
    · obtain rfl : l = [] := List.eq_nil_of_length_eq_zero h0
      simp [Extern.Bytes.loadBytes]
      rfl
    · obtain ⟨b, o, hp, _, hc⟩ := h.cells h0
      obtain rfl := Option.some.inj hp
      have hl := Lib.run_loadBytesX (P := P) w (nums l) ⟨b, o, none⟩ .empty (fun j x hj => by
        have hjl : j < l.length := by have := (List.getElem?_eq_some_iff.1 hj).1; simpa [nums] using this
        have e : (⟨b, o, none⟩ : Addr).add j = ⟨b, o + j, none⟩ := by unfold Addr.add; split <;> simp_all
        rw [e, hc j _ (List.getElem?_eq_getElem hjl)]
        have := nums_at hjl
        rw [List.getD_eq_getElem?_getD, hj] at this
        simp at this
        rw [this]; rfl)
      rw [show (nums l).length = l.length from by simp [nums]] at hl
      rw [hl]
      congr 1
      apply ByteArray.ext
      show (#[] : Array UInt8) ++ (Lib.bytesOf (nums l)).toArray = l.toArray
      rw [bytesOf_nums]
      simp

theorem run_compare {p' : Option Addr} {c' : Nat} {l' : List UInt8} (h : IsB w p c l) (h' : IsB w p' c' l') :
    (Extern.BytealgCompare.compare #[.slice p l.length c, .slice p' l'.length c']).run P w = .ok (.int .i64 (Lib.compareBytes l l')) w := by
  change Sem.run P (do pure (goInt (Extern.BytealgCompare.cmp (← Extern.Bytes.bytesOf (.slice p l.length c)) (← Extern.Bytes.bytesOf (.slice p' l'.length c'))))) w = _
  simp only [Sem.run_bind, h.load, h'.load, Sem.run_pure, Result.andThen]
  rw [Lib.cmp_eq]
  rfl
end

end Go.Proofs.YtgbdoccgdkifjaaDoor
