/- The walks of Span.Has, Span.Empty, keys.Of. -/
import Derived.Test.YtnbjnioolcbmiaaCmp
import Derived.Test.YtnbjnioolcbmiaaPure
import Derived.Test.YtnbjnioolcbmiaaBehind
namespace Go.Proofs.Ytnbjnioolcbmiaa
open Go.RowKit

def hasB (f t : List UInt8) (cl : Bool) (k : List UInt8) : Bool := decide (0 ≤ Lib.compareBytes k f) && (!cl || decide (Lib.compareBytes k t < 0))
def emptyB (f t : List UInt8) (cl : Bool) : Bool := cl && decide (Lib.compareBytes t f ≤ 0)

set_option maxHeartbeats 1000000 in
set_option maxRecDepth 100000 in
theorem spanHas (w : World) {pf pt pk : Option Addr} {cf ct ck : Nat} {f t k : List UInt8} (cl : Bool) (hf : IsB w pf cf f) (ht : IsB w pt ct t) (hk : IsB w pk ck k) :
    Calls Try.prog 17 #[.agg #[.slice pf f.length cf, .slice pt t.length ct, .bool cl], .slice pk k.length ck] w fun e w' => e = .returned (.bool (hasB f t cl k)) ∧ Below w.heap.size w w' := by
  have c1 := keysCompare (w.alloc (.cells #[.slice pf f.length cf, .slice pt t.length ct, .bool cl] 35)) (hk.alloc _) (hf.alloc _)
  have c2 := keysCompare (w.alloc (.cells #[.slice pf f.length cf, .slice pt t.length ct, .bool cl] 35)) (hk.alloc _) (ht.alloc _)
  have hd : hasB f t cl k = (decide (0 ≤ Lib.compareBytes k f) && (!cl || decide (Lib.compareBytes k t < 0))) := rfl
  generalize Lib.compareBytes k f = x at *
  generalize Lib.compareBytes k t = y at *
  have C1 := Lib.hid c1
  have C2 := Lib.hid c2
  have HD := Lib.hid hd
  clear c1 c2 hd hf ht hk
  by_cases hx : 0 ≤ x
  · cases cl
    · go_enter Try.func17, Try.ntmps17
      go_wp2_with fail
      refine C1.out.mono ?_
      rintro e w' ⟨rfl, rfl⟩
      go_wp2
      go_ret
      exact ⟨by rw [HD.out]; simp [hx], (Below.refl _ _).alloc (Nat.le_refl _) _⟩
    · go_enter Try.func17, Try.ntmps17
      go_wp2_with fail
      refine C1.out.mono ?_
      rintro e w' ⟨rfl, rfl⟩
      go_wp2_with fail
      refine C2.out.mono ?_
      rintro e w' ⟨rfl, rfl⟩
      go_wp2
      go_ret
      exact ⟨by rw [HD.out]; simp [hx], (Below.refl _ _).alloc (Nat.le_refl _) _⟩
  · go_enter Try.func17, Try.ntmps17
    go_wp2_with fail
    refine C1.out.mono ?_
    rintro e w' ⟨rfl, rfl⟩
    go_wp2
    go_ret
    exact ⟨by rw [HD.out]; simp; intro h; omega, (Below.refl _ _).alloc (Nat.le_refl _) _⟩

set_option maxHeartbeats 1000000 in
set_option maxRecDepth 100000 in
theorem spanEmpty (w : World) {pf pt : Option Addr} {cf ct : Nat} {f t : List UInt8} (cl : Bool) (hf : IsB w pf cf f) (ht : IsB w pt ct t) :
    Calls Try.prog 18 #[.agg #[.slice pf f.length cf, .slice pt t.length ct, .bool cl]] w fun e w' => e = .returned (.bool (emptyB f t cl)) ∧ Below w.heap.size w w' := by
  have c2 := keysCompare (w.alloc (.cells #[.slice pf f.length cf, .slice pt t.length ct, .bool cl] 35)) (ht.alloc _) (hf.alloc _)
  have hd : emptyB f t cl = (cl && decide (Lib.compareBytes t f ≤ 0)) := rfl
  generalize Lib.compareBytes t f = y at *
  have C2 := Lib.hid c2
  have HD := Lib.hid hd
  clear c2 hd hf ht
  cases cl
  · go_enter Try.func18, Try.ntmps18
    go_wp2
    go_ret
    exact ⟨by rw [HD.out]; simp, (Below.refl _ _).alloc (Nat.le_refl _) _⟩
  · go_enter Try.func18, Try.ntmps18
    go_wp2_with fail
    refine C2.out.mono ?_
    rintro e w' ⟨rfl, rfl⟩
    go_wp2
    go_ret
    exact ⟨by rw [HD.out]; simp, (Below.refl _ _).alloc (Nat.le_refl _) _⟩

theorem own_below {w w' : World} {base : Nat} {e : TypeId} {s n : Nat} {v : Value} {xs : List Value} (h : w.ownsRow base e s v n xs) (hb : Below w.heap.size w w') : w'.ownsRow base e s v n xs :=
  h.kept (row := none) ⟨hb.os, hb.tape, hb.output, hb.size, fun i hi _ => hb.block i hi⟩ (by cases v.ownBlock <;> simp)

/-- What keys.Of hands back. -/
structure OfR (w w' : World) (pf pt : Option Addr) (cf ct : Nat) (f t : List UInt8) : Prop where
  from_ : IsB w' pf cf f
  to_ : IsB w' pt ct t
  below : Below w.heap.size w w'

set_option maxHeartbeats 1000000 in
set_option maxRecDepth 100000 in
theorem keysOf (w : World) {p : Option Addr} {c : Nat} {l : List UInt8} (h : IsB w p c l) (hl : l.length ≤ 1000000) :
    Calls Try.prog 20 #[.slice p l.length c] w fun e w' => ∃ pf pt cf ct, e = .returned (.agg #[.slice pf l.length cf, .slice pt ((behindB l).getD []).length ct, .bool (behindB l).isSome]) ∧ OfR w w' pf pt cf ct l ((behindB l).getD []) := by
  have H := Lib.hid h
  clear h
  go_enter Try.func20, Try.ntmps20
  go_wp2_with fail
  refine (behind _ (H.out.alloc _) (by omega)).mono ?_
  rintro e w1 ⟨v, rfl, hown, hbel⟩
  obtain ⟨q, d, rfl⟩ := own_slice hown
  have HO1 := Lib.hid hown
  have g1 := (H.out.alloc _).below hbel
  have HBel := Lib.hid hbel
  have hblk := hbel.block w.heap.size (by simp)
  rw [heap_alloc_new] at hblk
  have HBLK := Lib.hid hblk
  have hs := hbel.size
  simp at hs
  clear hown hbel hblk
  go_wp2_with fail
  refine (clone _ g1 (by omega)).mono ?_
  rintro e w2 ⟨v, rfl, hown, hbel2⟩
  obtain ⟨q2, d2, rfl⟩ := own_slice hown
  have hblk2 := (hbel2.block w.heap.size (by omega)).trans HBLK.out
  have s0 : w2.cell? ⟨w.heap.size, 0, none⟩ = some (.slice none 0 0) := cell_of_row w2 w.heap.size 0 _ _ (0, 0) hblk2
  have s1 : w2.cell? ⟨w.heap.size, 1, none⟩ = some (.slice none 0 0) := cell_of_row w2 w.heap.size 1 _ _ (0, 0) hblk2
  have s2 : w2.cell? ⟨w.heap.size, 2, none⟩ = some (.bool false) := cell_of_row w2 w.heap.size 2 _ _ (0, 0) hblk2
  have z0 : w2.frozen? ⟨w.heap.size, 0, none⟩ = false := frozen_of_row w2 w.heap.size 0 _ _ hblk2
  have z1 : w2.frozen? ⟨w.heap.size, 1, none⟩ = false := frozen_of_row w2 w.heap.size 1 _ _ hblk2
  have z2 : w2.frozen? ⟨w.heap.size, 2, none⟩ = false := frozen_of_row w2 w.heap.size 2 _ _ hblk2
  have HO2 := Lib.hid hown
  have HBel2 : Hid (Below w1.heap.size w1 w2) := hbel2
  clear hown hbel2 hblk2
  go_wp2
  refine bodyPost_ret (v := .agg #[.slice q2 l.length d2, .slice q ((behindB l).getD []).length d, .bool (behindB l).isSome]) ?_ rfl ?_
  · simp [results, Try.results20, go_sem, s0, s1, s2]
  · refine ⟨_, _, _, _, rfl, IsB.own (base := w1.heap.size) (e := 5) ?_, IsB.own (base := w.heap.size + 1) (e := 5) ?_, ?_⟩
    · exact ownsRow_setCell_below (ownsRow_setCell_below (ownsRow_setCell_below HO2.out (by simp; omega) _) (by simp; omega) _) (by simp; omega) _
    · have ho := HO1.out
      rw [World.size_alloc] at ho
      exact ownsRow_setCell_below (ownsRow_setCell_below (ownsRow_setCell_below (own_below ho HBel2.out) (by simp) _) (by simp) _) (by simp) _
    · exact ((((((Below.refl _ w).alloc (Nat.le_refl _) _).trans (HBel.out.mono (by simp))).trans (HBel2.out.mono (by omega))).setCell (p := ⟨w.heap.size, 0, none⟩) (Nat.le_refl _) _).setCell (p := ⟨w.heap.size, 1, none⟩) (Nat.le_refl _) _).setCell (p := ⟨w.heap.size, 2, none⟩) (Nat.le_refl _) _
end Go.Proofs.Ytnbjnioolcbmiaa
