/- The walk of Feed. -/
import Derived.Test.YtkcijbljgcgdmaaSrcAppend
namespace Go.Proofs.Ytkcijbljgcgdmaa
open Go.RowKit

/-- What Feed leaves. -/
structure FedS (w w' : World) (S : Nat → Prop) (g : Nat) (l : List UInt8) (t : Nat) : Prop where
  src : Src w' (fun k => S k ∨ w.heap.size ≤ k) g l t
  kept : Kept w w' S
theorem set_b_kept {w : World} {S : Nat → Prop} {g : Nat} (v : Value) (hS : S g) : Kept w (w.setCell ⟨g, 0, none⟩ v) S :=
  ⟨rfl, rfl, rfl, by simp [World.setCell], fun k _ hk => Below.heap_setCell w _ _ k (fun e => hk (by rw [e]; exact hS))⟩

set_option maxHeartbeats 1000000 in
set_option maxRecDepth 100000 in
theorem srcFeed (w : World) {S : Nat → Prop} {g : Nat} {l : List UInt8} {t : Nat} (h : Src w S g l t) {p : Option Addr} {c : Nat} {b : List UInt8} (hB : IsB w p c b) (hfit : l.length + b.length ≤ 16777216) :
    Calls Try.prog 8 #[.pointer (some ⟨g, 0, none⟩), .slice p b.length c] w fun e w' => e = .returned (.int .i64 0) ∧ FedS w w' S g (l ++ b) t := by
  obtain ⟨q, d, hrow, hor, hS, hne⟩ := h
  have c0 : w.cell? ⟨g, 0, none⟩ = some (.slice q l.length d) := cell_of_row w g 0 _ _ (0, 0) hrow
  have f0 : w.frozen? ⟨g, 0, none⟩ = false := frozen_of_row w g 0 _ _ hrow
  have g0 : ¬ 16777216 - (l.length : Int) < (b.length : Int) := by omega
  have HOR := Lib.hid hor
  have HB := Lib.hid hB
  have HROW := Lib.hid hrow
  have HS : Hid (S g) := hS
  have HNE := Lib.hid hne
  clear hor hB hrow hS hne
  go_enter Try.func8, Try.ntmps8
  go_wp2_with (at_builtin; refine wp_append_or _ rfl _ _ rfl HOR.out _ rfl rfl HB.out _ rfl rfl ?rb ?_)
  case rb => omega
  intro q' d' w1 hor1 hk1 hl1
  have hnl : ¬ Lies q d g := fun ⟨x, hx, hd, e⟩ => (HNE.out x hx hd).1 e
  have hg1 : w1.heap[g]? = w.heap[g]? := hk1.block g (row_lt HROW.out) hnl
  have hrow1 := hg1.trans HROW.out
  have k0 : w1.cell? ⟨g, 0, none⟩ = some (.slice q l.length d) := cell_of_row w1 g 0 _ _ (0, 0) hrow1
  have z0 : w1.frozen? ⟨g, 0, none⟩ = false := frozen_of_row w1 g 0 _ _ hrow1
  have hlen : l.length + b.length = (l ++ b).length := by simp
  have hng : ∀ x, q' = some x → 0 < d' → x.block ≠ g ∧ (S x.block ∨ w.heap.size ≤ x.block) := fun x hx hd => by
    rcases hl1 x.block ⟨x, hx, hd, rfl⟩ with ⟨y, hy, hd2, e⟩ | h2
    · rw [← e]
      exact ⟨(HNE.out y hy hd2).1, .inl (HNE.out y hy hd2).2⟩
    · exact ⟨by have := row_lt HROW.out; omega, .inr h2⟩
  have hfin : FedS w (w1.setCell ⟨g, 0, none⟩ (.slice q' (l.length + b.length) d')) S g (l ++ b) t := by
    have hk2 := set_b_kept (w := w1) (S := S) (g := g) (.slice q' (l.length + b.length) d') HS.out
    refine ⟨⟨q', d', ?_, hor1.same hk2.size fun x hx hd => ?_, .inl HS.out, hng⟩, Kept.trans (hk1.mono fun k ⟨x, hx, hd, e⟩ => by rw [← e]; exact (HNE.out x hx hd).2) hk2⟩
    · rw [hlen]
      simp [World.setCell, Array.getElem?_modify, hrow1]
    · exact Below.heap_setCell w1 _ _ _ (fun e => (hng x hx hd).1 e)
  have HF := Lib.hid hfin
  clear hor1 hk1 hl1 hnl hg1 hrow1 hlen hng hfin c0 f0
  go_wp2
  go_ret
  exact ⟨rfl, HF.out⟩

set_option maxHeartbeats 1000000 in
set_option maxRecDepth 100000 in
theorem srcFeedBig (w : World) {S : Nat → Prop} {g : Nat} {l : List UInt8} {t : Nat} (h : Src w S g l t) {p : Option Addr} {c : Nat} {b : List UInt8} (hl : l.length ≤ 16777216) (hfit : 16777216 < l.length + b.length) :
    Calls Try.prog 8 #[.pointer (some ⟨g, 0, none⟩), .slice p b.length c] w fun e w' => e = .returned (.int .i64 4) ∧ w = w' := by
  obtain ⟨q, d, hrow, hor, hS, hne⟩ := h
  have c0 : w.cell? ⟨g, 0, none⟩ = some (.slice q l.length d) := cell_of_row w g 0 _ _ (0, 0) hrow
  have g0 : 16777216 - (l.length : Int) < (b.length : Int) := by omega
  clear hor hrow hS hne
  go_enter Try.func8, Try.ntmps8
  go_wp2
  go_ret
  exact ⟨rfl, rfl⟩
end Go.Proofs.Ytkcijbljgcgdmaa
