/- The walk of keys.Next. -/
import Derived.Test.YtnbjnioolcbmiaaClone
namespace Go.Proofs.Ytnbjnioolcbmiaa
open Go.RowKit

structure NextR (w w' : World) (v : Value) (l : List UInt8) : Prop where
  own : w'.ownsRow w.heap.size 5 1 v (l.length + 1) ((l ++ [0]).map bv)
  below : Below w.heap.size w w'

set_option maxHeartbeats 1000000 in
set_option maxRecDepth 100000 in
theorem next (w : World) {p : Option Addr} {c : Nat} {l : List UInt8} (h : IsB w p c l) (hl : l.length ≤ 1000000) :
    Calls Try.prog 11 #[.slice p l.length c] w fun e w' => ∃ v, e = .returned v ∧ NextR w w' v l := by
  obtain ⟨i0, hi, hz0, hz1, hz2⟩ := info_parts info5
  have HC := Lib.hid (clone w h (by omega))
  clear h
  go_enter Try.func11, Try.ntmps11
  go_wp2_with fail
  refine HC.out.mono ?_
  rintro e w1 ⟨v, rfl, hown, hbel⟩
  obtain ⟨q, d, rfl⟩ := own_slice hown
  have hs := hbel.size
  go_wp2_with (at_builtin; refine wpList_append_own _ rfl _ _ 22 rfl w.heap.size 5 i0 (.int .u8 0) 1 1 Try.underlying22 hi hz0 hz1 hz2 rfl (by decide) _ _ _ rfl (World.ownsRow.alloc hown _) ⟨w1.heap.size, 0, none⟩ 1 1 [bv 0] rfl ?qc1 ?qc2 ?qc3 ?qc4 ?qc5 ?qc6 ?_)
  case qc1 => rfl
  case qc2 => exact cell_one_new _ _ _
  case qc3 => intro u hu; simp at hu; subst hu; rfl
  case qc4 => unfold maxLen; omega
  case qc5 => omega
  case qc6 => simp; omega
  intro v' w2 hown2 hgrow hnil
  go_wp2
  go_ret
  refine ⟨v', rfl, by simpa using hown2, ((hbel.alloc hs _).grown hgrow (by simp; omega) ?_)⟩
  intro k hk
  exact (hown.lt k hk).1
end Go.Proofs.Ytnbjnioolcbmiaa
