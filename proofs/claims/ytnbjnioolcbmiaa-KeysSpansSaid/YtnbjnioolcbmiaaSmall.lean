/- The walk of the keys laws' small. -/
import Derived.Test.YtnbjnioolcbmiaaBase
namespace Go.Proofs.Ytnbjnioolcbmiaa
open Go.RowKit

/-- Slice values in a row of cells. -/
def sv (x : Option Addr × Nat × Nat) : Value := .slice x.1 x.2.1 x.2.2
def smallB (vs : List (Option Addr × Nat × Nat)) : Bool := vs.all fun x => decide (x.2.1 ≤ 200)
theorem small_no {vs : List (Option Addr × Nat × Nat)} {i : Nat} {x : Option Addr × Nat × Nat} (h : vs[i]? = some x) (hx : 200 < x.2.1) : smallB vs = false := by
  rw [smallB, List.all_eq_false]
  exact ⟨x, List.mem_of_getElem? h, by simp; omega⟩
theorem small_yes {vs : List (Option Addr × Nat × Nat)} (h : ∀ j x, j < vs.length → vs[j]? = some x → x.2.1 ≤ 200) : smallB vs = true := by
  rw [smallB, List.all_eq_true]
  intro x hx
  obtain ⟨j, hj, rfl⟩ := List.getElem_of_mem hx
  simpa using h j _ hj (List.getElem?_eq_getElem hj)

set_option maxHeartbeats 1000000 in
theorem small (w : World) (b : Nat) (vs : List (Option Addr × Nat × Nat)) (hn : vs.length ≤ 1000) (hc : ∀ i x, vs[i]? = some x → w.cell? ⟨b, i, none⟩ = some (sv x)) :
    Calls Try.prog 8 #[.slice (some ⟨b, 0, none⟩) vs.length vs.length] w fun e w' => e = .returned (.bool (smallB vs)) ∧ w = w' := by
  have HC := Lib.hid hc
  clear hc
  go_enter Try.func8, Try.ntmps8
  go_wp2
  go_loop [4, 7] (fun _ v7 => ∃ i : Nat, v7 = .int .i64 i ∧ i ≤ vs.length ∧ Hid (∀ j x, j < i → vs[j]? = some x → x.2.1 ≤ 200)) (fun _ v7 => vs.length - (intOf v7).toNat)
  case atStart => exact ⟨0, rfl, Nat.zero_le _, fun j x h => absurd h (by omega)⟩
  case round =>
    obtain ⟨i, rfl, hi, HA⟩ := hrel
    by_cases h1 : i < vs.length
    · obtain ⟨⟨q, n, c⟩, hx⟩ : ∃ x, vs[i]? = some x := ⟨_, List.getElem?_eq_getElem h1⟩
      have hcell : w.cell? ⟨b, i, none⟩ = some (.slice q n c) := HC.out i _ hx
      have g1 : (i : Int) < (vs.length : Int) := by omega
      by_cases h2 : n ≤ 200
      · have HA' : Hid (∀ j x, j < i + 1 → vs[j]? = some x → x.2.1 ≤ 200) := fun j x hj hjx => by
          rcases Nat.lt_or_ge j i with h | h
          · exact HA.out j x h hjx
          · obtain rfl : j = i := by omega
            rw [hx] at hjx; injection hjx with hjx; rw [← hjx]; exact h2
        clear hx HA
        have g2 : ¬ ((200 : Int) < (n : Int)) := by omega
        go_wp2
        go_round
        case rel => exact ⟨i + 1, by go_num, by omega, HA'⟩
        case measure => simp [intOf]; omega
      · have hs := small_no hx (by simp; omega)
        have HS := Lib.hid hs
        clear hx hs
        have g2 : ((200 : Int) < (n : Int)) := by omega
        go_wp2
        go_ret
        exact ⟨by rw [HS.out]; rfl, rfl⟩
    · obtain rfl : i = vs.length := by omega
      have hs := small_yes HA.out
      have HS := Lib.hid hs
      clear hs
      have g1 : ¬ ((vs.length : Int) < (vs.length : Int)) := by omega
      go_wp2
      go_ret
      exact ⟨by rw [HS.out]; rfl, rfl⟩

/-- A row of slice values that the call has just made. -/
theorem small_lit (w : World) (vs : List (Option Addr × Nat × Nat)) (hn : vs.length ≤ 1000) :
    Calls Try.prog 8 #[.slice (some ⟨w.heap.size, 0, none⟩) vs.length vs.length] (w.alloc (.cells (vs.map sv).toArray 22)) fun e w' => e = .returned (.bool (smallB vs)) ∧ Below w.heap.size w w' :=
  (small _ w.heap.size vs hn (fun i x hx => by rw [World.cell?_alloc_new]; simp [hx])).mono fun _ _ ⟨h, h'⟩ => ⟨h, h' ▸ (Below.refl _ w).alloc (Nat.le_refl _) _⟩
end Go.Proofs.Ytnbjnioolcbmiaa
