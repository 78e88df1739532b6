/- NewReader, and what its reader lies in: blocks of its own alone. The bytes of FrameRows. -/
import Derived.Test.YtdiliajpcgfpoaaRdWalk
import Derived.Test.YtdiliajpcgfpoaaFrPure
import Derived.Test.YtdiliajpcgfpoaaList
namespace Go.Proofs.Ytdiliajpcgfpoaa
open Go.RowKit

/-- From block b on, below the end of the elder world, nothing has changed. -/
def Agree (b : Nat) (w w' : World) : Prop := ∀ k, b ≤ k → k < w.heap.size → w'.heap[k]? = w.heap[k]?
theorem OB.of_own_at {w w2 : World} {base : Nat} {q : Option Addr} {d : Nat} {l : List UInt8} (h : w.ownsRow base 5 1 (.slice q l.length d) l.length (l.map bv)) (hk : Agree base w w2) : OB w2 q d l := by
  rcases h.2 with ⟨hv, hn⟩ | ⟨g, cap, cur, hv, hg, hh, hnc, hcm, hcs, ht⟩
  · injection hv with h1 h2 h3
    subst h1; subst h3
    obtain rfl : l = [] := List.eq_nil_of_length_eq_zero hn
    exact ⟨Nat.le_refl _, fun _ => rfl, Nat.zero_le _, fun h => absurd h (by simp)⟩
  · injection hv with h1 h2 h3
    subst h1; subst h3
    refine ⟨hnc, fun h => by simp at h, hcm, fun _ => ⟨g, 0, cur, rfl, (hk g hg (row_lt hh)).trans hh, fun i x hx => ?_⟩⟩
    have := h.cells (g := g) rfl i (bv x) (by simp [hx])
    rw [Addr.add_lit, cell_of_row w g (0 + i) cur _ (0, 0) hh] at this
    exact this
structure NewK (w w' : World) (g : Nat) (l : List UInt8) : Prop where
  ge : w.heap.size ≤ g
  keep : ∀ w2, Agree w.heap.size w' w2 → Rd w2 g l 0
  below : Below w.heap.size w w'

set_option maxHeartbeats 1000000 in
set_option maxRecDepth 100000 in
theorem newReaderK (w : World) {p : Option Addr} {c : Nat} {l : List UInt8} (h : IsB w p c l) (hl : l.length ≤ 140737488355328) :
    Calls Try.prog 12 #[.slice p l.length c] w fun e w' => ∃ g, e = .returned (.pointer (some ⟨g, 0, none⟩)) ∧ NewK w w' g l := by
  have HC := Lib.hid (clone w h hl)
  clear h
  go_enter Try.func12, Try.ntmps12
  go_wp2_with fail
  refine HC.out.mono ?_
  rintro e w1 ⟨v, rfl, hown, hbel⟩
  obtain ⟨q, d, rfl⟩ := own_slice hown
  go_wp2
  go_ret
  have hs := hbel.size
  refine ⟨w1.heap.size, rfl, hs, fun w2 hk => ⟨q, d, (hk w1.heap.size hs (by simp)).trans (heap_alloc_new w1 _), OB.of_own_at hown fun k h1 h2 => ?_⟩, hbel.alloc hs _⟩
  exact (hk k h1 (by simp; omega)).trans (((Below.refl w1.heap.size w1).alloc (Nat.le_refl _) _).block k h2)

def allB : List (Option Addr × Nat × List UInt8) → List UInt8
  | [] => []
  | x :: L => enc x.2.2.length ++ (x.2.2 ++ allB L)
theorem allB_append : ∀ a b, allB (a ++ b) = allB a ++ allB b
  | [], _ => rfl
  | x :: a, b => by simp [allB, allB_append a b]
theorem allB_step {L : List (Option Addr × Nat × List UInt8)} {i : Nat} {x} (h : L[i]? = some x) : allB (L.take (i + 1)) = allB (L.take i) ++ (enc x.2.2.length ++ x.2.2) := by
  rw [List.take_add_one, h, allB_append]
  simp [allB]
theorem allB_drop {L : List (Option Addr × Nat × List UInt8)} {i : Nat} {x} (h : L[i]? = some x) : allB (L.drop i) = enc x.2.2.length ++ (x.2.2 ++ allB (L.drop (i + 1))) := by
  obtain ⟨hi, rfl⟩ := List.getElem?_eq_some_iff.1 h
  rw [List.drop_eq_getElem_cons hi]
  rfl
theorem allB_le (L : List (Option Addr × Nat × List UInt8)) (i : Nat) : (allB (L.drop i)).length ≤ (allB L).length := by
  conv => rhs; rw [← List.take_append_drop i L, allB_append]
  simp
end Go.Proofs.Ytdiliajpcgfpoaa
