/- An argument of type [][]byte opened. -/
import Derived.Test.YtkcijbljgcgdmaaOpen
import Derived.Test.YtkcijbljgcgdmaaList
namespace Go.Proofs.Ytkcijbljgcgdmaa
open Go.RowKit Go.ChangeShapes Go.WideShapes Go.ChangeAt Go.Deep

section
variable {H : Type} {enc : TypeId × Value → H} {W : World}
theorem open_list {v : Value} {b : Nat} {d : DataW H} {p : List MemPlace} (hv : Value.okWide Try.prog W .any b 41 v) (h : DataW.Trod enc Try.prog W 0 (fun _ => true) true 41 v d p) :
    ∃ x : Option Addr × Nat × List (Option Addr × Nat × List UInt8), v = .slice x.1 x.2.2.length x.2.1 ∧ IsL W x.1 x.2.1 x.2.2 := by
  obtain ⟨a, len, cap, rfl⟩ := okWide_slice Try.underlying41 hv
  obtain ⟨fuel, hf⟩ := h
  rcases open_slice1 Try.underlying41 (by kernel_rfl) hf with ⟨hcs, _⟩ | ⟨a', len', cap', m, n, V, D, Pl, hcs, _, hl, hm, hmm, _, hx⟩
  · simp [Value.cells] at hcs
    obtain ⟨rfl, rfl, rfl⟩ := hcs
    exact ⟨(none, 0, []), rfl, Nat.le_refl _, Nat.zero_le _, fun h => absurd h (by simp), fun x hx => absurd hx (by simp)⟩
  · simp [Value.cells] at hcs
    obtain ⟨rfl, rfl, rfl⟩ := hcs
    simp only [if_true] at hmm
    subst hmm
    have hex : ∀ i, i < m → ∃ x : Option Addr × Nat × List UInt8, V i = .slice x.1 x.2.2.length x.2.1 ∧ IsB W x.1 x.2.1 x.2.2 := fun i hi => by
      obtain ⟨q, c, l, e, hB⟩ := bytes_cells (hx i hi).2
      simp at e
      exact ⟨(q, c, l), e, hB⟩
    have hex2 : ∀ i, ∃ x : Option Addr × Nat × List UInt8, i < m → V i = .slice x.1 x.2.2.length x.2.1 ∧ IsB W x.1 x.2.1 x.2.2 := fun i => by
      by_cases hi : i < m
      · obtain ⟨x, h⟩ := hex i hi; exact ⟨x, fun _ => h⟩
      · exact ⟨(none, 0, []), fun h => absurd h hi⟩
    let f := fun i => Classical.choose (hex2 i)
    have hfx : ∀ i, i < m → V i = .slice (f i).1 (f i).2.2.length (f i).2.1 ∧ IsB W (f i).1 (f i).2.1 (f i).2.2 := fun i => Classical.choose_spec (hex2 i)
    refine ⟨(some a', m, (List.range len).map f), by simp, by simpa using hl, hm, fun hpos => ?_, fun x hx' => ?_⟩
    · simp at hpos
      have h0 := (hx 0 (by omega)).1
      obtain ⟨bl, o, s⟩ := a'
      have hs : s = none := by
        have := World.cell?_spot h0
        simpa [Addr.add] using this
      subst hs
      refine ⟨bl, o, rfl, ?_, fun i x hxi => ?_⟩
      · have := World.block_lt_of_cell? W _ h0
        simpa [Addr.add_lit] using this
      · rw [List.getElem?_map, Option.map_eq_some_iff] at hxi
        obtain ⟨k, hk, rfl⟩ := hxi
        have hki := List.getElem?_eq_some_iff.1 hk
        obtain ⟨hk1, hk2⟩ := hki
        simp at hk1 hk2
        subst hk2
        have := (hx i (by omega)).1
        rw [Addr.add_lit] at this
        rw [this, (hfx i (by omega)).1]
    · obtain ⟨k, hk, rfl⟩ := List.mem_map.1 hx'
      simp at hk
      exact (hfx k (by omega)).2
end
end Go.Proofs.Ytkcijbljgcgdmaa
