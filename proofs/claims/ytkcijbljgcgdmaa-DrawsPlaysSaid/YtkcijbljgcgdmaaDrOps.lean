/- A slice of the draws laws' Op structs that came in; its opening. -/
import Derived.Test.YtkcijbljgcgdmaaOpen
namespace Go.Proofs.Ytkcijbljgcgdmaa
open Go.RowKit Go.ChangeShapes Go.WideShapes Go.ChangeAt Go.Deep

/-- WHAT IS TOLD OF A SLICE OF Op: of each element its bool, and its slice's address, capacity, bytes. -/
structure IsP (w : World) (p : Option Addr) (c : Nat) (L : List (Bool × Option Addr × Nat × List UInt8)) : Prop where
  cap : L.length ≤ c
  big : c ≤ maxLen
  cells : 0 < L.length → ∃ b o, p = some ⟨b, o, none⟩ ∧ b < w.heap.size ∧ ∀ i x, L[i]? = some x → w.cell? ⟨b, o + i * 2, none⟩ = some (.bool x.1) ∧ w.cell? ⟨b, o + i * 2 + 1, none⟩ = some (.slice x.2.1 x.2.2.2.length x.2.2.1)
  bytes : ∀ x ∈ L, IsB w x.2.1 x.2.2.1 x.2.2.2
theorem cellsOp : Try.prog.cellsOf 30 = 2 := by kernel_rfl
section
variable {H : Type} {encV : TypeId × Value → H} {W : World}
theorem op_cells {fuel : Nat} {cs : List Value} {x : DataW H × List MemPlace} (h : DataW.trod encV Try.prog W 0 (fun _ => true) true fuel 30 cs = some x) :
    ∃ y : Bool × Option Addr × Nat × List UInt8, cs = [.bool y.1, .slice y.2.1 y.2.2.2.length y.2.2.1] ∧ IsB W y.2.1 y.2.2.1 y.2.2.2 := by
  obtain ⟨y0, y1, n, _, hl, h0, h1⟩ := trod_struct2 Try.underlying30 h
  rw [cellsOp] at hl
  match cs, hl with
  | [c0, c1], _ =>
    have k : Try.prog.cellsOf 4 = 1 := by kernel_rfl
    have k2 : Try.prog.cellsOf 22 = 1 := by kernel_rfl
    obtain ⟨a, e0, _⟩ := DataW.trod_bool Try.underlying4 h0
    obtain ⟨p, c, l, e1, hB⟩ := bytes_cells h1
    simp [k, k2] at e0 e1
    subst e0; subst e1
    exact ⟨(a, p, c, l), rfl, hB⟩
theorem open_ops {v : Value} {b : Nat} {d : DataW H} {p : List MemPlace} (hv : Value.okWide Try.prog W .any b 23 v) (h : DataW.Trod encV Try.prog W 0 (fun _ => true) true 23 v d p) :
    ∃ x : Option Addr × Nat × List (Bool × Option Addr × Nat × List UInt8), v = .slice x.1 x.2.2.length x.2.1 ∧ IsP W x.1 x.2.1 x.2.2 := by
  obtain ⟨a, len, cap, rfl⟩ := okWide_slice Try.underlying23 hv
  obtain ⟨fuel, hf⟩ := h
  rcases open_slice Try.underlying23 hf with ⟨hcs, _⟩ | ⟨a', len', cap', m, n, D, Pl, hcs, _, hl, hm, hmm, _, hx⟩
  · simp [Value.cells] at hcs
    obtain ⟨rfl, rfl, rfl⟩ := hcs
    exact ⟨(none, 0, []), rfl, Nat.le_refl _, Nat.zero_le _, fun h => absurd h (by simp), fun x hx => absurd hx (by simp)⟩
  · simp [Value.cells] at hcs
    obtain ⟨rfl, rfl, rfl⟩ := hcs
    simp only [if_true] at hmm
    subst hmm
    rw [cellsOp] at hx
    have hex : ∀ i, ∃ x : Bool × Option Addr × Nat × List UInt8, i < m → W.cell? (a'.add (i * 2)) = some (.bool x.1) ∧ W.cell? ((a'.add (i * 2)).add 1) = some (.slice x.2.1 x.2.2.2.length x.2.2.1) ∧ IsB W x.2.1 x.2.2.1 x.2.2.2 := fun i => by
      by_cases hi : i < m
      · obtain ⟨cs', h1, h2⟩ := hx i hi
        obtain ⟨x, rfl, hw⟩ := op_cells h2
        have hc := (World.cells?_some h1).2.2
        have c0 := hc 0 (by omega)
        have c1 := hc 1 (by omega)
        refine ⟨x, fun _ => ⟨?_, c1, hw⟩⟩
        simpa [Addr.add] using c0
      · exact ⟨(false, none, 0, []), fun h => absurd h hi⟩
    let f := fun i => Classical.choose (hex i)
    have hfx : ∀ i, i < m → W.cell? (a'.add (i * 2)) = some (.bool (f i).1) ∧ W.cell? ((a'.add (i * 2)).add 1) = some (.slice (f i).2.1 (f i).2.2.2.length (f i).2.2.1) ∧ IsB W (f i).2.1 (f i).2.2.1 (f i).2.2.2 := fun i => Classical.choose_spec (hex i)
    refine ⟨(some a', m, (List.range len).map f), by simp, by simpa using hl, hm, fun hpos => ?_, fun x hx' => ?_⟩
    · simp at hpos
      have h0 := (hfx 0 (by omega)).1
      obtain ⟨bl, o, s⟩ := a'
      have hs : s = none := by
        have := World.cell?_spot h0
        simpa [Addr.add] using this
      subst hs
      refine ⟨bl, o, rfl, ?_, fun i x hxi => ?_⟩
      · have := World.block_lt_of_cell? W _ h0
        simpa [Addr.add_lit] using this
      · rw [List.getElem?_map, Option.map_eq_some_iff] at hxi
        obtain ⟨k, hk, rfl⟩ := hxi
        obtain ⟨hk1, hk2⟩ := List.getElem?_eq_some_iff.1 hk
        simp at hk1 hk2
        subst hk2
        have := hfx i (by omega)
        rw [Addr.add_lit, Addr.add_lit] at this
        exact ⟨this.1, this.2.1⟩
    · obtain ⟨k, hk, rfl⟩ := List.mem_map.1 hx'
      simp at hk
      exact (hfx k (by omega)).2.2
end
end Go.Proofs.Ytkcijbljgcgdmaa
