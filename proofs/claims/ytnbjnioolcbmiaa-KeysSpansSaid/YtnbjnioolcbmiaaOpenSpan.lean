/- An argument of type Span opened. -/
import Derived.Test.YtnbjnioolcbmiaaOpen
namespace Go.Proofs.Ytnbjnioolcbmiaa
open Go.RowKit Go.ChangeShapes Go.WideShapes Go.ChangeAt Go.Joins

theorem cells35 : Try.prog.cellsOf 35 = 3 := by kernel_rfl
section
variable {H : Type} {enc : TypeId × Value → H} {W : World}
theorem open_span {v : Value} {b : Nat} {d : DataW H} {p : List MemPlace} (hv : Value.okWide Try.prog W .any b 35 v) (h : DataW.Trod enc Try.prog W 0 (fun _ => true) true 35 v d p) :
    ∃ (pf pt : Option Addr) (cf ct : Nat) (f t : List UInt8) (cl : Bool), v = .agg #[.slice pf f.length cf, .slice pt t.length ct, .bool cl] ∧ IsB W pf cf f ∧ IsB W pt ct t := by
  obtain ⟨v0, v1, v2, y0, y1, y2, n, rfl, _, _, h0, h1, h2⟩ := open_agg3 Try.underlying35 (by kernel_rfl) cells35 hv h
  obtain ⟨pf, cf, f, e0, hf⟩ := bytes_cells h0
  obtain ⟨pt, ct, t, e1, ht⟩ := bytes_cells h1
  obtain ⟨cl, e2, _⟩ := DataW.trod_bool Try.underlying4 h2
  simp at e0 e1 e2
  subst e0; subst e1; subst e2
  exact ⟨pf, pt, cf, ct, f, t, cl, rfl, hf, ht⟩
end
end Go.Proofs.Ytnbjnioolcbmiaa
