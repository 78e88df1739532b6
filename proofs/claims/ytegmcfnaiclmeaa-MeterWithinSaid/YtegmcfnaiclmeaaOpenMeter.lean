/- An argument of type Meter opened. -/
import Derived.Test.YtegmcfnaiclmeaaProg
import Derived.ProofKit
import Derived.OpenShut
import Derived.ChangeOld
import Derived.Lib.SmallJoins
namespace Go.Proofs.Ytegmcfnaiclmeaa
open Go.RowKit Go.ChangeShapes Go.WideShapes Go.ChangeAt Go.Joins

theorem cellsMeter : Try.prog.cellsOf 26 = 2 := by kernel_rfl
section
variable {H : Type} {enc : TypeId × Value → H} {W : World}
theorem open_meter {v : Value} {b : Nat} {d : DataW H} {p : List MemPlace} (hv : Value.okWide Try.prog W .any b 26 v) (h : DataW.Trod enc Try.prog W 0 (fun _ => true) true 26 v d p) :
    ∃ (x : Int × Int), v = .agg #[.int .i64 x.1, .int .i64 x.2] ∧ True := by
  obtain ⟨v0, v1, y0, y1, n, rfl, _, _, h0, h1⟩ := open_agg2 Try.underlying26 (by kernel_rfl) cellsMeter hv h
  obtain ⟨a, e0, _, _⟩ := DataW.trod_int Try.underlying3 h0
  obtain ⟨c, e1, _, _⟩ := DataW.trod_int Try.underlying3 h1
  simp at e0 e1
  subst e0; subst e1
  exact ⟨(a, c), rfl, trivial⟩
end
end Go.Proofs.Ytegmcfnaiclmeaa
