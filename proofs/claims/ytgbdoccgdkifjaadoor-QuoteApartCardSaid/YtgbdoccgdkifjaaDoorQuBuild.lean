/- A strings.Builder of the call's own: what its writing methods leave. -/
import Derived.Test.YtgbdoccgdkifjaaDoorBase
import Derived.Test.YtgbdoccgdkifjaaDoorShelf
import Derived.Lib.OthersKept
import Derived.Lib.AppendStr
import Derived.OwnWalk
namespace Go.Proofs.YtgbdoccgdkifjaaDoor
open Go.RowKit
set_option linter.unusedVariables false

theorem info5 : (Tryd.prog.info? 5).map (fun i => (i.zero, i.size, i.bytes)) = some (some (.int .u8 0), 1, 1) := by kernel_rfl
theorem infoB : (Tryd.prog.info? 38).map (·.size) = some 2 := by kernel_rfl
/-- A builder that holds bytes. -/
abbrev Bd (B b : Nat) (l : List UInt8) (w : World) : Prop := Lib.IsBuilder 38 5 B b (l.map bv) w
/-- What a write leaves. -/
structure Wrote (w w' : World) (B b : Nat) (l : List UInt8) : Prop where
  bd : Bd B b l w'
  below : Below B w w'
  others : Lib.OthersKept 5 (some b) w w'
theorem Wrote.trans {w w1 w2 : World} {B b : Nat} {l l' : List UInt8} (h : Wrote w w1 B b l) (h' : Wrote w1 w2 B b l') : Wrote w w2 B b l' :=
  ⟨h'.bd, h.below.trans h'.below, h.others.trans h'.others⟩
theorem Bd.lt {B b : Nat} {l : List UInt8} {w : World} (h : Bd B b l w) : b < w.heap.size := by
  rcases h with h | h <;> exact h.lt
theorem row_ltB {w : World} {b : Nat} {o : Obj} (h : w.heap[b]? = some o) : b < w.heap.size := by
  rcases Nat.lt_or_ge b w.heap.size with h1 | h1
  · exact h1
  · rw [Array.getElem?_eq_none h1] at h; cases h
theorem Bd.ge {B b : Nat} {l : List UInt8} {w : World} (h : Bd B b l w) : B ≤ b := by
  rcases h with h | h <;> exact h.1
/-- What copyCheck leaves. -/
structure Check (w w' : World) (B b : Nat) (l : List UInt8) : Prop where
  at_ : Lib.BuilderAt 38 5 B b (.pointer (some ⟨b, 0, none⟩)) (l.map bv) w'
  below : Below B w w'
  others : Lib.OthersKept 5 (some b) w w'

set_option maxHeartbeats 1000000 in
set_option maxRecDepth 100000 in
theorem check (w : World) {B b : Nat} {l : List UInt8} (h : Bd B b l w) :
    Calls Tryd.prog 25 #[.pointer (some ⟨b, 0, none⟩)] w fun e w' => e = .returned (.tuple #[]) ∧ Check w w' B b l := by
  obtain ⟨j, hj, hjs⟩ := Option.map_eq_some_iff.1 infoB
  rcases h with h | h
  · have h0 := h.cell0
    have hz := h.frozen0
    have hsh := h.shape
    have HB := Lib.hid h
    have u1 : ∀ W, W.shape? b = some (38, 2) → (convert 36 60 (.pointer (some ⟨b, 0, none⟩))).run Tryd.prog W = .ok (.pointer (some ⟨b, 0, none⟩)) W := fun W hW =>
      Lib.run_to_unsafe W ⟨b, 0, none⟩ Tryd.underlying36 Tryd.underlying60 hj (by rw [hjs]; decide) hW (Nat.zero_lt_succ 1)
    have u2 : ∀ W, W.shape? b = some (38, 2) → (convert 60 36 (.pointer (some ⟨b, 0, none⟩))).run Tryd.prog W = .ok (.pointer (some ⟨b, 0, none⟩)) W := fun W hW =>
      Lib.run_from_unsafe W ⟨b, 0, none⟩ Tryd.underlying60 Tryd.underlying36 hj hW (by kernel_rfl)
    have v1 := u1 w hsh
    have v2 := u2 w hsh
    clear h u1 u2
    go_enter Tryd.func25, Tryd.ntmps25
    go_wp2
    rw [run_callFunc_extern Tryd.func32 (by kernel_rfl) (by kernel_rfl) (by kernel_rfl) (e := Extern.AbiNoEscape.same) (by kernel_rfl)]
    rw [Lib.run_noEscape]
    simp only [Result.andThen]
    rw [Oper.upon_value]
    go_wp2
    go_end0
    exact ⟨rfl, HB.out.used _, (Below.refl B w).setCell (p := ⟨b, 0, none⟩) HB.out.1 _, (Lib.OthersKept.refl _ _ _).setCell ⟨b, 0, none⟩ rfl _⟩
  · have h0 := h.cell0
    have HB := Lib.hid h
    have hn := Lib.run_neq_ptr_same (P := Tryd.prog) w ⟨b, 0, none⟩ Tryd.underlying36 hj
    clear h
    go_enter Tryd.func25, Tryd.ntmps25
    go_wp2
    go_end0
    exact ⟨rfl, HB.out, Below.refl B _, Lib.OthersKept.refl _ _ _⟩
end Go.Proofs.YtgbdoccgdkifjaaDoor
