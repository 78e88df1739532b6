/- The walk of the reference's Seed. -/
import Derived.Test.YtkcijbljgcgdmaaDrParts
import Derived.Lib.SmallJoins
namespace Go.Proofs.Ytkcijbljgcgdmaa
open Go.RowKit
set_option linter.unusedVariables false

theorem srcLeft2 (w : World) {S : Nat → Prop} {g : Nat} {l : List UInt8} {t : Nat} (h : Src w S g l t) : Calls Try.prog 11 #[.pointer (some ⟨g, 0, none⟩)] w fun en w' => en = .returned (.int .i64 (l.length : Int)) ∧ w' = w :=
  (srcLeft w h).mono fun _ _ ⟨h1, h2⟩ => ⟨h1, h2.symm⟩
theorem srcTaken2 (w : World) {S : Nat → Prop} {g : Nat} {l : List UInt8} {t : Nat} (h : Src w S g l t) : Calls Try.prog 12 #[.pointer (some ⟨g, 0, none⟩)] w fun en w' => en = .returned (.int .i64 (t : Int)) ∧ w' = w :=
  (srcTaken w h).mono fun _ _ ⟨h1, h2⟩ => ⟨h1, h2.symm⟩
theorem results_cell_tmp2 {fn : Func} {p u v : Tmp} {ty : TypeId} (h : fn.results = #[.cell p ty, .tmp u, .tmp v]) (tmps : Array Value) (P : Program) (w : World) :
    (results fn tmps).run P w =
      ((asAddr (tmps.getD p undef)).run P w).andThen fun a w₁ => ((loadVar ty a).run P w₁).andThen fun x w₂ => .ok (.tuple #[x, tmps.getD u undef, tmps.getD v undef]) w₂ := by
  simp only [results, h]
  simp [Sem.run_bind, Result.andThen]

set_option maxHeartbeats 1000000 in
set_option maxRecDepth 100000 in
theorem refDry (w : World) (s : ByteArray) (t : Nat) (hs : s.size < 16) :
    Calls Try.prog 9 #[.agg #[.string s, .int .i64 (t : Int)]] w fun e w' => e = .returned (.tuple #[.agg #[.string s, .int .i64 (t : Int)], .string ⟨#[]⟩, .bool false]) ∧ Below w.heap.size w w' := by
  have g0 : (s.size : Int) < 16 := by omega
  go_enter Try.func9, Try.ntmps9
  go_wp2
  (try simp only [Exit.inBlock, Exit.then])
  refine bodyPost_ret (v := .tuple #[.agg #[.string s, .int .i64 (t : Int)], .string ⟨#[]⟩, .bool false]) ?_ rfl ?_
  · rw [results_cell_tmp2 rfl]
    simp [go_sem, asAddr, Result.andThen]
  exact ⟨rfl, ((Below.refl _ w).alloc (Nat.le_refl _) _).alloc (by simp) _⟩
set_option maxHeartbeats 1000000 in
set_option maxRecDepth 100000 in
theorem refSeed (w : World) (s : ByteArray) (t : Nat) (hs : 16 ≤ s.size) (hs2 : s.size ≤ 1000000) (ht : t < 1000000) :
    Calls Try.prog 9 #[.agg #[.string s, .int .i64 (t : Int)]] w fun e w' => e = .returned (.tuple #[.agg #[.string (s.extract 16 s.size), .int .i64 ((t : Int) + 1)], .string (s.extract 0 16), .bool true]) ∧ Below w.heap.size w w' := by
  have g0 : ¬ (s.size : Int) < 16 := by omega
  have g1 : (16 : Int) ≤ (s.size : Int) := by omega
  go_enter Try.func9, Try.ntmps9
  go_wp2_with fail
  go_region
  go_wp2
  (try simp only [Exit.inBlock, Exit.then])
  refine bodyPost_ret (v := .tuple #[.agg #[.string (s.extract 16 s.size), .int .i64 ((t : Int) + 1)], .string (s.extract 0 16), .bool true]) ?_ rfl ?_
  · rw [results_cell_tmp2 rfl]
    simp [go_sem, asAddr, Result.andThen]
  exact ⟨rfl, (((Below.refl _ w).alloc (Nat.le_refl _) _).alloc (by simp) _).drew⟩
end Go.Proofs.Ytkcijbljgcgdmaa
