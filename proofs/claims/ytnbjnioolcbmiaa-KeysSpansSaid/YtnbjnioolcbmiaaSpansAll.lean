/- The walk of KeysSpans, its ways joined; the argument of type Span opened. -/
import Derived.Test.YtnbjnioolcbmiaaSpansWalk
import Derived.Test.YtnbjnioolcbmiaaRow
import Derived.Lib.SmallJoins
namespace Go.Proofs.Ytnbjnioolcbmiaa
open Go.RowKit

set_option maxHeartbeats 2000000 in
set_option maxRecDepth 100000 in
theorem spans_not (w : World) (cl : Bool) {pf pt pp pk : Option Addr} {cf ct cp ck : Nat} {f t p k : List UInt8}
    (hsb : smallB [(pf, f.length, cf), (pt, t.length, ct), (pp, p.length, cp), (pk, k.length, ck)] = false) :
    Calls Try.prog 7 #[.agg #[.slice pf f.length cf, .slice pt t.length ct, .bool cl], .slice pp p.length cp, .slice pk k.length ck] w fun e w' => e = .returned (.bool true) ∧ Below w.heap.size w w' := by
  have hsm := small_lit (w.alloc (.cells #[.slice pf f.length cf, .slice pt t.length ct, .bool cl] 35)) [(pf, f.length, cf), (pt, t.length, ct), (pp, p.length, cp), (pk, k.length, ck)] (by simp)
  rw [World.size_alloc] at hsm
  have HS := Lib.hid hsm
  have HSB := Lib.hid hsb
  clear hsm hsb
  go_enter Try.func7, Try.ntmps7
  go_wp2_with fail
  refine HS.out.mono ?_
  rintro e W ⟨hev, hb⟩
  rw [HSB.out] at hev
  subst hev
  have HB : Hid (Below w.heap.size w W) := ((Below.refl _ w).alloc (Nat.le_refl _) _).trans (hb.mono (by omega))
  clear hb HS HSB
  go_wp2_with fail
  refine (awake W).mono ?_
  rintro e w' ⟨rfl, hb2⟩
  go_wp2
  go_ret
  exact ⟨rfl, HB.out.trans (hb2.mono HB.out.size)⟩

theorem keysSpans_calls (w : World) (cl : Bool) {pf pt pp pk : Option Addr} {cf ct cp ck : Nat} {f t p k : List UInt8} (hf : IsB w pf cf f) (ht : IsB w pt ct t) (hp : IsB w pp cp p) (hk : IsB w pk ck k) :
    Calls Try.prog 7 #[.agg #[.slice pf f.length cf, .slice pt t.length ct, .bool cl], .slice pp p.length cp, .slice pk k.length ck] w fun e w' => e = .returned (.bool true) ∧ Below w.heap.size w w' := by
  cases hsb : smallB [(pf, f.length, cf), (pt, t.length, ct), (pp, p.length, cp), (pk, k.length, ck)] with
  | false => exact spans_not w cl hsb
  | true =>
    cases e1 : lessB k f <;> cases cl
    · exact spans_b w hf ht hp hk hsb e1
    · cases e2 : lessB k t <;> cases e3 : lessB f t
      · exact spans_h w hf ht hp hk hsb e1 e2 e3
      · exact spans_g w hf ht hp hk hsb e1 e2 e3
      · exfalso
        have h1 := void_in f t true k (by unfold voidB; rw [e3]; rfl)
        unfold inB at h1
        rw [e1, e2] at h1
        exact absurd h1 (by decide)
      · exact spans_e w hf ht hp hk hsb e1 e2 e3
    · exact spans_a w hf ht hp hk hsb e1
    · cases e3 : lessB f t
      · exact spans_d w hf ht hp hk hsb e1 e3
      · exact spans_c w hf ht hp hk hsb e1 e3
end Go.Proofs.Ytnbjnioolcbmiaa
