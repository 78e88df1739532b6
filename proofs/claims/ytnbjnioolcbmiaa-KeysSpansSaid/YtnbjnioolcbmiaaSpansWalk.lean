/- The walk of KeysSpans, way by way. Printed by wip/tools/gen_spans.py. -/
import Derived.Test.YtnbjnioolcbmiaaSpansLaw
namespace Go.Proofs.Ytnbjnioolcbmiaa
open Go.RowKit

/-- All that is known of a world on the way. -/
structure Sp (w : World) (B : Nat) (pf pt pp pk : Option Addr) (cf ct cp ck : Nat) (f t p k : List UInt8) (cl : Bool) : Prop where
  span : SpanAt w B (.slice pf f.length cf) (.slice pt t.length ct) cl
  f : IsB w pf cf f
  t : IsB w pt ct t
  p : IsB w pp cp p
  k : IsB w pk ck k
theorem Sp.below {w w' : World} {B : Nat} {pf pt pp pk : Option Addr} {cf ct cp ck : Nat} {f t p k : List UInt8} {cl : Bool} (h : Sp w B pf pt pp pk cf ct cp ck f t p k cl) (hb : Below w.heap.size w w') : Sp w' B pf pt pp pk cf ct cp ck f t p k cl :=
  ⟨h.span.below hb, h.f.below hb, h.t.below hb, h.p.below hb, h.k.below hb⟩
theorem Sp.drewN {w : World} {B : Nat} {pf pt pp pk : Option Addr} {cf ct cp ck : Nat} {f t p k : List UInt8} {cl : Bool} (h : Sp w B pf pt pp pk cf ct cp ck f t p k cl) (n : Nat) : Sp (w.drewN n) B pf pt pp pk cf ct cp ck f t p k cl :=
  ⟨⟨h.span.lt, h.span.c0, h.span.c1, h.span.c2⟩, h.f.drewN n, h.t.drewN n, h.p.drewN n, h.k.drewN n⟩
theorem Sp.begin_ {w : World} {pf pt pp pk : Option Addr} {cf ct cp ck : Nat} {f t p k : List UInt8} {cl : Bool} (hf : IsB w pf cf f) (ht : IsB w pt ct t) (hp : IsB w pp cp p) (hk : IsB w pk ck k) (e : TypeId) :
    Sp (w.alloc (.cells #[.slice pf f.length cf, .slice pt t.length ct, .bool cl] e)) w.heap.size pf pt pp pk cf ct cp ck f t p k cl :=
  ⟨⟨by simp, by simp, by simp, by simp⟩, hf.alloc _, ht.alloc _, hp.alloc _, hk.alloc _⟩

set_option maxHeartbeats 4000000 in
set_option maxRecDepth 100000 in
theorem spans_a (w : World) {pf pt pp pk : Option Addr} {cf ct cp ck : Nat} {f t p k : List UInt8} (hf : IsB w pf cf f) (ht : IsB w pt ct t) (hp : IsB w pp cp p) (hk : IsB w pk ck k)
    (hsb : smallB [(pf, f.length, cf), (pt, t.length, ct), (pp, p.length, cp), (pk, k.length, ck)] = true) (e1 : lessB k f = true) :
    Calls Try.prog 7 #[.agg #[.slice pf f.length cf, .slice pt t.length ct, .bool false], .slice pp p.length cp, .slice pk k.length ck] w fun e w' => e = .returned (.bool true) ∧ Below w.heap.size w w' := by
  have hin : inB f t false k = false := by unfold inB; rw [e1]; rfl
  have hvo : voidB f t false = false := by unfold voidB; rfl
  have E1 := Lib.hid e1
  have hh := (has_in f t false k).trans hin
  have he := (empty_void f t false).trans hvo
  have hff := (has_in f t false f).trans (in_from f t false hvo)
  have HFF := Lib.hid hff
  have HH := Lib.hid hh
  have HE := Lib.hid he
  obtain ⟨z3, z4, z1, z2⟩ := small4 hsb
  have SP0 := Lib.hid (Sp.begin_ (cl := false) hf ht hp hk 35)
  have hsm := small_lit (w.alloc (.cells #[.slice pf f.length cf, .slice pt t.length ct, .bool false] 35)) [(pf, f.length, cf), (pt, t.length, ct), (pp, p.length, cp), (pk, k.length, ck)] (by simp)
  rw [World.size_alloc] at hsm
  have HS := Lib.hid hsm
  have HSB := Lib.hid hsb
  clear hsm hsb hin hvo hh he hf ht hp hk e1 hff
  go_enter Try.func7, Try.ntmps7
  go_wp2_with fail
  refine HS.out.mono ?_
  rintro e W ⟨hev, hb⟩
  rw [HSB.out] at hev
  subst hev
  have SP := Lib.hid (SP0.out.below (by rw [World.size_alloc]; exact hb))
  have HB : Hid (Below w.heap.size w W) := ((Below.refl _ w).alloc (Nat.le_refl _) _).trans (hb.mono (by omega))
  clear hb HS HSB SP0
  have c0 := SP.out.span.c0
  have c1 := SP.out.span.c1
  have c2 := SP.out.span.c2
  have kf := fun n => SP.out.f.convN (P := Try.prog) Try.underlying22 Try.underlying5 Try.underlying9 n
  have kt := fun n => SP.out.t.convN (P := Try.prog) Try.underlying22 Try.underlying5 Try.underlying9 n
  have kp := fun n => SP.out.p.convN (P := Try.prog) Try.underlying22 Try.underlying5 Try.underlying9 n
  have kk := fun n => SP.out.k.convN (P := Try.prog) Try.underlying22 Try.underlying5 Try.underlying9 n
  have kf0 := SP.out.f.convert (P := Try.prog) Try.underlying22 Try.underlying5 Try.underlying9
  have kt0 := SP.out.t.convert (P := Try.prog) Try.underlying22 Try.underlying5 Try.underlying9
  have kp0 := SP.out.p.convert (P := Try.prog) Try.underlying22 Try.underlying5 Try.underlying9
  have kk0 := SP.out.k.convert (P := Try.prog) Try.underlying22 Try.underlying5 Try.underlying9
  go_wp2_with fail
  refine (refLess _ _ _ (by rw [str_size]; omega) (by rw [str_size]; omega)).mono ?_
  rintro e w' ⟨hev, n1, rfl⟩
  rw [str_data, str_data, E1.out] at hev
  subst hev
  have SPD := SP.out.drewN (n1)
  have HBD : Below w.heap.size w (W.drewN (n1)) := below_drewN HB.out _
  go_wp2_with fail
  refine (spanHas _ false SPD.f SPD.t SPD.k).mono ?_
  rintro e W1 ⟨hev, hb⟩
  rw [HH.out] at hev
  subst hev
  have SP2 := Lib.hid (SPD.below hb)
  have HB2 : Hid (Below w.heap.size w W1) := HBD.trans (hb.mono HBD.size)
  clear hb SP HB SPD HBD
  clear c0 c1 c2 kf kt kp kk kf0 kt0 kp0 kk0
  have SP := SP2
  have HB := HB2
  clear SP2 HB2
  have c0 := SP.out.span.c0
  have c1 := SP.out.span.c1
  have c2 := SP.out.span.c2
  have kf := fun n => SP.out.f.convN (P := Try.prog) Try.underlying22 Try.underlying5 Try.underlying9 n
  have kt := fun n => SP.out.t.convN (P := Try.prog) Try.underlying22 Try.underlying5 Try.underlying9 n
  have kp := fun n => SP.out.p.convN (P := Try.prog) Try.underlying22 Try.underlying5 Try.underlying9 n
  have kk := fun n => SP.out.k.convN (P := Try.prog) Try.underlying22 Try.underlying5 Try.underlying9 n
  have kf0 := SP.out.f.convert (P := Try.prog) Try.underlying22 Try.underlying5 Try.underlying9
  have kt0 := SP.out.t.convert (P := Try.prog) Try.underlying22 Try.underlying5 Try.underlying9
  have kp0 := SP.out.p.convert (P := Try.prog) Try.underlying22 Try.underlying5 Try.underlying9
  have kk0 := SP.out.k.convert (P := Try.prog) Try.underlying22 Try.underlying5 Try.underlying9
  have SPD := SP.out
  have HBD := HB.out
  go_wp2_with fail
  refine (spanEmpty _ false SPD.f SPD.t).mono ?_
  rintro e W2 ⟨hev, hb⟩
  rw [HE.out] at hev
  subst hev
  have SP2 := Lib.hid (SPD.below hb)
  have HB2 : Hid (Below w.heap.size w W2) := HBD.trans (hb.mono HBD.size)
  clear hb SP HB SPD HBD
  clear c0 c1 c2 kf kt kp kk kf0 kt0 kp0 kk0
  have SP := SP2
  have HB := HB2
  clear SP2 HB2
  have c0 := SP.out.span.c0
  have c1 := SP.out.span.c1
  have c2 := SP.out.span.c2
  have kf := fun n => SP.out.f.convN (P := Try.prog) Try.underlying22 Try.underlying5 Try.underlying9 n
  have kt := fun n => SP.out.t.convN (P := Try.prog) Try.underlying22 Try.underlying5 Try.underlying9 n
  have kp := fun n => SP.out.p.convN (P := Try.prog) Try.underlying22 Try.underlying5 Try.underlying9 n
  have kk := fun n => SP.out.k.convN (P := Try.prog) Try.underlying22 Try.underlying5 Try.underlying9 n
  have kf0 := SP.out.f.convert (P := Try.prog) Try.underlying22 Try.underlying5 Try.underlying9
  have kt0 := SP.out.t.convert (P := Try.prog) Try.underlying22 Try.underlying5 Try.underlying9
  have kp0 := SP.out.p.convert (P := Try.prog) Try.underlying22 Try.underlying5 Try.underlying9
  have kk0 := SP.out.k.convert (P := Try.prog) Try.underlying22 Try.underlying5 Try.underlying9
  have SPD := SP.out
  have HBD := HB.out
  go_wp2_with fail
  refine (spanHas _ false SPD.f SPD.t SPD.f).mono ?_
  rintro e W3 ⟨hev, hb⟩
  rw [HFF.out] at hev
  subst hev
  have SP2 := Lib.hid (SPD.below hb)
  have HB2 : Hid (Below w.heap.size w W3) := HBD.trans (hb.mono HBD.size)
  clear hb SP HB SPD HBD
  clear c0 c1 c2 kf kt kp kk kf0 kt0 kp0 kk0
  have SP := SP2
  have HB := HB2
  clear SP2 HB2
  have c0 := SP.out.span.c0
  have c1 := SP.out.span.c1
  have c2 := SP.out.span.c2
  have kf := fun n => SP.out.f.convN (P := Try.prog) Try.underlying22 Try.underlying5 Try.underlying9 n
  have kt := fun n => SP.out.t.convN (P := Try.prog) Try.underlying22 Try.underlying5 Try.underlying9 n
  have kp := fun n => SP.out.p.convN (P := Try.prog) Try.underlying22 Try.underlying5 Try.underlying9 n
  have kk := fun n => SP.out.k.convN (P := Try.prog) Try.underlying22 Try.underlying5 Try.underlying9 n
  have kf0 := SP.out.f.convert (P := Try.prog) Try.underlying22 Try.underlying5 Try.underlying9
  have kt0 := SP.out.t.convert (P := Try.prog) Try.underlying22 Try.underlying5 Try.underlying9
  have kp0 := SP.out.p.convert (P := Try.prog) Try.underlying22 Try.underlying5 Try.underlying9
  have kk0 := SP.out.k.convert (P := Try.prog) Try.underlying22 Try.underlying5 Try.underlying9
  go_wp2_with fail
  refine (refBegins _ _ _ (by rw [str_size]; omega)).mono ?_
  rintro e w' ⟨hev, m, rfl⟩
  rw [str_data, str_data] at hev
  subst hev
  go_wp2_with fail
  refine (keysBegins _ (SP.out.k.drewN m) (SP.out.p.drewN m)).mono ?_
  rintro e w' ⟨rfl, rfl⟩
  go_wp2_with fail
  refine (keysOf _ (SP.out.p.drewN m) (by omega)).mono ?_
  rintro e W5 ⟨qf, qt, df, dt, rfl, hqf, hqt, hb⟩
  have SP5 := Lib.hid ((SP.out.drewN m).below hb)
  have HB5 : Hid (Below w.heap.size w W5) := (below_drewN HB.out m).trans (hb.mono HB.out.size)
  have QF := Lib.hid hqf
  have QT := Lib.hid hqt
  clear hb hqf hqt SP HB
  clear c0 c1 c2 kf kt kp kk kf0 kt0 kp0 kk0
  go_wp2_with fail
  refine (spanHas _ _ QF.out QT.out SP5.out.k).mono ?_
  rintro e W6 ⟨hev, hb⟩
  rw [of_has] at hev
  subst hev
  have SP6 := Lib.hid (SP5.out.below hb)
  have HB6 : Hid (Below w.heap.size w W6) := HB5.out.trans (hb.mono HB5.out.size)
  clear hb SP5 HB5 QF QT
  go_wp2_with fail
  refine (keysOf _ SP6.out.p (by omega)).mono ?_
  rintro e W7 ⟨qf, qt, df, dt, rfl, hqf, hqt, hb⟩
  have HB7 : Hid (Below w.heap.size w W7) := HB6.out.trans (hb.mono HB6.out.size)
  have QF := Lib.hid hqf
  have QT := Lib.hid hqt
  clear hb hqf hqt SP6 HB6
  go_wp2_with fail
  refine (spanEmpty _ _ QF.out QT.out).mono ?_
  rintro e W8 ⟨hev, hb⟩
  rw [of_empty] at hev
  subst hev
  have HB8 : Hid (Below w.heap.size w W8) := HB7.out.trans (hb.mono HB7.out.size)
  clear hb HB7 QF QT
  go_wp2_with fail
  refine (awake W8).mono ?_
  rintro e w' ⟨rfl, hb2⟩
  go_wp2
  go_ret
  exact ⟨rfl, HB8.out.trans (hb2.mono HB8.out.size)⟩

set_option maxHeartbeats 4000000 in
set_option maxRecDepth 100000 in
theorem spans_b (w : World) {pf pt pp pk : Option Addr} {cf ct cp ck : Nat} {f t p k : List UInt8} (hf : IsB w pf cf f) (ht : IsB w pt ct t) (hp : IsB w pp cp p) (hk : IsB w pk ck k)
    (hsb : smallB [(pf, f.length, cf), (pt, t.length, ct), (pp, p.length, cp), (pk, k.length, ck)] = true) (e1 : lessB k f = false) :
    Calls Try.prog 7 #[.agg #[.slice pf f.length cf, .slice pt t.length ct, .bool false], .slice pp p.length cp, .slice pk k.length ck] w fun e w' => e = .returned (.bool true) ∧ Below w.heap.size w w' := by
  have hin : inB f t false k = true := by unfold inB; rw [e1]; rfl
  have hvo : voidB f t false = false := by unfold voidB; rfl
  have E1 := Lib.hid e1
  have hh := (has_in f t false k).trans hin
  have he := (empty_void f t false).trans hvo
  have hff := (has_in f t false f).trans (in_from f t false hvo)
  have HFF := Lib.hid hff
  have HH := Lib.hid hh
  have HE := Lib.hid he
  obtain ⟨z3, z4, z1, z2⟩ := small4 hsb
  have SP0 := Lib.hid (Sp.begin_ (cl := false) hf ht hp hk 35)
  have hsm := small_lit (w.alloc (.cells #[.slice pf f.length cf, .slice pt t.length ct, .bool false] 35)) [(pf, f.length, cf), (pt, t.length, ct), (pp, p.length, cp), (pk, k.length, ck)] (by simp)
  rw [World.size_alloc] at hsm
  have HS := Lib.hid hsm
  have HSB := Lib.hid hsb
  clear hsm hsb hin hvo hh he hf ht hp hk e1 hff
  go_enter Try.func7, Try.ntmps7
  go_wp2_with fail
  refine HS.out.mono ?_
  rintro e W ⟨hev, hb⟩
  rw [HSB.out] at hev
  subst hev
  have SP := Lib.hid (SP0.out.below (by rw [World.size_alloc]; exact hb))
  have HB : Hid (Below w.heap.size w W) := ((Below.refl _ w).alloc (Nat.le_refl _) _).trans (hb.mono (by omega))
  clear hb HS HSB SP0
  have c0 := SP.out.span.c0
  have c1 := SP.out.span.c1
  have c2 := SP.out.span.c2
  have kf := fun n => SP.out.f.convN (P := Try.prog) Try.underlying22 Try.underlying5 Try.underlying9 n
  have kt := fun n => SP.out.t.convN (P := Try.prog) Try.underlying22 Try.underlying5 Try.underlying9 n
  have kp := fun n => SP.out.p.convN (P := Try.prog) Try.underlying22 Try.underlying5 Try.underlying9 n
  have kk := fun n => SP.out.k.convN (P := Try.prog) Try.underlying22 Try.underlying5 Try.underlying9 n
  have kf0 := SP.out.f.convert (P := Try.prog) Try.underlying22 Try.underlying5 Try.underlying9
  have kt0 := SP.out.t.convert (P := Try.prog) Try.underlying22 Try.underlying5 Try.underlying9
  have kp0 := SP.out.p.convert (P := Try.prog) Try.underlying22 Try.underlying5 Try.underlying9
  have kk0 := SP.out.k.convert (P := Try.prog) Try.underlying22 Try.underlying5 Try.underlying9
  go_wp2_with fail
  refine (refLess _ _ _ (by rw [str_size]; omega) (by rw [str_size]; omega)).mono ?_
  rintro e w' ⟨hev, n1, rfl⟩
  rw [str_data, str_data, E1.out] at hev
  subst hev
  have SPD := SP.out.drewN (n1)
  have HBD : Below w.heap.size w (W.drewN (n1)) := below_drewN HB.out _
  go_wp2_with fail
  refine (spanHas _ false SPD.f SPD.t SPD.k).mono ?_
  rintro e W1 ⟨hev, hb⟩
  rw [HH.out] at hev
  subst hev
  have SP2 := Lib.hid (SPD.below hb)
  have HB2 : Hid (Below w.heap.size w W1) := HBD.trans (hb.mono HBD.size)
  clear hb SP HB SPD HBD
  clear c0 c1 c2 kf kt kp kk kf0 kt0 kp0 kk0
  have SP := SP2
  have HB := HB2
  clear SP2 HB2
  have c0 := SP.out.span.c0
  have c1 := SP.out.span.c1
  have c2 := SP.out.span.c2
  have kf := fun n => SP.out.f.convN (P := Try.prog) Try.underlying22 Try.underlying5 Try.underlying9 n
  have kt := fun n => SP.out.t.convN (P := Try.prog) Try.underlying22 Try.underlying5 Try.underlying9 n
  have kp := fun n => SP.out.p.convN (P := Try.prog) Try.underlying22 Try.underlying5 Try.underlying9 n
  have kk := fun n => SP.out.k.convN (P := Try.prog) Try.underlying22 Try.underlying5 Try.underlying9 n
  have kf0 := SP.out.f.convert (P := Try.prog) Try.underlying22 Try.underlying5 Try.underlying9
  have kt0 := SP.out.t.convert (P := Try.prog) Try.underlying22 Try.underlying5 Try.underlying9
  have kp0 := SP.out.p.convert (P := Try.prog) Try.underlying22 Try.underlying5 Try.underlying9
  have kk0 := SP.out.k.convert (P := Try.prog) Try.underlying22 Try.underlying5 Try.underlying9
  have SPD := SP.out
  have HBD := HB.out
  go_wp2_with fail
  refine (spanEmpty _ false SPD.f SPD.t).mono ?_
  rintro e W2 ⟨hev, hb⟩
  rw [HE.out] at hev
  subst hev
  have SP2 := Lib.hid (SPD.below hb)
  have HB2 : Hid (Below w.heap.size w W2) := HBD.trans (hb.mono HBD.size)
  clear hb SP HB SPD HBD
  clear c0 c1 c2 kf kt kp kk kf0 kt0 kp0 kk0
  have SP := SP2
  have HB := HB2
  clear SP2 HB2
  have c0 := SP.out.span.c0
  have c1 := SP.out.span.c1
  have c2 := SP.out.span.c2
  have kf := fun n => SP.out.f.convN (P := Try.prog) Try.underlying22 Try.underlying5 Try.underlying9 n
  have kt := fun n => SP.out.t.convN (P := Try.prog) Try.underlying22 Try.underlying5 Try.underlying9 n
  have kp := fun n => SP.out.p.convN (P := Try.prog) Try.underlying22 Try.underlying5 Try.underlying9 n
  have kk := fun n => SP.out.k.convN (P := Try.prog) Try.underlying22 Try.underlying5 Try.underlying9 n
  have kf0 := SP.out.f.convert (P := Try.prog) Try.underlying22 Try.underlying5 Try.underlying9
  have kt0 := SP.out.t.convert (P := Try.prog) Try.underlying22 Try.underlying5 Try.underlying9
  have kp0 := SP.out.p.convert (P := Try.prog) Try.underlying22 Try.underlying5 Try.underlying9
  have kk0 := SP.out.k.convert (P := Try.prog) Try.underlying22 Try.underlying5 Try.underlying9
  have SPD := SP.out
  have HBD := HB.out
  go_wp2_with fail
  refine (spanHas _ false SPD.f SPD.t SPD.f).mono ?_
  rintro e W3 ⟨hev, hb⟩
  rw [HFF.out] at hev
  subst hev
  have SP2 := Lib.hid (SPD.below hb)
  have HB2 : Hid (Below w.heap.size w W3) := HBD.trans (hb.mono HBD.size)
  clear hb SP HB SPD HBD
  clear c0 c1 c2 kf kt kp kk kf0 kt0 kp0 kk0
  have SP := SP2
  have HB := HB2
  clear SP2 HB2
  have c0 := SP.out.span.c0
  have c1 := SP.out.span.c1
  have c2 := SP.out.span.c2
  have kf := fun n => SP.out.f.convN (P := Try.prog) Try.underlying22 Try.underlying5 Try.underlying9 n
  have kt := fun n => SP.out.t.convN (P := Try.prog) Try.underlying22 Try.underlying5 Try.underlying9 n
  have kp := fun n => SP.out.p.convN (P := Try.prog) Try.underlying22 Try.underlying5 Try.underlying9 n
  have kk := fun n => SP.out.k.convN (P := Try.prog) Try.underlying22 Try.underlying5 Try.underlying9 n
  have kf0 := SP.out.f.convert (P := Try.prog) Try.underlying22 Try.underlying5 Try.underlying9
  have kt0 := SP.out.t.convert (P := Try.prog) Try.underlying22 Try.underlying5 Try.underlying9
  have kp0 := SP.out.p.convert (P := Try.prog) Try.underlying22 Try.underlying5 Try.underlying9
  have kk0 := SP.out.k.convert (P := Try.prog) Try.underlying22 Try.underlying5 Try.underlying9
  go_wp2_with fail
  refine (refBegins _ _ _ (by rw [str_size]; omega)).mono ?_
  rintro e w' ⟨hev, m, rfl⟩
  rw [str_data, str_data] at hev
  subst hev
  go_wp2_with fail
  refine (keysBegins _ (SP.out.k.drewN m) (SP.out.p.drewN m)).mono ?_
  rintro e w' ⟨rfl, rfl⟩
  go_wp2_with fail
  refine (keysOf _ (SP.out.p.drewN m) (by omega)).mono ?_
  rintro e W5 ⟨qf, qt, df, dt, rfl, hqf, hqt, hb⟩
  have SP5 := Lib.hid ((SP.out.drewN m).below hb)
  have HB5 : Hid (Below w.heap.size w W5) := (below_drewN HB.out m).trans (hb.mono HB.out.size)
  have QF := Lib.hid hqf
  have QT := Lib.hid hqt
  clear hb hqf hqt SP HB
  clear c0 c1 c2 kf kt kp kk kf0 kt0 kp0 kk0
  go_wp2_with fail
  refine (spanHas _ _ QF.out QT.out SP5.out.k).mono ?_
  rintro e W6 ⟨hev, hb⟩
  rw [of_has] at hev
  subst hev
  have SP6 := Lib.hid (SP5.out.below hb)
  have HB6 : Hid (Below w.heap.size w W6) := HB5.out.trans (hb.mono HB5.out.size)
  clear hb SP5 HB5 QF QT
  go_wp2_with fail
  refine (keysOf _ SP6.out.p (by omega)).mono ?_
  rintro e W7 ⟨qf, qt, df, dt, rfl, hqf, hqt, hb⟩
  have HB7 : Hid (Below w.heap.size w W7) := HB6.out.trans (hb.mono HB6.out.size)
  have QF := Lib.hid hqf
  have QT := Lib.hid hqt
  clear hb hqf hqt SP6 HB6
  go_wp2_with fail
  refine (spanEmpty _ _ QF.out QT.out).mono ?_
  rintro e W8 ⟨hev, hb⟩
  rw [of_empty] at hev
  subst hev
  have HB8 : Hid (Below w.heap.size w W8) := HB7.out.trans (hb.mono HB7.out.size)
  clear hb HB7 QF QT
  go_wp2_with fail
  refine (awake W8).mono ?_
  rintro e w' ⟨rfl, hb2⟩
  go_wp2
  go_ret
  exact ⟨rfl, HB8.out.trans (hb2.mono HB8.out.size)⟩

set_option maxHeartbeats 4000000 in
set_option maxRecDepth 100000 in
theorem spans_c (w : World) {pf pt pp pk : Option Addr} {cf ct cp ck : Nat} {f t p k : List UInt8} (hf : IsB w pf cf f) (ht : IsB w pt ct t) (hp : IsB w pp cp p) (hk : IsB w pk ck k)
    (hsb : smallB [(pf, f.length, cf), (pt, t.length, ct), (pp, p.length, cp), (pk, k.length, ck)] = true) (e1 : lessB k f = true) (e3 : lessB f t = true) :
    Calls Try.prog 7 #[.agg #[.slice pf f.length cf, .slice pt t.length ct, .bool true], .slice pp p.length cp, .slice pk k.length ck] w fun e w' => e = .returned (.bool true) ∧ Below w.heap.size w w' := by
  have hin : inB f t true k = false := by unfold inB; rw [e1]; rfl
  have hvo : voidB f t true = false := by unfold voidB; rw [e3]; rfl
  have E1 := Lib.hid e1
  have E3 := Lib.hid e3
  have hh := (has_in f t true k).trans hin
  have he := (empty_void f t true).trans hvo
  have hff := (has_in f t true f).trans (in_from f t true hvo)
  have HFF := Lib.hid hff
  have HH := Lib.hid hh
  have HE := Lib.hid he
  obtain ⟨z3, z4, z1, z2⟩ := small4 hsb
  have SP0 := Lib.hid (Sp.begin_ (cl := true) hf ht hp hk 35)
  have hsm := small_lit (w.alloc (.cells #[.slice pf f.length cf, .slice pt t.length ct, .bool true] 35)) [(pf, f.length, cf), (pt, t.length, ct), (pp, p.length, cp), (pk, k.length, ck)] (by simp)
  rw [World.size_alloc] at hsm
  have HS := Lib.hid hsm
  have HSB := Lib.hid hsb
  clear hsm hsb hin hvo hh he hf ht hp hk e1 e3 hff
  go_enter Try.func7, Try.ntmps7
  go_wp2_with fail
  refine HS.out.mono ?_
  rintro e W ⟨hev, hb⟩
  rw [HSB.out] at hev
  subst hev
  have SP := Lib.hid (SP0.out.below (by rw [World.size_alloc]; exact hb))
  have HB : Hid (Below w.heap.size w W) := ((Below.refl _ w).alloc (Nat.le_refl _) _).trans (hb.mono (by omega))
  clear hb HS HSB SP0
  have c0 := SP.out.span.c0
  have c1 := SP.out.span.c1
  have c2 := SP.out.span.c2
  have kf := fun n => SP.out.f.convN (P := Try.prog) Try.underlying22 Try.underlying5 Try.underlying9 n
  have kt := fun n => SP.out.t.convN (P := Try.prog) Try.underlying22 Try.underlying5 Try.underlying9 n
  have kp := fun n => SP.out.p.convN (P := Try.prog) Try.underlying22 Try.underlying5 Try.underlying9 n
  have kk := fun n => SP.out.k.convN (P := Try.prog) Try.underlying22 Try.underlying5 Try.underlying9 n
  have kf0 := SP.out.f.convert (P := Try.prog) Try.underlying22 Try.underlying5 Try.underlying9
  have kt0 := SP.out.t.convert (P := Try.prog) Try.underlying22 Try.underlying5 Try.underlying9
  have kp0 := SP.out.p.convert (P := Try.prog) Try.underlying22 Try.underlying5 Try.underlying9
  have kk0 := SP.out.k.convert (P := Try.prog) Try.underlying22 Try.underlying5 Try.underlying9
  go_wp2_with fail
  refine (refLess _ _ _ (by rw [str_size]; omega) (by rw [str_size]; omega)).mono ?_
  rintro e w' ⟨hev, n1, rfl⟩
  rw [str_data, str_data, E1.out] at hev
  subst hev
  go_wp2_with fail
  refine (refLess _ _ _ (by rw [str_size]; omega) (by rw [str_size]; omega)).mono ?_
  rintro e w' ⟨hev, n2, rfl⟩
  rw [str_data, str_data, E3.out] at hev
  subst hev
  have SPD := SP.out.drewN (n1+n2)
  have HBD : Below w.heap.size w (W.drewN (n1+n2)) := below_drewN HB.out _
  go_wp2_with fail
  refine (spanHas _ true SPD.f SPD.t SPD.k).mono ?_
  rintro e W1 ⟨hev, hb⟩
  rw [HH.out] at hev
  subst hev
  have SP2 := Lib.hid (SPD.below hb)
  have HB2 : Hid (Below w.heap.size w W1) := HBD.trans (hb.mono HBD.size)
  clear hb SP HB SPD HBD
  clear c0 c1 c2 kf kt kp kk kf0 kt0 kp0 kk0
  have SP := SP2
  have HB := HB2
  clear SP2 HB2
  have c0 := SP.out.span.c0
  have c1 := SP.out.span.c1
  have c2 := SP.out.span.c2
  have kf := fun n => SP.out.f.convN (P := Try.prog) Try.underlying22 Try.underlying5 Try.underlying9 n
  have kt := fun n => SP.out.t.convN (P := Try.prog) Try.underlying22 Try.underlying5 Try.underlying9 n
  have kp := fun n => SP.out.p.convN (P := Try.prog) Try.underlying22 Try.underlying5 Try.underlying9 n
  have kk := fun n => SP.out.k.convN (P := Try.prog) Try.underlying22 Try.underlying5 Try.underlying9 n
  have kf0 := SP.out.f.convert (P := Try.prog) Try.underlying22 Try.underlying5 Try.underlying9
  have kt0 := SP.out.t.convert (P := Try.prog) Try.underlying22 Try.underlying5 Try.underlying9
  have kp0 := SP.out.p.convert (P := Try.prog) Try.underlying22 Try.underlying5 Try.underlying9
  have kk0 := SP.out.k.convert (P := Try.prog) Try.underlying22 Try.underlying5 Try.underlying9
  have SPD := SP.out
  have HBD := HB.out
  go_wp2_with fail
  refine (spanEmpty _ true SPD.f SPD.t).mono ?_
  rintro e W2 ⟨hev, hb⟩
  rw [HE.out] at hev
  subst hev
  have SP2 := Lib.hid (SPD.below hb)
  have HB2 : Hid (Below w.heap.size w W2) := HBD.trans (hb.mono HBD.size)
  clear hb SP HB SPD HBD
  clear c0 c1 c2 kf kt kp kk kf0 kt0 kp0 kk0
  have SP := SP2
  have HB := HB2
  clear SP2 HB2
  have c0 := SP.out.span.c0
  have c1 := SP.out.span.c1
  have c2 := SP.out.span.c2
  have kf := fun n => SP.out.f.convN (P := Try.prog) Try.underlying22 Try.underlying5 Try.underlying9 n
  have kt := fun n => SP.out.t.convN (P := Try.prog) Try.underlying22 Try.underlying5 Try.underlying9 n
  have kp := fun n => SP.out.p.convN (P := Try.prog) Try.underlying22 Try.underlying5 Try.underlying9 n
  have kk := fun n => SP.out.k.convN (P := Try.prog) Try.underlying22 Try.underlying5 Try.underlying9 n
  have kf0 := SP.out.f.convert (P := Try.prog) Try.underlying22 Try.underlying5 Try.underlying9
  have kt0 := SP.out.t.convert (P := Try.prog) Try.underlying22 Try.underlying5 Try.underlying9
  have kp0 := SP.out.p.convert (P := Try.prog) Try.underlying22 Try.underlying5 Try.underlying9
  have kk0 := SP.out.k.convert (P := Try.prog) Try.underlying22 Try.underlying5 Try.underlying9
  have SPD := SP.out
  have HBD := HB.out
  go_wp2_with fail
  refine (spanHas _ true SPD.f SPD.t SPD.f).mono ?_
  rintro e W3 ⟨hev, hb⟩
  rw [HFF.out] at hev
  subst hev
  have SP2 := Lib.hid (SPD.below hb)
  have HB2 : Hid (Below w.heap.size w W3) := HBD.trans (hb.mono HBD.size)
  clear hb SP HB SPD HBD
  clear c0 c1 c2 kf kt kp kk kf0 kt0 kp0 kk0
  have SP := SP2
  have HB := HB2
  clear SP2 HB2
  have c0 := SP.out.span.c0
  have c1 := SP.out.span.c1
  have c2 := SP.out.span.c2
  have kf := fun n => SP.out.f.convN (P := Try.prog) Try.underlying22 Try.underlying5 Try.underlying9 n
  have kt := fun n => SP.out.t.convN (P := Try.prog) Try.underlying22 Try.underlying5 Try.underlying9 n
  have kp := fun n => SP.out.p.convN (P := Try.prog) Try.underlying22 Try.underlying5 Try.underlying9 n
  have kk := fun n => SP.out.k.convN (P := Try.prog) Try.underlying22 Try.underlying5 Try.underlying9 n
  have kf0 := SP.out.f.convert (P := Try.prog) Try.underlying22 Try.underlying5 Try.underlying9
  have kt0 := SP.out.t.convert (P := Try.prog) Try.underlying22 Try.underlying5 Try.underlying9
  have kp0 := SP.out.p.convert (P := Try.prog) Try.underlying22 Try.underlying5 Try.underlying9
  have kk0 := SP.out.k.convert (P := Try.prog) Try.underlying22 Try.underlying5 Try.underlying9
  go_wp2_with fail
  refine (refBegins _ _ _ (by rw [str_size]; omega)).mono ?_
  rintro e w' ⟨hev, m, rfl⟩
  rw [str_data, str_data] at hev
  subst hev
  go_wp2_with fail
  refine (keysBegins _ (SP.out.k.drewN m) (SP.out.p.drewN m)).mono ?_
  rintro e w' ⟨rfl, rfl⟩
  go_wp2_with fail
  refine (keysOf _ (SP.out.p.drewN m) (by omega)).mono ?_
  rintro e W5 ⟨qf, qt, df, dt, rfl, hqf, hqt, hb⟩
  have SP5 := Lib.hid ((SP.out.drewN m).below hb)
  have HB5 : Hid (Below w.heap.size w W5) := (below_drewN HB.out m).trans (hb.mono HB.out.size)
  have QF := Lib.hid hqf
  have QT := Lib.hid hqt
  clear hb hqf hqt SP HB
  clear c0 c1 c2 kf kt kp kk kf0 kt0 kp0 kk0
  go_wp2_with fail
  refine (spanHas _ _ QF.out QT.out SP5.out.k).mono ?_
  rintro e W6 ⟨hev, hb⟩
  rw [of_has] at hev
  subst hev
  have SP6 := Lib.hid (SP5.out.below hb)
  have HB6 : Hid (Below w.heap.size w W6) := HB5.out.trans (hb.mono HB5.out.size)
  clear hb SP5 HB5 QF QT
  go_wp2_with fail
  refine (keysOf _ SP6.out.p (by omega)).mono ?_
  rintro e W7 ⟨qf, qt, df, dt, rfl, hqf, hqt, hb⟩
  have HB7 : Hid (Below w.heap.size w W7) := HB6.out.trans (hb.mono HB6.out.size)
  have QF := Lib.hid hqf
  have QT := Lib.hid hqt
  clear hb hqf hqt SP6 HB6
  go_wp2_with fail
  refine (spanEmpty _ _ QF.out QT.out).mono ?_
  rintro e W8 ⟨hev, hb⟩
  rw [of_empty] at hev
  subst hev
  have HB8 : Hid (Below w.heap.size w W8) := HB7.out.trans (hb.mono HB7.out.size)
  clear hb HB7 QF QT
  go_wp2_with fail
  refine (awake W8).mono ?_
  rintro e w' ⟨rfl, hb2⟩
  go_wp2
  go_ret
  exact ⟨rfl, HB8.out.trans (hb2.mono HB8.out.size)⟩

set_option maxHeartbeats 4000000 in
set_option maxRecDepth 100000 in
theorem spans_d (w : World) {pf pt pp pk : Option Addr} {cf ct cp ck : Nat} {f t p k : List UInt8} (hf : IsB w pf cf f) (ht : IsB w pt ct t) (hp : IsB w pp cp p) (hk : IsB w pk ck k)
    (hsb : smallB [(pf, f.length, cf), (pt, t.length, ct), (pp, p.length, cp), (pk, k.length, ck)] = true) (e1 : lessB k f = true) (e3 : lessB f t = false) :
    Calls Try.prog 7 #[.agg #[.slice pf f.length cf, .slice pt t.length ct, .bool true], .slice pp p.length cp, .slice pk k.length ck] w fun e w' => e = .returned (.bool true) ∧ Below w.heap.size w w' := by
  have hin : inB f t true k = false := by unfold inB; rw [e1]; rfl
  have hvo : voidB f t true = true := by unfold voidB; rw [e3]; rfl
  have E1 := Lib.hid e1
  have E3 := Lib.hid e3
  have hh := (has_in f t true k).trans hin
  have he := (empty_void f t true).trans hvo
  have HH := Lib.hid hh
  have HE := Lib.hid he
  obtain ⟨z3, z4, z1, z2⟩ := small4 hsb
  have SP0 := Lib.hid (Sp.begin_ (cl := true) hf ht hp hk 35)
  have hsm := small_lit (w.alloc (.cells #[.slice pf f.length cf, .slice pt t.length ct, .bool true] 35)) [(pf, f.length, cf), (pt, t.length, ct), (pp, p.length, cp), (pk, k.length, ck)] (by simp)
  rw [World.size_alloc] at hsm
  have HS := Lib.hid hsm
  have HSB := Lib.hid hsb
  clear hsm hsb hin hvo hh he hf ht hp hk e1 e3
  go_enter Try.func7, Try.ntmps7
  go_wp2_with fail
  refine HS.out.mono ?_
  rintro e W ⟨hev, hb⟩
  rw [HSB.out] at hev
  subst hev
  have SP := Lib.hid (SP0.out.below (by rw [World.size_alloc]; exact hb))
  have HB : Hid (Below w.heap.size w W) := ((Below.refl _ w).alloc (Nat.le_refl _) _).trans (hb.mono (by omega))
  clear hb HS HSB SP0
  have c0 := SP.out.span.c0
  have c1 := SP.out.span.c1
  have c2 := SP.out.span.c2
  have kf := fun n => SP.out.f.convN (P := Try.prog) Try.underlying22 Try.underlying5 Try.underlying9 n
  have kt := fun n => SP.out.t.convN (P := Try.prog) Try.underlying22 Try.underlying5 Try.underlying9 n
  have kp := fun n => SP.out.p.convN (P := Try.prog) Try.underlying22 Try.underlying5 Try.underlying9 n
  have kk := fun n => SP.out.k.convN (P := Try.prog) Try.underlying22 Try.underlying5 Try.underlying9 n
  have kf0 := SP.out.f.convert (P := Try.prog) Try.underlying22 Try.underlying5 Try.underlying9
  have kt0 := SP.out.t.convert (P := Try.prog) Try.underlying22 Try.underlying5 Try.underlying9
  have kp0 := SP.out.p.convert (P := Try.prog) Try.underlying22 Try.underlying5 Try.underlying9
  have kk0 := SP.out.k.convert (P := Try.prog) Try.underlying22 Try.underlying5 Try.underlying9
  go_wp2_with fail
  refine (refLess _ _ _ (by rw [str_size]; omega) (by rw [str_size]; omega)).mono ?_
  rintro e w' ⟨hev, n1, rfl⟩
  rw [str_data, str_data, E1.out] at hev
  subst hev
  go_wp2_with fail
  refine (refLess _ _ _ (by rw [str_size]; omega) (by rw [str_size]; omega)).mono ?_
  rintro e w' ⟨hev, n2, rfl⟩
  rw [str_data, str_data, E3.out] at hev
  subst hev
  have SPD := SP.out.drewN (n1+n2)
  have HBD : Below w.heap.size w (W.drewN (n1+n2)) := below_drewN HB.out _
  go_wp2_with fail
  refine (spanHas _ true SPD.f SPD.t SPD.k).mono ?_
  rintro e W1 ⟨hev, hb⟩
  rw [HH.out] at hev
  subst hev
  have SP2 := Lib.hid (SPD.below hb)
  have HB2 : Hid (Below w.heap.size w W1) := HBD.trans (hb.mono HBD.size)
  clear hb SP HB SPD HBD
  clear c0 c1 c2 kf kt kp kk kf0 kt0 kp0 kk0
  have SP := SP2
  have HB := HB2
  clear SP2 HB2
  have c0 := SP.out.span.c0
  have c1 := SP.out.span.c1
  have c2 := SP.out.span.c2
  have kf := fun n => SP.out.f.convN (P := Try.prog) Try.underlying22 Try.underlying5 Try.underlying9 n
  have kt := fun n => SP.out.t.convN (P := Try.prog) Try.underlying22 Try.underlying5 Try.underlying9 n
  have kp := fun n => SP.out.p.convN (P := Try.prog) Try.underlying22 Try.underlying5 Try.underlying9 n
  have kk := fun n => SP.out.k.convN (P := Try.prog) Try.underlying22 Try.underlying5 Try.underlying9 n
  have kf0 := SP.out.f.convert (P := Try.prog) Try.underlying22 Try.underlying5 Try.underlying9
  have kt0 := SP.out.t.convert (P := Try.prog) Try.underlying22 Try.underlying5 Try.underlying9
  have kp0 := SP.out.p.convert (P := Try.prog) Try.underlying22 Try.underlying5 Try.underlying9
  have kk0 := SP.out.k.convert (P := Try.prog) Try.underlying22 Try.underlying5 Try.underlying9
  have SPD := SP.out
  have HBD := HB.out
  go_wp2_with fail
  refine (spanEmpty _ true SPD.f SPD.t).mono ?_
  rintro e W2 ⟨hev, hb⟩
  rw [HE.out] at hev
  subst hev
  have SP2 := Lib.hid (SPD.below hb)
  have HB2 : Hid (Below w.heap.size w W2) := HBD.trans (hb.mono HBD.size)
  clear hb SP HB SPD HBD
  clear c0 c1 c2 kf kt kp kk kf0 kt0 kp0 kk0
  have SP := SP2
  have HB := HB2
  clear SP2 HB2
  have c0 := SP.out.span.c0
  have c1 := SP.out.span.c1
  have c2 := SP.out.span.c2
  have kf := fun n => SP.out.f.convN (P := Try.prog) Try.underlying22 Try.underlying5 Try.underlying9 n
  have kt := fun n => SP.out.t.convN (P := Try.prog) Try.underlying22 Try.underlying5 Try.underlying9 n
  have kp := fun n => SP.out.p.convN (P := Try.prog) Try.underlying22 Try.underlying5 Try.underlying9 n
  have kk := fun n => SP.out.k.convN (P := Try.prog) Try.underlying22 Try.underlying5 Try.underlying9 n
  have kf0 := SP.out.f.convert (P := Try.prog) Try.underlying22 Try.underlying5 Try.underlying9
  have kt0 := SP.out.t.convert (P := Try.prog) Try.underlying22 Try.underlying5 Try.underlying9
  have kp0 := SP.out.p.convert (P := Try.prog) Try.underlying22 Try.underlying5 Try.underlying9
  have kk0 := SP.out.k.convert (P := Try.prog) Try.underlying22 Try.underlying5 Try.underlying9
  go_wp2_with fail
  refine (refBegins _ _ _ (by rw [str_size]; omega)).mono ?_
  rintro e w' ⟨hev, m, rfl⟩
  rw [str_data, str_data] at hev
  subst hev
  go_wp2_with fail
  refine (keysBegins _ (SP.out.k.drewN m) (SP.out.p.drewN m)).mono ?_
  rintro e w' ⟨rfl, rfl⟩
  go_wp2_with fail
  refine (keysOf _ (SP.out.p.drewN m) (by omega)).mono ?_
  rintro e W5 ⟨qf, qt, df, dt, rfl, hqf, hqt, hb⟩
  have SP5 := Lib.hid ((SP.out.drewN m).below hb)
  have HB5 : Hid (Below w.heap.size w W5) := (below_drewN HB.out m).trans (hb.mono HB.out.size)
  have QF := Lib.hid hqf
  have QT := Lib.hid hqt
  clear hb hqf hqt SP HB
  clear c0 c1 c2 kf kt kp kk kf0 kt0 kp0 kk0
  go_wp2_with fail
  refine (spanHas _ _ QF.out QT.out SP5.out.k).mono ?_
  rintro e W6 ⟨hev, hb⟩
  rw [of_has] at hev
  subst hev
  have SP6 := Lib.hid (SP5.out.below hb)
  have HB6 : Hid (Below w.heap.size w W6) := HB5.out.trans (hb.mono HB5.out.size)
  clear hb SP5 HB5 QF QT
  go_wp2_with fail
  refine (keysOf _ SP6.out.p (by omega)).mono ?_
  rintro e W7 ⟨qf, qt, df, dt, rfl, hqf, hqt, hb⟩
  have HB7 : Hid (Below w.heap.size w W7) := HB6.out.trans (hb.mono HB6.out.size)
  have QF := Lib.hid hqf
  have QT := Lib.hid hqt
  clear hb hqf hqt SP6 HB6
  go_wp2_with fail
  refine (spanEmpty _ _ QF.out QT.out).mono ?_
  rintro e W8 ⟨hev, hb⟩
  rw [of_empty] at hev
  subst hev
  have HB8 : Hid (Below w.heap.size w W8) := HB7.out.trans (hb.mono HB7.out.size)
  clear hb HB7 QF QT
  go_wp2_with fail
  refine (awake W8).mono ?_
  rintro e w' ⟨rfl, hb2⟩
  go_wp2
  go_ret
  exact ⟨rfl, HB8.out.trans (hb2.mono HB8.out.size)⟩

set_option maxHeartbeats 4000000 in
set_option maxRecDepth 100000 in
theorem spans_e (w : World) {pf pt pp pk : Option Addr} {cf ct cp ck : Nat} {f t p k : List UInt8} (hf : IsB w pf cf f) (ht : IsB w pt ct t) (hp : IsB w pp cp p) (hk : IsB w pk ck k)
    (hsb : smallB [(pf, f.length, cf), (pt, t.length, ct), (pp, p.length, cp), (pk, k.length, ck)] = true) (e1 : lessB k f = false) (e2 : lessB k t = true) (e3 : lessB f t = true) :
    Calls Try.prog 7 #[.agg #[.slice pf f.length cf, .slice pt t.length ct, .bool true], .slice pp p.length cp, .slice pk k.length ck] w fun e w' => e = .returned (.bool true) ∧ Below w.heap.size w w' := by
  have hin : inB f t true k = true := by unfold inB; rw [e1]; rw [e2]; rfl
  have hvo : voidB f t true = false := by unfold voidB; rw [e3]; rfl
  have E1 := Lib.hid e1
  have E2 := Lib.hid e2
  have E3 := Lib.hid e3
  have hh := (has_in f t true k).trans hin
  have he := (empty_void f t true).trans hvo
  have hff := (has_in f t true f).trans (in_from f t true hvo)
  have HFF := Lib.hid hff
  have HH := Lib.hid hh
  have HE := Lib.hid he
  obtain ⟨z3, z4, z1, z2⟩ := small4 hsb
  have SP0 := Lib.hid (Sp.begin_ (cl := true) hf ht hp hk 35)
  have hsm := small_lit (w.alloc (.cells #[.slice pf f.length cf, .slice pt t.length ct, .bool true] 35)) [(pf, f.length, cf), (pt, t.length, ct), (pp, p.length, cp), (pk, k.length, ck)] (by simp)
  rw [World.size_alloc] at hsm
  have HS := Lib.hid hsm
  have HSB := Lib.hid hsb
  clear hsm hsb hin hvo hh he hf ht hp hk e1 e2 e3 hff
  go_enter Try.func7, Try.ntmps7
  go_wp2_with fail
  refine HS.out.mono ?_
  rintro e W ⟨hev, hb⟩
  rw [HSB.out] at hev
  subst hev
  have SP := Lib.hid (SP0.out.below (by rw [World.size_alloc]; exact hb))
  have HB : Hid (Below w.heap.size w W) := ((Below.refl _ w).alloc (Nat.le_refl _) _).trans (hb.mono (by omega))
  clear hb HS HSB SP0
  have c0 := SP.out.span.c0
  have c1 := SP.out.span.c1
  have c2 := SP.out.span.c2
  have kf := fun n => SP.out.f.convN (P := Try.prog) Try.underlying22 Try.underlying5 Try.underlying9 n
  have kt := fun n => SP.out.t.convN (P := Try.prog) Try.underlying22 Try.underlying5 Try.underlying9 n
  have kp := fun n => SP.out.p.convN (P := Try.prog) Try.underlying22 Try.underlying5 Try.underlying9 n
  have kk := fun n => SP.out.k.convN (P := Try.prog) Try.underlying22 Try.underlying5 Try.underlying9 n
  have kf0 := SP.out.f.convert (P := Try.prog) Try.underlying22 Try.underlying5 Try.underlying9
  have kt0 := SP.out.t.convert (P := Try.prog) Try.underlying22 Try.underlying5 Try.underlying9
  have kp0 := SP.out.p.convert (P := Try.prog) Try.underlying22 Try.underlying5 Try.underlying9
  have kk0 := SP.out.k.convert (P := Try.prog) Try.underlying22 Try.underlying5 Try.underlying9
  go_wp2_with fail
  refine (refLess _ _ _ (by rw [str_size]; omega) (by rw [str_size]; omega)).mono ?_
  rintro e w' ⟨hev, n1, rfl⟩
  rw [str_data, str_data, E1.out] at hev
  subst hev
  go_wp2_with fail
  refine (refLess _ _ _ (by rw [str_size]; omega) (by rw [str_size]; omega)).mono ?_
  rintro e w' ⟨hev, n2, rfl⟩
  rw [str_data, str_data, E2.out] at hev
  subst hev
  go_wp2_with fail
  refine (refLess _ _ _ (by rw [str_size]; omega) (by rw [str_size]; omega)).mono ?_
  rintro e w' ⟨hev, n3, rfl⟩
  rw [str_data, str_data, E3.out] at hev
  subst hev
  have SPD := SP.out.drewN (n1+n2+n3)
  have HBD : Below w.heap.size w (W.drewN (n1+n2+n3)) := below_drewN HB.out _
  go_wp2_with fail
  refine (spanHas _ true SPD.f SPD.t SPD.k).mono ?_
  rintro e W1 ⟨hev, hb⟩
  rw [HH.out] at hev
  subst hev
  have SP2 := Lib.hid (SPD.below hb)
  have HB2 : Hid (Below w.heap.size w W1) := HBD.trans (hb.mono HBD.size)
  clear hb SP HB SPD HBD
  clear c0 c1 c2 kf kt kp kk kf0 kt0 kp0 kk0
  have SP := SP2
  have HB := HB2
  clear SP2 HB2
  have c0 := SP.out.span.c0
  have c1 := SP.out.span.c1
  have c2 := SP.out.span.c2
  have kf := fun n => SP.out.f.convN (P := Try.prog) Try.underlying22 Try.underlying5 Try.underlying9 n
  have kt := fun n => SP.out.t.convN (P := Try.prog) Try.underlying22 Try.underlying5 Try.underlying9 n
  have kp := fun n => SP.out.p.convN (P := Try.prog) Try.underlying22 Try.underlying5 Try.underlying9 n
  have kk := fun n => SP.out.k.convN (P := Try.prog) Try.underlying22 Try.underlying5 Try.underlying9 n
  have kf0 := SP.out.f.convert (P := Try.prog) Try.underlying22 Try.underlying5 Try.underlying9
  have kt0 := SP.out.t.convert (P := Try.prog) Try.underlying22 Try.underlying5 Try.underlying9
  have kp0 := SP.out.p.convert (P := Try.prog) Try.underlying22 Try.underlying5 Try.underlying9
  have kk0 := SP.out.k.convert (P := Try.prog) Try.underlying22 Try.underlying5 Try.underlying9
  have SPD := SP.out
  have HBD := HB.out
  go_wp2_with fail
  refine (spanEmpty _ true SPD.f SPD.t).mono ?_
  rintro e W2 ⟨hev, hb⟩
  rw [HE.out] at hev
  subst hev
  have SP2 := Lib.hid (SPD.below hb)
  have HB2 : Hid (Below w.heap.size w W2) := HBD.trans (hb.mono HBD.size)
  clear hb SP HB SPD HBD
  clear c0 c1 c2 kf kt kp kk kf0 kt0 kp0 kk0
  have SP := SP2
  have HB := HB2
  clear SP2 HB2
  have c0 := SP.out.span.c0
  have c1 := SP.out.span.c1
  have c2 := SP.out.span.c2
  have kf := fun n => SP.out.f.convN (P := Try.prog) Try.underlying22 Try.underlying5 Try.underlying9 n
  have kt := fun n => SP.out.t.convN (P := Try.prog) Try.underlying22 Try.underlying5 Try.underlying9 n
  have kp := fun n => SP.out.p.convN (P := Try.prog) Try.underlying22 Try.underlying5 Try.underlying9 n
  have kk := fun n => SP.out.k.convN (P := Try.prog) Try.underlying22 Try.underlying5 Try.underlying9 n
  have kf0 := SP.out.f.convert (P := Try.prog) Try.underlying22 Try.underlying5 Try.underlying9
  have kt0 := SP.out.t.convert (P := Try.prog) Try.underlying22 Try.underlying5 Try.underlying9
  have kp0 := SP.out.p.convert (P := Try.prog) Try.underlying22 Try.underlying5 Try.underlying9
  have kk0 := SP.out.k.convert (P := Try.prog) Try.underlying22 Try.underlying5 Try.underlying9
  have SPD := SP.out
  have HBD := HB.out
  go_wp2_with fail
  refine (spanHas _ true SPD.f SPD.t SPD.f).mono ?_
  rintro e W3 ⟨hev, hb⟩
  rw [HFF.out] at hev
  subst hev
  have SP2 := Lib.hid (SPD.below hb)
  have HB2 : Hid (Below w.heap.size w W3) := HBD.trans (hb.mono HBD.size)
  clear hb SP HB SPD HBD
  clear c0 c1 c2 kf kt kp kk kf0 kt0 kp0 kk0
  have SP := SP2
  have HB := HB2
  clear SP2 HB2
  have c0 := SP.out.span.c0
  have c1 := SP.out.span.c1
  have c2 := SP.out.span.c2
  have kf := fun n => SP.out.f.convN (P := Try.prog) Try.underlying22 Try.underlying5 Try.underlying9 n
  have kt := fun n => SP.out.t.convN (P := Try.prog) Try.underlying22 Try.underlying5 Try.underlying9 n
  have kp := fun n => SP.out.p.convN (P := Try.prog) Try.underlying22 Try.underlying5 Try.underlying9 n
  have kk := fun n => SP.out.k.convN (P := Try.prog) Try.underlying22 Try.underlying5 Try.underlying9 n
  have kf0 := SP.out.f.convert (P := Try.prog) Try.underlying22 Try.underlying5 Try.underlying9
  have kt0 := SP.out.t.convert (P := Try.prog) Try.underlying22 Try.underlying5 Try.underlying9
  have kp0 := SP.out.p.convert (P := Try.prog) Try.underlying22 Try.underlying5 Try.underlying9
  have kk0 := SP.out.k.convert (P := Try.prog) Try.underlying22 Try.underlying5 Try.underlying9
  go_wp2_with fail
  refine (refBegins _ _ _ (by rw [str_size]; omega)).mono ?_
  rintro e w' ⟨hev, m, rfl⟩
  rw [str_data, str_data] at hev
  subst hev
  go_wp2_with fail
  refine (keysBegins _ (SP.out.k.drewN m) (SP.out.p.drewN m)).mono ?_
  rintro e w' ⟨rfl, rfl⟩
  go_wp2_with fail
  refine (keysOf _ (SP.out.p.drewN m) (by omega)).mono ?_
  rintro e W5 ⟨qf, qt, df, dt, rfl, hqf, hqt, hb⟩
  have SP5 := Lib.hid ((SP.out.drewN m).below hb)
  have HB5 : Hid (Below w.heap.size w W5) := (below_drewN HB.out m).trans (hb.mono HB.out.size)
  have QF := Lib.hid hqf
  have QT := Lib.hid hqt
  clear hb hqf hqt SP HB
  clear c0 c1 c2 kf kt kp kk kf0 kt0 kp0 kk0
  go_wp2_with fail
  refine (spanHas _ _ QF.out QT.out SP5.out.k).mono ?_
  rintro e W6 ⟨hev, hb⟩
  rw [of_has] at hev
  subst hev
  have SP6 := Lib.hid (SP5.out.below hb)
  have HB6 : Hid (Below w.heap.size w W6) := HB5.out.trans (hb.mono HB5.out.size)
  clear hb SP5 HB5 QF QT
  go_wp2_with fail
  refine (keysOf _ SP6.out.p (by omega)).mono ?_
  rintro e W7 ⟨qf, qt, df, dt, rfl, hqf, hqt, hb⟩
  have HB7 : Hid (Below w.heap.size w W7) := HB6.out.trans (hb.mono HB6.out.size)
  have QF := Lib.hid hqf
  have QT := Lib.hid hqt
  clear hb hqf hqt SP6 HB6
  go_wp2_with fail
  refine (spanEmpty _ _ QF.out QT.out).mono ?_
  rintro e W8 ⟨hev, hb⟩
  rw [of_empty] at hev
  subst hev
  have HB8 : Hid (Below w.heap.size w W8) := HB7.out.trans (hb.mono HB7.out.size)
  clear hb HB7 QF QT
  go_wp2_with fail
  refine (awake W8).mono ?_
  rintro e w' ⟨rfl, hb2⟩
  go_wp2
  go_ret
  exact ⟨rfl, HB8.out.trans (hb2.mono HB8.out.size)⟩

set_option maxHeartbeats 4000000 in
set_option maxRecDepth 100000 in
theorem spans_g (w : World) {pf pt pp pk : Option Addr} {cf ct cp ck : Nat} {f t p k : List UInt8} (hf : IsB w pf cf f) (ht : IsB w pt ct t) (hp : IsB w pp cp p) (hk : IsB w pk ck k)
    (hsb : smallB [(pf, f.length, cf), (pt, t.length, ct), (pp, p.length, cp), (pk, k.length, ck)] = true) (e1 : lessB k f = false) (e2 : lessB k t = false) (e3 : lessB f t = true) :
    Calls Try.prog 7 #[.agg #[.slice pf f.length cf, .slice pt t.length ct, .bool true], .slice pp p.length cp, .slice pk k.length ck] w fun e w' => e = .returned (.bool true) ∧ Below w.heap.size w w' := by
  have hin : inB f t true k = false := by unfold inB; rw [e1]; rw [e2]; rfl
  have hvo : voidB f t true = false := by unfold voidB; rw [e3]; rfl
  have E1 := Lib.hid e1
  have E2 := Lib.hid e2
  have E3 := Lib.hid e3
  have hh := (has_in f t true k).trans hin
  have he := (empty_void f t true).trans hvo
  have hff := (has_in f t true f).trans (in_from f t true hvo)
  have HFF := Lib.hid hff
  have HH := Lib.hid hh
  have HE := Lib.hid he
  obtain ⟨z3, z4, z1, z2⟩ := small4 hsb
  have SP0 := Lib.hid (Sp.begin_ (cl := true) hf ht hp hk 35)
  have hsm := small_lit (w.alloc (.cells #[.slice pf f.length cf, .slice pt t.length ct, .bool true] 35)) [(pf, f.length, cf), (pt, t.length, ct), (pp, p.length, cp), (pk, k.length, ck)] (by simp)
  rw [World.size_alloc] at hsm
  have HS := Lib.hid hsm
  have HSB := Lib.hid hsb
  clear hsm hsb hin hvo hh he hf ht hp hk e1 e2 e3 hff
  go_enter Try.func7, Try.ntmps7
  go_wp2_with fail
  refine HS.out.mono ?_
  rintro e W ⟨hev, hb⟩
  rw [HSB.out] at hev
  subst hev
  have SP := Lib.hid (SP0.out.below (by rw [World.size_alloc]; exact hb))
  have HB : Hid (Below w.heap.size w W) := ((Below.refl _ w).alloc (Nat.le_refl _) _).trans (hb.mono (by omega))
  clear hb HS HSB SP0
  have c0 := SP.out.span.c0
  have c1 := SP.out.span.c1
  have c2 := SP.out.span.c2
  have kf := fun n => SP.out.f.convN (P := Try.prog) Try.underlying22 Try.underlying5 Try.underlying9 n
  have kt := fun n => SP.out.t.convN (P := Try.prog) Try.underlying22 Try.underlying5 Try.underlying9 n
  have kp := fun n => SP.out.p.convN (P := Try.prog) Try.underlying22 Try.underlying5 Try.underlying9 n
  have kk := fun n => SP.out.k.convN (P := Try.prog) Try.underlying22 Try.underlying5 Try.underlying9 n
  have kf0 := SP.out.f.convert (P := Try.prog) Try.underlying22 Try.underlying5 Try.underlying9
  have kt0 := SP.out.t.convert (P := Try.prog) Try.underlying22 Try.underlying5 Try.underlying9
  have kp0 := SP.out.p.convert (P := Try.prog) Try.underlying22 Try.underlying5 Try.underlying9
  have kk0 := SP.out.k.convert (P := Try.prog) Try.underlying22 Try.underlying5 Try.underlying9
  go_wp2_with fail
  refine (refLess _ _ _ (by rw [str_size]; omega) (by rw [str_size]; omega)).mono ?_
  rintro e w' ⟨hev, n1, rfl⟩
  rw [str_data, str_data, E1.out] at hev
  subst hev
  go_wp2_with fail
  refine (refLess _ _ _ (by rw [str_size]; omega) (by rw [str_size]; omega)).mono ?_
  rintro e w' ⟨hev, n2, rfl⟩
  rw [str_data, str_data, E2.out] at hev
  subst hev
  go_wp2_with fail
  refine (refLess _ _ _ (by rw [str_size]; omega) (by rw [str_size]; omega)).mono ?_
  rintro e w' ⟨hev, n3, rfl⟩
  rw [str_data, str_data, E3.out] at hev
  subst hev
  have SPD := SP.out.drewN (n1+n2+n3)
  have HBD : Below w.heap.size w (W.drewN (n1+n2+n3)) := below_drewN HB.out _
  go_wp2_with fail
  refine (spanHas _ true SPD.f SPD.t SPD.k).mono ?_
  rintro e W1 ⟨hev, hb⟩
  rw [HH.out] at hev
  subst hev
  have SP2 := Lib.hid (SPD.below hb)
  have HB2 : Hid (Below w.heap.size w W1) := HBD.trans (hb.mono HBD.size)
  clear hb SP HB SPD HBD
  clear c0 c1 c2 kf kt kp kk kf0 kt0 kp0 kk0
  have SP := SP2
  have HB := HB2
  clear SP2 HB2
  have c0 := SP.out.span.c0
  have c1 := SP.out.span.c1
  have c2 := SP.out.span.c2
  have kf := fun n => SP.out.f.convN (P := Try.prog) Try.underlying22 Try.underlying5 Try.underlying9 n
  have kt := fun n => SP.out.t.convN (P := Try.prog) Try.underlying22 Try.underlying5 Try.underlying9 n
  have kp := fun n => SP.out.p.convN (P := Try.prog) Try.underlying22 Try.underlying5 Try.underlying9 n
  have kk := fun n => SP.out.k.convN (P := Try.prog) Try.underlying22 Try.underlying5 Try.underlying9 n
  have kf0 := SP.out.f.convert (P := Try.prog) Try.underlying22 Try.underlying5 Try.underlying9
  have kt0 := SP.out.t.convert (P := Try.prog) Try.underlying22 Try.underlying5 Try.underlying9
  have kp0 := SP.out.p.convert (P := Try.prog) Try.underlying22 Try.underlying5 Try.underlying9
  have kk0 := SP.out.k.convert (P := Try.prog) Try.underlying22 Try.underlying5 Try.underlying9
  have SPD := SP.out
  have HBD := HB.out
  go_wp2_with fail
  refine (spanEmpty _ true SPD.f SPD.t).mono ?_
  rintro e W2 ⟨hev, hb⟩
  rw [HE.out] at hev
  subst hev
  have SP2 := Lib.hid (SPD.below hb)
  have HB2 : Hid (Below w.heap.size w W2) := HBD.trans (hb.mono HBD.size)
  clear hb SP HB SPD HBD
  clear c0 c1 c2 kf kt kp kk kf0 kt0 kp0 kk0
  have SP := SP2
  have HB := HB2
  clear SP2 HB2
  have c0 := SP.out.span.c0
  have c1 := SP.out.span.c1
  have c2 := SP.out.span.c2
  have kf := fun n => SP.out.f.convN (P := Try.prog) Try.underlying22 Try.underlying5 Try.underlying9 n
  have kt := fun n => SP.out.t.convN (P := Try.prog) Try.underlying22 Try.underlying5 Try.underlying9 n
  have kp := fun n => SP.out.p.convN (P := Try.prog) Try.underlying22 Try.underlying5 Try.underlying9 n
  have kk := fun n => SP.out.k.convN (P := Try.prog) Try.underlying22 Try.underlying5 Try.underlying9 n
  have kf0 := SP.out.f.convert (P := Try.prog) Try.underlying22 Try.underlying5 Try.underlying9
  have kt0 := SP.out.t.convert (P := Try.prog) Try.underlying22 Try.underlying5 Try.underlying9
  have kp0 := SP.out.p.convert (P := Try.prog) Try.underlying22 Try.underlying5 Try.underlying9
  have kk0 := SP.out.k.convert (P := Try.prog) Try.underlying22 Try.underlying5 Try.underlying9
  have SPD := SP.out
  have HBD := HB.out
  go_wp2_with fail
  refine (spanHas _ true SPD.f SPD.t SPD.f).mono ?_
  rintro e W3 ⟨hev, hb⟩
  rw [HFF.out] at hev
  subst hev
  have SP2 := Lib.hid (SPD.below hb)
  have HB2 : Hid (Below w.heap.size w W3) := HBD.trans (hb.mono HBD.size)
  clear hb SP HB SPD HBD
  clear c0 c1 c2 kf kt kp kk kf0 kt0 kp0 kk0
  have SP := SP2
  have HB := HB2
  clear SP2 HB2
  have c0 := SP.out.span.c0
  have c1 := SP.out.span.c1
  have c2 := SP.out.span.c2
  have kf := fun n => SP.out.f.convN (P := Try.prog) Try.underlying22 Try.underlying5 Try.underlying9 n
  have kt := fun n => SP.out.t.convN (P := Try.prog) Try.underlying22 Try.underlying5 Try.underlying9 n
  have kp := fun n => SP.out.p.convN (P := Try.prog) Try.underlying22 Try.underlying5 Try.underlying9 n
  have kk := fun n => SP.out.k.convN (P := Try.prog) Try.underlying22 Try.underlying5 Try.underlying9 n
  have kf0 := SP.out.f.convert (P := Try.prog) Try.underlying22 Try.underlying5 Try.underlying9
  have kt0 := SP.out.t.convert (P := Try.prog) Try.underlying22 Try.underlying5 Try.underlying9
  have kp0 := SP.out.p.convert (P := Try.prog) Try.underlying22 Try.underlying5 Try.underlying9
  have kk0 := SP.out.k.convert (P := Try.prog) Try.underlying22 Try.underlying5 Try.underlying9
  go_wp2_with fail
  refine (refBegins _ _ _ (by rw [str_size]; omega)).mono ?_
  rintro e w' ⟨hev, m, rfl⟩
  rw [str_data, str_data] at hev
  subst hev
  go_wp2_with fail
  refine (keysBegins _ (SP.out.k.drewN m) (SP.out.p.drewN m)).mono ?_
  rintro e w' ⟨rfl, rfl⟩
  go_wp2_with fail
  refine (keysOf _ (SP.out.p.drewN m) (by omega)).mono ?_
  rintro e W5 ⟨qf, qt, df, dt, rfl, hqf, hqt, hb⟩
  have SP5 := Lib.hid ((SP.out.drewN m).below hb)
  have HB5 : Hid (Below w.heap.size w W5) := (below_drewN HB.out m).trans (hb.mono HB.out.size)
  have QF := Lib.hid hqf
  have QT := Lib.hid hqt
  clear hb hqf hqt SP HB
  clear c0 c1 c2 kf kt kp kk kf0 kt0 kp0 kk0
  go_wp2_with fail
  refine (spanHas _ _ QF.out QT.out SP5.out.k).mono ?_
  rintro e W6 ⟨hev, hb⟩
  rw [of_has] at hev
  subst hev
  have SP6 := Lib.hid (SP5.out.below hb)
  have HB6 : Hid (Below w.heap.size w W6) := HB5.out.trans (hb.mono HB5.out.size)
  clear hb SP5 HB5 QF QT
  go_wp2_with fail
  refine (keysOf _ SP6.out.p (by omega)).mono ?_
  rintro e W7 ⟨qf, qt, df, dt, rfl, hqf, hqt, hb⟩
  have HB7 : Hid (Below w.heap.size w W7) := HB6.out.trans (hb.mono HB6.out.size)
  have QF := Lib.hid hqf
  have QT := Lib.hid hqt
  clear hb hqf hqt SP6 HB6
  go_wp2_with fail
  refine (spanEmpty _ _ QF.out QT.out).mono ?_
  rintro e W8 ⟨hev, hb⟩
  rw [of_empty] at hev
  subst hev
  have HB8 : Hid (Below w.heap.size w W8) := HB7.out.trans (hb.mono HB7.out.size)
  clear hb HB7 QF QT
  go_wp2_with fail
  refine (awake W8).mono ?_
  rintro e w' ⟨rfl, hb2⟩
  go_wp2
  go_ret
  exact ⟨rfl, HB8.out.trans (hb2.mono HB8.out.size)⟩

set_option maxHeartbeats 4000000 in
set_option maxRecDepth 100000 in
theorem spans_h (w : World) {pf pt pp pk : Option Addr} {cf ct cp ck : Nat} {f t p k : List UInt8} (hf : IsB w pf cf f) (ht : IsB w pt ct t) (hp : IsB w pp cp p) (hk : IsB w pk ck k)
    (hsb : smallB [(pf, f.length, cf), (pt, t.length, ct), (pp, p.length, cp), (pk, k.length, ck)] = true) (e1 : lessB k f = false) (e2 : lessB k t = false) (e3 : lessB f t = false) :
    Calls Try.prog 7 #[.agg #[.slice pf f.length cf, .slice pt t.length ct, .bool true], .slice pp p.length cp, .slice pk k.length ck] w fun e w' => e = .returned (.bool true) ∧ Below w.heap.size w w' := by
  have hin : inB f t true k = false := by unfold inB; rw [e1]; rw [e2]; rfl
  have hvo : voidB f t true = true := by unfold voidB; rw [e3]; rfl
  have E1 := Lib.hid e1
  have E2 := Lib.hid e2
  have E3 := Lib.hid e3
  have hh := (has_in f t true k).trans hin
  have he := (empty_void f t true).trans hvo
  have HH := Lib.hid hh
  have HE := Lib.hid he
  obtain ⟨z3, z4, z1, z2⟩ := small4 hsb
  have SP0 := Lib.hid (Sp.begin_ (cl := true) hf ht hp hk 35)
  have hsm := small_lit (w.alloc (.cells #[.slice pf f.length cf, .slice pt t.length ct, .bool true] 35)) [(pf, f.length, cf), (pt, t.length, ct), (pp, p.length, cp), (pk, k.length, ck)] (by simp)
  rw [World.size_alloc] at hsm
  have HS := Lib.hid hsm
  have HSB := Lib.hid hsb
  clear hsm hsb hin hvo hh he hf ht hp hk e1 e2 e3
  go_enter Try.func7, Try.ntmps7
  go_wp2_with fail
  refine HS.out.mono ?_
  rintro e W ⟨hev, hb⟩
  rw [HSB.out] at hev
  subst hev
  have SP := Lib.hid (SP0.out.below (by rw [World.size_alloc]; exact hb))
  have HB : Hid (Below w.heap.size w W) := ((Below.refl _ w).alloc (Nat.le_refl _) _).trans (hb.mono (by omega))
  clear hb HS HSB SP0
  have c0 := SP.out.span.c0
  have c1 := SP.out.span.c1
  have c2 := SP.out.span.c2
  have kf := fun n => SP.out.f.convN (P := Try.prog) Try.underlying22 Try.underlying5 Try.underlying9 n
  have kt := fun n => SP.out.t.convN (P := Try.prog) Try.underlying22 Try.underlying5 Try.underlying9 n
  have kp := fun n => SP.out.p.convN (P := Try.prog) Try.underlying22 Try.underlying5 Try.underlying9 n
  have kk := fun n => SP.out.k.convN (P := Try.prog) Try.underlying22 Try.underlying5 Try.underlying9 n
  have kf0 := SP.out.f.convert (P := Try.prog) Try.underlying22 Try.underlying5 Try.underlying9
  have kt0 := SP.out.t.convert (P := Try.prog) Try.underlying22 Try.underlying5 Try.underlying9
  have kp0 := SP.out.p.convert (P := Try.prog) Try.underlying22 Try.underlying5 Try.underlying9
  have kk0 := SP.out.k.convert (P := Try.prog) Try.underlying22 Try.underlying5 Try.underlying9
  go_wp2_with fail
  refine (refLess _ _ _ (by rw [str_size]; omega) (by rw [str_size]; omega)).mono ?_
  rintro e w' ⟨hev, n1, rfl⟩
  rw [str_data, str_data, E1.out] at hev
  subst hev
  go_wp2_with fail
  refine (refLess _ _ _ (by rw [str_size]; omega) (by rw [str_size]; omega)).mono ?_
  rintro e w' ⟨hev, n2, rfl⟩
  rw [str_data, str_data, E2.out] at hev
  subst hev
  go_wp2_with fail
  refine (refLess _ _ _ (by rw [str_size]; omega) (by rw [str_size]; omega)).mono ?_
  rintro e w' ⟨hev, n3, rfl⟩
  rw [str_data, str_data, E3.out] at hev
  subst hev
  have SPD := SP.out.drewN (n1+n2+n3)
  have HBD : Below w.heap.size w (W.drewN (n1+n2+n3)) := below_drewN HB.out _
  go_wp2_with fail
  refine (spanHas _ true SPD.f SPD.t SPD.k).mono ?_
  rintro e W1 ⟨hev, hb⟩
  rw [HH.out] at hev
  subst hev
  have SP2 := Lib.hid (SPD.below hb)
  have HB2 : Hid (Below w.heap.size w W1) := HBD.trans (hb.mono HBD.size)
  clear hb SP HB SPD HBD
  clear c0 c1 c2 kf kt kp kk kf0 kt0 kp0 kk0
  have SP := SP2
  have HB := HB2
  clear SP2 HB2
  have c0 := SP.out.span.c0
  have c1 := SP.out.span.c1
  have c2 := SP.out.span.c2
  have kf := fun n => SP.out.f.convN (P := Try.prog) Try.underlying22 Try.underlying5 Try.underlying9 n
  have kt := fun n => SP.out.t.convN (P := Try.prog) Try.underlying22 Try.underlying5 Try.underlying9 n
  have kp := fun n => SP.out.p.convN (P := Try.prog) Try.underlying22 Try.underlying5 Try.underlying9 n
  have kk := fun n => SP.out.k.convN (P := Try.prog) Try.underlying22 Try.underlying5 Try.underlying9 n
  have kf0 := SP.out.f.convert (P := Try.prog) Try.underlying22 Try.underlying5 Try.underlying9
  have kt0 := SP.out.t.convert (P := Try.prog) Try.underlying22 Try.underlying5 Try.underlying9
  have kp0 := SP.out.p.convert (P := Try.prog) Try.underlying22 Try.underlying5 Try.underlying9
  have kk0 := SP.out.k.convert (P := Try.prog) Try.underlying22 Try.underlying5 Try.underlying9
  have SPD := SP.out
  have HBD := HB.out
  go_wp2_with fail
  refine (spanEmpty _ true SPD.f SPD.t).mono ?_
  rintro e W2 ⟨hev, hb⟩
  rw [HE.out] at hev
  subst hev
  have SP2 := Lib.hid (SPD.below hb)
  have HB2 : Hid (Below w.heap.size w W2) := HBD.trans (hb.mono HBD.size)
  clear hb SP HB SPD HBD
  clear c0 c1 c2 kf kt kp kk kf0 kt0 kp0 kk0
  have SP := SP2
  have HB := HB2
  clear SP2 HB2
  have c0 := SP.out.span.c0
  have c1 := SP.out.span.c1
  have c2 := SP.out.span.c2
  have kf := fun n => SP.out.f.convN (P := Try.prog) Try.underlying22 Try.underlying5 Try.underlying9 n
  have kt := fun n => SP.out.t.convN (P := Try.prog) Try.underlying22 Try.underlying5 Try.underlying9 n
  have kp := fun n => SP.out.p.convN (P := Try.prog) Try.underlying22 Try.underlying5 Try.underlying9 n
  have kk := fun n => SP.out.k.convN (P := Try.prog) Try.underlying22 Try.underlying5 Try.underlying9 n
  have kf0 := SP.out.f.convert (P := Try.prog) Try.underlying22 Try.underlying5 Try.underlying9
  have kt0 := SP.out.t.convert (P := Try.prog) Try.underlying22 Try.underlying5 Try.underlying9
  have kp0 := SP.out.p.convert (P := Try.prog) Try.underlying22 Try.underlying5 Try.underlying9
  have kk0 := SP.out.k.convert (P := Try.prog) Try.underlying22 Try.underlying5 Try.underlying9
  go_wp2_with fail
  refine (refBegins _ _ _ (by rw [str_size]; omega)).mono ?_
  rintro e w' ⟨hev, m, rfl⟩
  rw [str_data, str_data] at hev
  subst hev
  go_wp2_with fail
  refine (keysBegins _ (SP.out.k.drewN m) (SP.out.p.drewN m)).mono ?_
  rintro e w' ⟨rfl, rfl⟩
  go_wp2_with fail
  refine (keysOf _ (SP.out.p.drewN m) (by omega)).mono ?_
  rintro e W5 ⟨qf, qt, df, dt, rfl, hqf, hqt, hb⟩
  have SP5 := Lib.hid ((SP.out.drewN m).below hb)
  have HB5 : Hid (Below w.heap.size w W5) := (below_drewN HB.out m).trans (hb.mono HB.out.size)
  have QF := Lib.hid hqf
  have QT := Lib.hid hqt
  clear hb hqf hqt SP HB
  clear c0 c1 c2 kf kt kp kk kf0 kt0 kp0 kk0
  go_wp2_with fail
  refine (spanHas _ _ QF.out QT.out SP5.out.k).mono ?_
  rintro e W6 ⟨hev, hb⟩
  rw [of_has] at hev
  subst hev
  have SP6 := Lib.hid (SP5.out.below hb)
  have HB6 : Hid (Below w.heap.size w W6) := HB5.out.trans (hb.mono HB5.out.size)
  clear hb SP5 HB5 QF QT
  go_wp2_with fail
  refine (keysOf _ SP6.out.p (by omega)).mono ?_
  rintro e W7 ⟨qf, qt, df, dt, rfl, hqf, hqt, hb⟩
  have HB7 : Hid (Below w.heap.size w W7) := HB6.out.trans (hb.mono HB6.out.size)
  have QF := Lib.hid hqf
  have QT := Lib.hid hqt
  clear hb hqf hqt SP6 HB6
  go_wp2_with fail
  refine (spanEmpty _ _ QF.out QT.out).mono ?_
  rintro e W8 ⟨hev, hb⟩
  rw [of_empty] at hev
  subst hev
  have HB8 : Hid (Below w.heap.size w W8) := HB7.out.trans (hb.mono HB7.out.size)
  clear hb HB7 QF QT
  go_wp2_with fail
  refine (awake W8).mono ?_
  rintro e w' ⟨rfl, hb2⟩
  go_wp2
  go_ret
  exact ⟨rfl, HB8.out.trans (hb2.mono HB8.out.size)⟩

end Go.Proofs.Ytnbjnioolcbmiaa
