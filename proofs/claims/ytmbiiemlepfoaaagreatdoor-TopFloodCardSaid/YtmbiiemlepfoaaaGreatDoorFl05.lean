/- The walks of turnLeft, turnRight: two turns. (gen_turn.py wrote these lines out for both sides.) The walks of even. A meter that may be nil; what grows beside it. The walks of sip Take, End. The walk of word.Low. -/
import Derived.Test.YtmbiiemlepfoaaaGreatDoorFl04
import Derived.Test.YtmbiiemlepfoaaaGreatDoorFl03

namespace Go.Proofs.YtmbiiemlepfoaaaGreatDoor
open Go.RowKit
set_option linter.unusedVariables false
set_option maxHeartbeats 2000000 in
set_option maxRecDepth 100000 in
theorem treeLeft2 (w : World) (D : Nat → Prop) (hD : ∀ k, w.heap.size ≤ k → D k) {lp rp kp vp : Option Addr} {kc vc : Nat} {l a b o : T} {k v k2 v2 k3 v3 : List UInt8} (hl : TreeAt w D lp l) (hr : TreeAt w D rp (.node (.node a k3 v3 b) k2 v2 o)) (hk : IsD w D kp kc k) (hv : IsD w D vp vc v)
    (hsz : l.size + 1 + (a.size + 1 + b.size + 1 + o.size) ≤ 1048576) (hs : singleB l.size (T.node a k3 v3 b).size o.size = false) (hdb : doubleB l.size a.size b.size o.size = true) :
    Calls Tryz.prog 116 #[.pointer lp, pairV kp kc k vp vc v, .pointer rp] w fun e w' => ∃ p, e = .returned (.pointer p) ∧ TreeAt w' D p (.node (.node l k v a) k3 v3 (.node b k2 v2 o)) ∧ Below w.heap.size w w' := by
  obtain ⟨hb, kp2, kc2, vp2, vc2, ip, op, rfl, hdr, hrow, hk2, hv2, hi, ho⟩ := hr
  have hi' := hi
  obtain ⟨ib, kp3, kc3, vp3, vc3, ap, bp, rfl, hdi, irow, hk3, hv3, ha, hbb⟩ := hi
  obtain ⟨W2, hW2⟩ : ∃ x, x = w.alloc (.cells #[.slice kp k.length kc, .slice vp v.length vc] 61) := ⟨_, rfl⟩
  have hz : W2.heap.size = w.heap.size + 1 := by rw [hW2]; simp
  have hB : Below w.heap.size w W2 := by rw [hW2]; exact (Below.refl _ w).alloc (Nat.le_refl _) _
  have r0 : W2.heap[w.heap.size]? = some (.cells #[.slice kp k.length kc, .slice vp v.length vc] 61) := by rw [hW2]; exact heap_alloc_new _ _
  have hrl := row_ltT hrow
  have hil := row_ltT irow
  have r1 := (hB.block hb hrl).trans hrow
  have r2 := (hB.block ib hil).trans irow
  have HC := Lib.hid (show ∀ w', Below W2.heap.size W2 w' → (w'.cell? ⟨w.heap.size, 0, none⟩ = some (.slice kp k.length kc) ∧ w'.cell? ⟨w.heap.size, 1, none⟩ = some (.slice vp v.length vc) ∧ w'.cell? ⟨hb, 0, none⟩ = some (.slice kp2 k2.length kc2) ∧ w'.cell? ⟨hb, 1, none⟩ = some (.slice vp2 v2.length vc2) ∧ w'.cell? ⟨ib, 0, none⟩ = some (.slice kp3 k3.length kc3) ∧ w'.cell? ⟨ib, 1, none⟩ = some (.slice vp3 v3.length vc3) ∧ w'.cell? ⟨ib, 2, none⟩ = some (.pointer ap) ∧ w'.cell? ⟨ib, 3, none⟩ = some (.pointer bp)) from fun w' hb0 => by
    have r0' := (hb0.block w.heap.size (by omega)).trans r0
    have r1' := (hb0.block hb (by omega)).trans r1
    have r2' := (hb0.block ib (by omega)).trans r2
    exact ⟨cell_of_row w' _ 0 _ _ (0, 0) r0', cell_of_row w' _ 1 _ _ (0, 0) r0', cell_of_row w' _ 0 _ _ (0, 0) r1', cell_of_row w' _ 1 _ _ (0, 0) r1', cell_of_row w' _ 0 _ _ (0, 0) r2', cell_of_row w' _ 1 _ _ (0, 0) r2', cell_of_row w' _ 2 _ _ (0, 0) r2', cell_of_row w' _ 3 _ _ (0, 0) r2'⟩)
  have d2 : W2.cell? ⟨hb, 2, none⟩ = some (.pointer (some ⟨ib, 0, none⟩)) := cell_of_row W2 _ 2 _ _ (0, 0) r1
  have d3 : W2.cell? ⟨hb, 3, none⟩ = some (.pointer op) := cell_of_row W2 _ 3 _ _ (0, 0) r1
  have up : ∀ w', Below W2.heap.size W2 w' → Below w.heap.size w w' := fun w' hb0 => hB.trans (hb0.mono (by omega))
  have hD' : ∀ w', Below W2.heap.size W2 w' → ∀ j, w'.heap.size ≤ j → D j := fun w' hb0 j hj => hD j (by have := (up w' hb0).size; omega)
  have C1 := Lib.hid (show ∀ w', Below W2.heap.size W2 w' → Calls Tryz.prog 115 #[.pointer lp, pairV kp kc k vp vc v, .pointer ap] w' _ from fun w' hb0 => treeNode w' D (hD' w' hb0) (hl.below (up w' hb0)) (ha.below (up w' hb0)) (hk.below (up w' hb0)) (hv.below (up w' hb0)) (by omega))
  have C2 := Lib.hid (show ∀ w', Below W2.heap.size W2 w' → Calls Tryz.prog 115 #[.pointer bp, pairV kp2 kc2 k2 vp2 vc2 v2, .pointer op] w' _ from fun w' hb0 => treeNode w' D (hD' w' hb0) (hbb.below (up w' hb0)) (ho.below (up w' hb0)) (hk2.below (up w' hb0)) (hv2.below (up w' hb0)) (by omega))
  have C3 := Lib.hid (show ∀ w' p q, Below W2.heap.size W2 w' → TreeAt w' D p (.node l k v a) → TreeAt w' D q (.node b k2 v2 o) → Calls Tryz.prog 115 #[.pointer p, pairV kp3 kc3 k3 vp3 vc3 v3, .pointer q] w' _ from fun w' p q hb0 ht ht' => treeNode w' D (hD' w' hb0) ht ht' (hk3.below (up w' hb0)) (hv3.below (up w' hb0)) (by simp only [T.size_node]; omega))
  have Z1 := Lib.hid (show ∀ w', Below W2.heap.size W2 w' → Calls Tryz.prog 64 #[.pointer lp] w' _ from fun w' hb0 => treeSize w' (hl.below (up w' hb0)))
  have Z2 := Lib.hid (show ∀ w', Below W2.heap.size W2 w' → Calls Tryz.prog 64 #[.pointer ap] w' _ from fun w' hb0 => treeSize w' (ha.below (up w' hb0)))
  have Z3 := Lib.hid (show ∀ w', Below W2.heap.size W2 w' → Calls Tryz.prog 64 #[.pointer bp] w' _ from fun w' hb0 => treeSize w' (hbb.below (up w' hb0)))
  have Z4 := Lib.hid (show ∀ w', Below W2.heap.size W2 w' → Calls Tryz.prog 64 #[.pointer op] w' _ from fun w' hb0 => treeSize w' (ho.below (up w' hb0)))
  have Z5 := Lib.hid (show ∀ w', Below W2.heap.size W2 w' → Calls Tryz.prog 64 #[.pointer (some ⟨ib, 0, none⟩)] w' _ from fun w' hb0 => treeSize w' (hi'.below (up w' hb0)))
  have cs := fun w => weighSingle w l.size (T.node a k3 v3 b).size o.size (by omega) (by rw [T.size_node]; omega) (by omega)
  rw [hs] at cs
  simp only [doubleB, Bool.and_eq_true] at hdb
  have e1 := fun w => evenZ w l.size a.size (by omega) (by omega)
  have e2 := fun w => evenZ w b.size o.size (by omega) (by omega)
  have e3 := fun w => evenZ w (l.size + 1 + a.size) (b.size + 1 + o.size) (by omega) (by omega)
  rw [hdb.1.1] at e1
  rw [hdb.1.2] at e2
  rw [hdb.2] at e3
  have CS := Lib.hid cs
  have E1 := Lib.hid e1
  have E2 := Lib.hid e2
  have E3 := Lib.hid e3
  have UP := Lib.hid up
  have w1 : IntKind.i64.wrap ((l.size : Int) + 1) = (l.size : Int) + 1 := IntWalk.i64_in _ (by omega)
  have w2 : IntKind.i64.wrap ((l.size : Int) + 1 + (a.size : Int)) = (l.size : Int) + 1 + (a.size : Int) := IntWalk.i64_in _ (by omega)
  have w3 : IntKind.i64.wrap ((b.size : Int) + 1) = (b.size : Int) + 1 := IntWalk.i64_in _ (by omega)
  have w4 : IntKind.i64.wrap ((b.size : Int) + 1 + (o.size : Int)) = (b.size : Int) + 1 + (o.size : Int) := IntWalk.i64_in _ (by omega)
  clear hl hk hv hk2 hv2 hk3 hv3 ha hbb hi' ho up hD' hrow irow r0 r1 r2 hB hD cs e1 e2 e3 hz hs hdb
  go_enter Tryz.func116, Tryz.ntmps116
  go_wp2_with fail
  rw [← hW2]
  clear hW2
  go_quiet (fail)
  have hq0 := below_drewN W2.heap.size W2 nq
  go_wp2_with first | (go_at_call 64; first | (((with_reducible refine (Z1.out _ hq0).mono ?_)); rintro e w1 ⟨rfl, rfl⟩) | (((with_reducible refine (Z4.out _ hq0).mono ?_)); rintro e w1 ⟨rfl, rfl⟩) | (((with_reducible refine (Z5.out _ hq0).mono ?_)); rintro e w1 ⟨rfl, rfl⟩) | fail) | (go_at_call 190; ((with_reducible refine (CS.out _).mono ?_)); rintro e w1 ⟨rfl, rfl⟩)
  obtain ⟨W3, hW3⟩ : ∃ x, x = W2.drewN nq := ⟨_, rfl⟩
  rw [← hW3] at hq0 ⊢
  clear hW3 d2 d3
  obtain ⟨f0, f1, f2, f3, f4, f5, f6, f7⟩ := HC.out _ hq0
  have hq1 : ∀ n, Below W2.heap.size W2 (W3.drewN n) := fun n => below_step hq0 (below_drewN _ _ _)
  go_quiet (first | (go_at_call 64; first | with_reducible exact quiet_left (Z1.out _ (hq1 _)) | with_reducible exact quiet_left (Z2.out _ (hq1 _)) | with_reducible exact quiet_left (Z3.out _ (hq1 _)) | with_reducible exact quiet_left (Z4.out _ (hq1 _)) | fail) | (go_at_call 114; first | with_reducible exact quiet_left (E1.out _ _ _ rfl rfl) | with_reducible exact quiet_left (E2.out _ _ _ rfl rfl) | with_reducible exact quiet_left (E3.out _ _ _ (by push_cast; rfl) (by push_cast; rfl)) | fail) | fail)
  clear w1 w2 w3 w4 f0 f1 f2 f3 f4 f5 f6 f7
  go_wp2_with fail
  have hB1 := hq1 (nq + 1)
  clear hq1
  go_region_held3 (fun w' => w'.cell? ⟨w.heap.size, 0, none⟩ = some (.slice kp k.length kc) ∧ w'.cell? ⟨w.heap.size, 1, none⟩ = some (.slice vp v.length vc) ∧ w'.cell? ⟨hb, 0, none⟩ = some (.slice kp2 k2.length kc2) ∧ w'.cell? ⟨hb, 1, none⟩ = some (.slice vp2 v2.length vc2) ∧ w'.cell? ⟨ib, 0, none⟩ = some (.slice kp3 k3.length kc3) ∧ w'.cell? ⟨ib, 1, none⟩ = some (.slice vp3 v3.length vc3) ∧ w'.cell? ⟨ib, 2, none⟩ = some (.pointer ap) ∧ w'.cell? ⟨ib, 3, none⟩ = some (.pointer bp))
    (first | exact HC.out _ (by assumption) | fail)
    (first | (go_at_call 115; first | (((with_reducible refine (C1.out _ (by assumption)).mono ?_)); rintro e w2 ⟨p2, rfl, ht2, hb2⟩; have hB2 := below_step (W := W2) (by assumption) hb2; have HT2 := Lib.hid ht2; clear ht2) | (((with_reducible refine (C2.out _ (by assumption)).mono ?_)); rintro e w3 ⟨p3, rfl, ht3, hb3⟩; have hB3 := below_step (W := W2) (by assumption) hb3; have HT3 := Lib.hid ht3; clear ht3) | (((with_reducible refine (C3.out _ p2 p3 hB3 (HT2.out.below hb3) HT3.out).mono ?_)); rintro e w4 ⟨p4, rfl, ht4, hb4⟩; have hB4 := below_step hB3 hb4; have HT4 := Lib.hid ht4; clear ht4 hb4) | (((with_reducible refine (C3.out _ p2 p3 hB2 HT2.out (HT3.out.below hb2)).mono ?_)); rintro e w4 ⟨p4, rfl, ht4, hb4⟩; have hB4 := below_step hB2 hb4; have HT4 := Lib.hid ht4; clear ht4 hb4) | fail) | fail)
  all_goals
    go_wp2
    go_ret
    exact ⟨_, rfl, HT4.out, UP.out _ hB4⟩
set_option maxHeartbeats 2000000 in
set_option maxRecDepth 100000 in
theorem treeRight2 (w : World) (D : Nat → Prop) (hD : ∀ k, w.heap.size ≤ k → D k) {lp rp kp vp : Option Addr} {kc vc : Nat} {r a b o : T} {k v k2 v2 k3 v3 : List UInt8} (hl : TreeAt w D lp (.node o k2 v2 (.node a k3 v3 b))) (hr : TreeAt w D rp r) (hk : IsD w D kp kc k) (hv : IsD w D vp vc v)
    (hsz : r.size + 1 + (a.size + 1 + b.size + 1 + o.size) ≤ 1048576) (hs : singleB r.size (T.node a k3 v3 b).size o.size = false) (hdb : doubleB r.size b.size a.size o.size = true) :
    Calls Tryz.prog 117 #[.pointer lp, pairV kp kc k vp vc v, .pointer rp] w fun e w' => ∃ p, e = .returned (.pointer p) ∧ TreeAt w' D p (.node (.node o k2 v2 a) k3 v3 (.node b k v r)) ∧ Below w.heap.size w w' := by
  obtain ⟨hb, kp2, kc2, vp2, vc2, op, ip, rfl, hdr, hrow, hk2, hv2, ho, hi⟩ := hl
  have hi' := hi
  obtain ⟨ib, kp3, kc3, vp3, vc3, ap, bp, rfl, hdi, irow, hk3, hv3, ha, hbb⟩ := hi
  obtain ⟨W2, hW2⟩ : ∃ x, x = w.alloc (.cells #[.slice kp k.length kc, .slice vp v.length vc] 61) := ⟨_, rfl⟩
  have hz : W2.heap.size = w.heap.size + 1 := by rw [hW2]; simp
  have hB : Below w.heap.size w W2 := by rw [hW2]; exact (Below.refl _ w).alloc (Nat.le_refl _) _
  have r0 : W2.heap[w.heap.size]? = some (.cells #[.slice kp k.length kc, .slice vp v.length vc] 61) := by rw [hW2]; exact heap_alloc_new _ _
  have hrl := row_ltT hrow
  have hil := row_ltT irow
  have r1 := (hB.block hb hrl).trans hrow
  have r2 := (hB.block ib hil).trans irow
  have HC := Lib.hid (show ∀ w', Below W2.heap.size W2 w' → (w'.cell? ⟨w.heap.size, 0, none⟩ = some (.slice kp k.length kc) ∧ w'.cell? ⟨w.heap.size, 1, none⟩ = some (.slice vp v.length vc) ∧ w'.cell? ⟨hb, 0, none⟩ = some (.slice kp2 k2.length kc2) ∧ w'.cell? ⟨hb, 1, none⟩ = some (.slice vp2 v2.length vc2) ∧ w'.cell? ⟨ib, 0, none⟩ = some (.slice kp3 k3.length kc3) ∧ w'.cell? ⟨ib, 1, none⟩ = some (.slice vp3 v3.length vc3) ∧ w'.cell? ⟨ib, 2, none⟩ = some (.pointer ap) ∧ w'.cell? ⟨ib, 3, none⟩ = some (.pointer bp)) from fun w' hb0 => by
    have r0' := (hb0.block w.heap.size (by omega)).trans r0
    have r1' := (hb0.block hb (by omega)).trans r1
    have r2' := (hb0.block ib (by omega)).trans r2
    exact ⟨cell_of_row w' _ 0 _ _ (0, 0) r0', cell_of_row w' _ 1 _ _ (0, 0) r0', cell_of_row w' _ 0 _ _ (0, 0) r1', cell_of_row w' _ 1 _ _ (0, 0) r1', cell_of_row w' _ 0 _ _ (0, 0) r2', cell_of_row w' _ 1 _ _ (0, 0) r2', cell_of_row w' _ 2 _ _ (0, 0) r2', cell_of_row w' _ 3 _ _ (0, 0) r2'⟩)
  have d2 : W2.cell? ⟨hb, 2, none⟩ = some (.pointer op) := cell_of_row W2 _ 2 _ _ (0, 0) r1
  have d3 : W2.cell? ⟨hb, 3, none⟩ = some (.pointer (some ⟨ib, 0, none⟩)) := cell_of_row W2 _ 3 _ _ (0, 0) r1
  have up : ∀ w', Below W2.heap.size W2 w' → Below w.heap.size w w' := fun w' hb0 => hB.trans (hb0.mono (by omega))
  have hD' : ∀ w', Below W2.heap.size W2 w' → ∀ j, w'.heap.size ≤ j → D j := fun w' hb0 j hj => hD j (by have := (up w' hb0).size; omega)
  have C1 := Lib.hid (show ∀ w', Below W2.heap.size W2 w' → Calls Tryz.prog 115 #[.pointer op, pairV kp2 kc2 k2 vp2 vc2 v2, .pointer ap] w' _ from fun w' hb0 => treeNode w' D (hD' w' hb0) (ho.below (up w' hb0)) (ha.below (up w' hb0)) (hk2.below (up w' hb0)) (hv2.below (up w' hb0)) (by omega))
  have C2 := Lib.hid (show ∀ w', Below W2.heap.size W2 w' → Calls Tryz.prog 115 #[.pointer bp, pairV kp kc k vp vc v, .pointer rp] w' _ from fun w' hb0 => treeNode w' D (hD' w' hb0) (hbb.below (up w' hb0)) (hr.below (up w' hb0)) (hk.below (up w' hb0)) (hv.below (up w' hb0)) (by omega))
  have C3 := Lib.hid (show ∀ w' p q, Below W2.heap.size W2 w' → TreeAt w' D p (.node o k2 v2 a) → TreeAt w' D q (.node b k v r) → Calls Tryz.prog 115 #[.pointer p, pairV kp3 kc3 k3 vp3 vc3 v3, .pointer q] w' _ from fun w' p q hb0 ht ht' => treeNode w' D (hD' w' hb0) ht ht' (hk3.below (up w' hb0)) (hv3.below (up w' hb0)) (by simp only [T.size_node]; omega))
  have Z1 := Lib.hid (show ∀ w', Below W2.heap.size W2 w' → Calls Tryz.prog 64 #[.pointer rp] w' _ from fun w' hb0 => treeSize w' (hr.below (up w' hb0)))
  have Z2 := Lib.hid (show ∀ w', Below W2.heap.size W2 w' → Calls Tryz.prog 64 #[.pointer ap] w' _ from fun w' hb0 => treeSize w' (ha.below (up w' hb0)))
  have Z3 := Lib.hid (show ∀ w', Below W2.heap.size W2 w' → Calls Tryz.prog 64 #[.pointer bp] w' _ from fun w' hb0 => treeSize w' (hbb.below (up w' hb0)))
  have Z4 := Lib.hid (show ∀ w', Below W2.heap.size W2 w' → Calls Tryz.prog 64 #[.pointer op] w' _ from fun w' hb0 => treeSize w' (ho.below (up w' hb0)))
  have Z5 := Lib.hid (show ∀ w', Below W2.heap.size W2 w' → Calls Tryz.prog 64 #[.pointer (some ⟨ib, 0, none⟩)] w' _ from fun w' hb0 => treeSize w' (hi'.below (up w' hb0)))
  have cs := fun w => weighSingle w r.size (T.node a k3 v3 b).size o.size (by omega) (by rw [T.size_node]; omega) (by omega)
  rw [hs] at cs
  simp only [doubleB, Bool.and_eq_true] at hdb
  have e1 := fun w => evenZ w r.size b.size (by omega) (by omega)
  have e2 := fun w => evenZ w a.size o.size (by omega) (by omega)
  have e3 := fun w => evenZ w (r.size + 1 + b.size) (a.size + 1 + o.size) (by omega) (by omega)
  rw [hdb.1.1] at e1
  rw [hdb.1.2] at e2
  rw [hdb.2] at e3
  have CS := Lib.hid cs
  have E1 := Lib.hid e1
  have E2 := Lib.hid e2
  have E3 := Lib.hid e3
  have UP := Lib.hid up
  have w1 : IntKind.i64.wrap ((r.size : Int) + 1) = (r.size : Int) + 1 := IntWalk.i64_in _ (by omega)
  have w2 : IntKind.i64.wrap ((r.size : Int) + 1 + (b.size : Int)) = (r.size : Int) + 1 + (b.size : Int) := IntWalk.i64_in _ (by omega)
  have w3 : IntKind.i64.wrap ((a.size : Int) + 1) = (a.size : Int) + 1 := IntWalk.i64_in _ (by omega)
  have w4 : IntKind.i64.wrap ((a.size : Int) + 1 + (o.size : Int)) = (a.size : Int) + 1 + (o.size : Int) := IntWalk.i64_in _ (by omega)
  clear hr hk hv hk2 hv2 hk3 hv3 ha hbb hi' ho up hD' hrow irow r0 r1 r2 hB hD cs e1 e2 e3 hz hs hdb
  go_enter Tryz.func117, Tryz.ntmps117
  go_wp2_with fail
  rw [← hW2]
  clear hW2
  go_quiet (fail)
  have hq0 := below_drewN W2.heap.size W2 nq
  go_wp2_with first | (go_at_call 64; first | (((with_reducible refine (Z1.out _ hq0).mono ?_)); rintro e w1 ⟨rfl, rfl⟩) | (((with_reducible refine (Z4.out _ hq0).mono ?_)); rintro e w1 ⟨rfl, rfl⟩) | (((with_reducible refine (Z5.out _ hq0).mono ?_)); rintro e w1 ⟨rfl, rfl⟩) | fail) | (go_at_call 190; ((with_reducible refine (CS.out _).mono ?_)); rintro e w1 ⟨rfl, rfl⟩)
  obtain ⟨W3, hW3⟩ : ∃ x, x = W2.drewN nq := ⟨_, rfl⟩
  rw [← hW3] at hq0 ⊢
  clear hW3 d2 d3
  obtain ⟨f0, f1, f2, f3, f4, f5, f6, f7⟩ := HC.out _ hq0
  have hq1 : ∀ n, Below W2.heap.size W2 (W3.drewN n) := fun n => below_step hq0 (below_drewN _ _ _)
  go_quiet (first | (go_at_call 64; first | with_reducible exact quiet_left (Z1.out _ (hq1 _)) | with_reducible exact quiet_left (Z2.out _ (hq1 _)) | with_reducible exact quiet_left (Z3.out _ (hq1 _)) | with_reducible exact quiet_left (Z4.out _ (hq1 _)) | fail) | (go_at_call 114; first | with_reducible exact quiet_left (E1.out _ _ _ rfl rfl) | with_reducible exact quiet_left (E2.out _ _ _ rfl rfl) | with_reducible exact quiet_left (E3.out _ _ _ (by push_cast; rfl) (by push_cast; rfl)) | fail) | fail)
  clear w1 w2 w3 w4 f0 f1 f2 f3 f4 f5 f6 f7
  go_wp2_with fail
  have hB1 := hq1 (nq + 1)
  clear hq1
  go_region_held3 (fun w' => w'.cell? ⟨w.heap.size, 0, none⟩ = some (.slice kp k.length kc) ∧ w'.cell? ⟨w.heap.size, 1, none⟩ = some (.slice vp v.length vc) ∧ w'.cell? ⟨hb, 0, none⟩ = some (.slice kp2 k2.length kc2) ∧ w'.cell? ⟨hb, 1, none⟩ = some (.slice vp2 v2.length vc2) ∧ w'.cell? ⟨ib, 0, none⟩ = some (.slice kp3 k3.length kc3) ∧ w'.cell? ⟨ib, 1, none⟩ = some (.slice vp3 v3.length vc3) ∧ w'.cell? ⟨ib, 2, none⟩ = some (.pointer ap) ∧ w'.cell? ⟨ib, 3, none⟩ = some (.pointer bp))
    (first | exact HC.out _ (by assumption) | fail)
    (first | (go_at_call 115; first | (((with_reducible refine (C1.out _ (by assumption)).mono ?_)); rintro e w2 ⟨p2, rfl, ht2, hb2⟩; have hB2 := below_step (W := W2) (by assumption) hb2; have HT2 := Lib.hid ht2; clear ht2) | (((with_reducible refine (C2.out _ (by assumption)).mono ?_)); rintro e w3 ⟨p3, rfl, ht3, hb3⟩; have hB3 := below_step (W := W2) (by assumption) hb3; have HT3 := Lib.hid ht3; clear ht3) | (((with_reducible refine (C3.out _ p2 p3 hB3 (HT2.out.below hb3) HT3.out).mono ?_)); rintro e w4 ⟨p4, rfl, ht4, hb4⟩; have hB4 := below_step hB3 hb4; have HT4 := Lib.hid ht4; clear ht4 hb4) | (((with_reducible refine (C3.out _ p2 p3 hB2 HT2.out (HT3.out.below hb2)).mono ?_)); rintro e w4 ⟨p4, rfl, ht4, hb4⟩; have hB4 := below_step hB2 hb4; have HT4 := Lib.hid ht4; clear ht4 hb4) | fail) | fail)
  all_goals
    go_wp2
    go_ret
    exact ⟨_, rfl, HT4.out, UP.out _ hB4⟩
def PtrT (D : Nat → Prop) (t : T) (w : World) (e : Ending) (w' : World) : Prop := ∃ b, e = .returned (.pointer (some ⟨b, 0, none⟩)) ∧ TreeAt w' D (some ⟨b, 0, none⟩) t ∧ Below w.heap.size w w'
theorem TreeAt.some_ {w : World} {D : Nat → Prop} {p : Option Addr} {l r : T} {k v : List UInt8} (h : TreeAt w D p (.node l k v r)) : ∃ b, p = some ⟨b, 0, none⟩ := by
  obtain ⟨b, _, _, _, _, _, _, rfl, _⟩ := h
  exact ⟨b, rfl⟩
theorem ptrT_of {D : Nat → Prop} {l r : T} {k v : List UInt8} {w w' : World} {e : Ending} (h : ∃ p, e = .returned (.pointer p) ∧ TreeAt w' D p (.node l k v r) ∧ Below w.heap.size w w') : PtrT D (.node l k v r) w e w' := by
  obtain ⟨p, rfl, ht, hb⟩ := h
  obtain ⟨b, rfl⟩ := ht.some_
  exact ⟨b, rfl, ht, hb⟩
theorem turnL (w : World) (D : Nat → Prop) (hD : ∀ k, w.heap.size ≤ k → D k) {lp rp kp vp : Option Addr} {kc vc : Nat} {l r t : T} {k v : List UInt8} (hl : TreeAt w D lp l) (hr : TreeAt w D rp r) (hk : IsD w D kp kc k) (hv : IsD w D vp vc v)
    (hsz : l.size + 1 + r.size ≤ 1048576) (h : leftT l k v r = some t) : Calls Tryz.prog 116 #[.pointer lp, pairV kp kc k vp vc v, .pointer rp] w (PtrT D t w) := by
  cases r with
  | nil => simp [leftT] at h
  | node i k2 v2 o =>
    simp only [leftT] at h
    by_cases hs : singleB l.size i.size o.size = true
    · rw [if_pos hs] at h
      cases h
      exact (treeLeft1 w D hD hl hr hk hv hsz hs).mono fun _ _ h => ptrT_of h
    · rw [if_neg hs] at h
      cases i with
      | nil => simp at h
      | node a k3 v3 b =>
        dsimp only at h
        by_cases hd : doubleB l.size a.size b.size o.size = true
        · rw [if_pos hd] at h
          cases h
          exact (treeLeft2 w D hD hl hr hk hv hsz (by simpa using hs) hd).mono fun _ _ h => ptrT_of h
        · rw [if_neg hd] at h; cases h
theorem turnR (w : World) (D : Nat → Prop) (hD : ∀ k, w.heap.size ≤ k → D k) {lp rp kp vp : Option Addr} {kc vc : Nat} {l r t : T} {k v : List UInt8} (hl : TreeAt w D lp l) (hr : TreeAt w D rp r) (hk : IsD w D kp kc k) (hv : IsD w D vp vc v)
    (hsz : l.size + 1 + r.size ≤ 1048576) (h : rightT r k v l = some t) : Calls Tryz.prog 117 #[.pointer lp, pairV kp kc k vp vc v, .pointer rp] w (PtrT D t w) := by
  cases l with
  | nil => simp [rightT] at h
  | node o k2 v2 i =>
    simp only [rightT] at h
    simp only [T.size_node] at hsz
    by_cases hs : singleB r.size i.size o.size = true
    · rw [if_pos hs] at h
      cases h
      exact (treeRight1 w D hD hl hr hk hv (by omega) hs).mono fun _ _ h => ptrT_of h
    · rw [if_neg hs] at h
      cases i with
      | nil => simp at h
      | node a k3 v3 b =>
        dsimp only at h
        simp only [T.size_node] at hsz
        by_cases hd : doubleB r.size b.size a.size o.size = true
        · rw [if_pos hd] at h
          cases h
          exact (treeRight2 w D hD hl hr hk hv (by omega) (by simpa using hs) hd).mono fun _ _ h => ptrT_of h
        · rw [if_neg hd] at h; cases h
set_option maxHeartbeats 1000000 in
set_option maxRecDepth 100000 in
theorem treeEven (w : World) (D : Nat → Prop) (hD : ∀ k, w.heap.size ≤ k → D k) {lp rp kp vp : Option Addr} {kc vc : Nat} {l r t : T} {k v : List UInt8} (hl : TreeAt w D lp l) (hr : TreeAt w D rp r) (hk : IsD w D kp kc k) (hv : IsD w D vp vc v)
    (hsz : l.size + 1 + r.size ≤ 1048576) (h : evenT l k v r = some t) : Calls Tryz.prog 61 #[.pointer lp, pairV kp kc k vp vc v, .pointer rp] w (PtrT D t w) := by
  have hB : Below w.heap.size w (w.alloc (.cells #[.slice kp k.length kc, .slice vp v.length vc] 61)) := (Below.refl _ w).alloc (Nat.le_refl _) _
  obtain ⟨W2, hW2⟩ : ∃ x, x = w.alloc (.cells #[.slice kp k.length kc, .slice vp v.length vc] 61) := ⟨_, rfl⟩
  rw [← hW2] at hB
  have hz : W2.heap.size = w.heap.size + 1 := by rw [hW2]; simp
  have r0 : W2.heap[w.heap.size]? = some (.cells #[.slice kp k.length kc, .slice vp v.length vc] 61) := by rw [hW2]; exact heap_alloc_new _ _
  have c0 : W2.cell? ⟨w.heap.size, 0, none⟩ = some (.slice kp k.length kc) := cell_of_row W2 _ 0 _ _ (0, 0) r0
  have c1 : W2.cell? ⟨w.heap.size, 1, none⟩ = some (.slice vp v.length vc) := cell_of_row W2 _ 1 _ _ (0, 0) r0
  have ZL := Lib.hid (treeSize W2 (hl.below hB))
  have ZR := Lib.hid (treeSize W2 (hr.below hB))
  have CE := Lib.hid (evenZ W2 l.size r.size (by omega) (by omega) _ _ rfl rfl)
  have hD2 : ∀ j, W2.heap.size ≤ j → D j := fun j hj => hD j (by omega)
  have CN := Lib.hid (treeNode W2 D hD2 (hl.below hB) (hr.below hB) (hk.below hB) (hv.below hB) (by omega))
  have CL := Lib.hid (fun hh => turnL (t := t) W2 D hD2 (hl.below hB) (hr.below hB) (hk.below hB) (hv.below hB) hsz hh)
  have CR := Lib.hid (fun hh => turnR (t := t) W2 D hD2 (hl.below hB) (hr.below hB) (hk.below hB) (hv.below hB) hsz hh)
  have HB := Lib.hid hB
  unfold evenT at h
  clear hl hr hk hv hD hD2 hB r0 hz
  by_cases h1 : evenB l.size r.size = true
  · rw [if_pos h1] at h
    cases h
    rw [h1] at CE
    clear CL CR
    go_enter Tryz.func61, Tryz.ntmps61
    go_wp2_with fail
    rw [← hW2]
    clear hW2
    go_wp2_with first | (go_at_call 64; first | (((with_reducible refine (ZL.out).mono ?_)); rintro e w1 ⟨rfl, rfl⟩) | (((with_reducible refine (ZR.out).mono ?_)); rintro e w1 ⟨rfl, rfl⟩) | fail) | (go_at_call 114; ((with_reducible refine (CE.out).mono ?_)); rintro e w1 ⟨rfl, rfl⟩) | (go_at_call 115; ((with_reducible refine (CN.out).mono ?_)); rintro e w1 ⟨p1, rfl, ht1, hb1⟩; have HT1 := Lib.hid ht1; have HB1 := Lib.hid hb1; clear ht1 hb1)
    go_ret
    exact ptrT_of ⟨_, rfl, HT1.out, HB.out.trans (HB1.out.mono HB.out.size)⟩
  · rw [if_neg h1] at h
    have h1' : evenB l.size r.size = false := by simpa using h1
    rw [h1'] at CE
    by_cases h2 : l.size < r.size
    · rw [if_pos h2] at h
      have CX := Lib.hid (CL.out h)
      have g2 : (l.size : Int) < (r.size : Int) := by omega
      clear CL CR h h1 h1'
      go_enter Tryz.func61, Tryz.ntmps61
      go_wp2_with fail
      rw [← hW2]
      clear hW2
      go_wp2_with first | (go_at_call 64; first | (((with_reducible refine (ZL.out).mono ?_)); rintro e w1 ⟨rfl, rfl⟩) | (((with_reducible refine (ZR.out).mono ?_)); rintro e w1 ⟨rfl, rfl⟩) | fail) | (go_at_call 114; ((with_reducible refine (CE.out).mono ?_)); rintro e w1 ⟨rfl, rfl⟩) | (go_at_call 116; ((with_reducible refine (CX.out).mono ?_)); rintro e w1 ⟨b1, rfl, ht1, hb1⟩; have HT1 := Lib.hid ht1; have HB1 := Lib.hid hb1; clear ht1 hb1)
      go_ret
      exact ⟨_, rfl, HT1.out, HB.out.trans (HB1.out.mono HB.out.size)⟩
    · rw [if_neg h2] at h
      have CX := Lib.hid (CR.out h)
      have g2 : ¬ (l.size : Int) < (r.size : Int) := by omega
      have g3 : decide (l.size < r.size) = false := by simpa using h2
      clear CL CR h h1 h1' h2
      go_enter Tryz.func61, Tryz.ntmps61
      go_wp2_with fail
      rw [← hW2]
      clear hW2
      go_wp2_with first | (go_at_call 64; first | (((with_reducible refine (ZL.out).mono ?_)); rintro e w1 ⟨rfl, rfl⟩) | (((with_reducible refine (ZR.out).mono ?_)); rintro e w1 ⟨rfl, rfl⟩) | fail) | (go_at_call 114; ((with_reducible refine (CE.out).mono ?_)); rintro e w1 ⟨rfl, rfl⟩) | (go_at_call 117; ((with_reducible refine (CX.out).mono ?_)); rintro e w1 ⟨b1, rfl, ht1, hb1⟩; have HT1 := Lib.hid ht1; have HB1 := Lib.hid hb1; clear ht1 hb1)
      go_ret
      exact ⟨_, rfl, HT1.out, HB.out.trans (HB1.out.mono HB.out.size)⟩
def Met (w : World) (mb : Option Nat) (v c : Nat) : Prop := ∀ b, mb = some b → w.heap[b]? = some (meterRow v c)
def mptr (mb : Option Nat) : Option Addr := mb.map fun b => ⟨b, 0, none⟩
theorem Met.none_ (w : World) (v c : Nat) : Met w none v c := fun b h => by cases h
theorem Met.dr {w : World} {mb : Option Nat} {v c : Nat} (h : Met w mb v c) : Met w.drew mb v c := h
theorem Met.lt {w : World} {mb : Option Nat} {v c : Nat} (h : Met w mb v c) : ∀ b, mb = some b → b < w.heap.size := fun b hb => row_ltT (h b hb)
theorem Met.below {w w' : World} {mb : Option Nat} {v c : Nat} (h : Met w mb v c) (hb : Below w.heap.size w w') : Met w' mb v c := fun b e => (hb.block b (h.lt b e)).trans (h b e)
theorem grown_of_below {w w' : World} (h : Below w.heap.size w w') (mb : Option Nat) : w.grownBy w' mb := ⟨h.os, h.tape, h.output, h.size, fun k hk _ => h.block k hk⟩
theorem below_of_grown {w w' : World} (h : w.grownBy w' none) : Below w.heap.size w w' := ⟨h.os, h.tape, h.output, h.size, fun k hk => h.block k hk (by simp)⟩
theorem grown_rfl (w : World) (mb : Option Nat) : w.grownBy w mb := ⟨rfl, rfl, rfl, Nat.le_refl _, fun _ _ _ => rfl⟩
theorem grown_drewN (w : World) (mb : Option Nat) (n : Nat) : w.grownBy (w.drewN n) mb := ⟨rfl, rfl, rfl, Nat.le_refl _, fun _ _ _ => rfl⟩
theorem grown_dr (w : World) (mb : Option Nat) : w.grownBy w.drew mb := ⟨rfl, rfl, rfl, Nat.le_refl _, fun _ _ _ => rfl⟩
theorem grown_step {W wc w' : World} {mb : Option Nat} (h : W.grownBy wc mb) (h' : wc.grownBy w' mb) : W.grownBy w' mb := grown_trans h h'
theorem grown_row {w w' : World} {mb : Option Nat} (g : w.grownBy w' mb) {b : Nat} {o : Obj} (h : w.heap[b]? = some o) (hb : mb ≠ some b) : w'.heap[b]? = some o := (g.block b (row_ltT h) (fun e => hb e.symm)).trans h
def Off (D : Nat → Prop) (mb : Option Nat) : Prop := ∀ b, mb = some b → ¬ D b
theorem Off.none_ (D : Nat → Prop) : Off D none := fun b h => by cases h
theorem Off.keep {D : Nat → Prop} {mb : Option Nat} (h : Off D mb) {w w' : World} (g : w.grownBy w' mb) : ∀ k, k < w.heap.size → D k → w'.heap[k]? = w.heap[k]? := fun k hk hd => g.block k hk (fun e => h k e.symm hd)
theorem TreeAt.grown {w w' : World} {D : Nat → Prop} {mb : Option Nat} {p : Option Addr} {t : T} (h : TreeAt w D p t) (ho : Off D mb) (g : w.grownBy w' mb) : TreeAt w' D p t := h.keep g.size (ho.keep g)
theorem IsD.grown {w w' : World} {D : Nat → Prop} {mb : Option Nat} {p : Option Addr} {c : Nat} {l : List UInt8} (h : IsD w D p c l) (ho : Off D mb) (g : w.grownBy w' mb) : IsD w' D p c l := h.keep g.size (ho.keep g)
theorem metVisit (w : World) {mb : Option Nat} {v c : Nat} (h : Met w mb v c) (hv : v < 1000000000000) :
    Calls Tryz.prog 46 #[.pointer (mptr mb)] w fun e w' => e = .returned (.tuple #[]) ∧ Met w' mb (v + 1) c ∧ w.grownBy w' mb := by
  cases mb with
  | none => exact (meterVisit0 w).mono fun e w' ⟨he, hw⟩ => by subst hw; exact ⟨he, Met.none_ _ _ _, grown_rfl _ _⟩
  | some b => exact (meterVisit w (h b rfl) hv).mono fun e w' ⟨he, hr, hg⟩ => ⟨he, fun b' e => by cases e; exact hr, hg⟩
theorem metCompare (w : World) {mb : Option Nat} {v n : Nat} (h : Met w mb v n) (hn : n < 1000000000000) {D D' : Nat → Prop} (ho : Off D mb) (ho' : Off D' mb) {p q : Option Addr} {c d : Nat} {a b : List UInt8} (ha : IsD w D p c a) (hb : IsD w D' q d b) :
    Calls Tryz.prog 47 #[.pointer (mptr mb), .slice p a.length c, .slice q b.length d] w fun e w' => e = .returned (.int .i64 (Lib.compareBytes a b)) ∧ Met w' mb v (n + 1) ∧ w.grownBy w' mb := by
  cases mb with
  | none => exact (meterCompare0 w ha.b hb.b).mono fun e w' ⟨he, hw⟩ => by subst hw; exact ⟨he, Met.none_ _ _ _, grown_rfl _ _⟩
  | some m =>
    have off : ∀ {D : Nat → Prop}, Off D (some m) → ∀ k, k < w.heap.size → D k → k ≠ m := fun h k _ hk e => h m rfl (e ▸ hk)
    exact (meterCompare w (h m rfl) hn (ha.mono (off ho)) (hb.mono (off ho'))).mono fun e w' ⟨he, hr, hg⟩ => ⟨he, fun b' e => by cases e; exact hr, hg⟩
def takeM (x : Four) (m : Int) : Four :=
  let y := roundM (roundM ⟨x.a, x.b, x.c, bits .xor .u64 x.d m⟩)
  ⟨bits .xor .u64 y.a m, y.b, y.c, y.d⟩
abbrev fourRow (a b c d : Int) : Obj := .cells #[.int .u64 a, .int .u64 b, .int .u64 c, .int .u64 d] 363
theorem four_cells {W : World} {b0 : Nat} {a b c d : Int} (h : W.heap[b0]? = some (fourRow a b c d)) :
    (W.cell? ⟨b0, 0, none⟩ = some (.int .u64 a) ∧ W.cell? ⟨b0, 1, none⟩ = some (.int .u64 b) ∧ W.cell? ⟨b0, 2, none⟩ = some (.int .u64 c) ∧ W.cell? ⟨b0, 3, none⟩ = some (.int .u64 d)) ∧
    (W.frozen? ⟨b0, 0, none⟩ = false ∧ W.frozen? ⟨b0, 1, none⟩ = false ∧ W.frozen? ⟨b0, 2, none⟩ = false ∧ W.frozen? ⟨b0, 3, none⟩ = false) :=
  ⟨⟨cell_of_row W b0 0 _ _ (0, 0) h, cell_of_row W b0 1 _ _ (0, 0) h, cell_of_row W b0 2 _ _ (0, 0) h, cell_of_row W b0 3 _ _ (0, 0) h⟩, frozen_of_row W b0 0 _ _ h, frozen_of_row W b0 1 _ _ h, frozen_of_row W b0 2 _ _ h, frozen_of_row W b0 3 _ _ h⟩
theorem below_set {n b o : Nat} {w w' : World} {v : Value} (h : Below n w w') (hb : n ≤ b) : Below n w (w'.setCell ⟨b, o, none⟩ v) := h.setCell (p := ⟨b, o, none⟩) hb v
theorem sipRound4 (w : World) (a b c d : Int) : Calls Tryz.prog 280 #[.agg #[.int .u64 a, .int .u64 b, .int .u64 c, .int .u64 d]] w (fun e w' => ∃ p q r s, roundM ⟨a, b, c, d⟩ = ⟨p, q, r, s⟩ ∧ e = .returned (.agg #[.int .u64 p, .int .u64 q, .int .u64 r, .int .u64 s]) ∧ Below w.heap.size w w') :=
  (sipRound w ⟨a, b, c, d⟩).mono fun e w' ⟨he, hb⟩ => ⟨_, _, _, _, rfl, he, hb⟩
set_option maxHeartbeats 2000000 in
set_option maxRecDepth 100000 in
theorem sipTake (w : World) (x : Four) (m : Int) : Calls Tryz.prog 239 #[x.v, .int .u64 m] w fun e w' => e = .returned (takeM x m).v ∧ Below w.heap.size w w' := by
  obtain ⟨a, b, c, d⟩ := x
  have CR := Lib.hid sipRound4
  obtain ⟨W2, hW2⟩ : ∃ x, x = (w.alloc (fourRow a b c (bits .xor .u64 d m))).alloc (fourRow 0 0 0 0) := ⟨_, rfl⟩
  have hs : W2.heap.size = w.heap.size + 2 := by rw [hW2]; simp
  have hB : Below w.heap.size w W2 := by rw [hW2]; exact ((Below.refl _ w).alloc (Nat.le_refl _) _).alloc (by simp) _
  have r0 : W2.heap[w.heap.size]? = some (fourRow a b c (bits .xor .u64 d m)) := by rw [hW2]; exact heap_alloc2_old _ _ _
  have r1 : W2.heap[w.heap.size + 1]? = some (fourRow 0 0 0 0) := by rw [hW2]; exact heap_alloc2_new _ _ _
  have HC := Lib.hid (show ∀ w', Below W2.heap.size W2 w' → (w'.heap[w.heap.size]? = some (fourRow a b c (bits .xor .u64 d m)) ∧ w'.heap[w.heap.size + 1]? = some (fourRow 0 0 0 0)) from fun w' hb => ⟨(hb.block _ (row_ltT r0)).trans r0, (hb.block _ (row_ltT r1)).trans r1⟩)
  have HB := Lib.hid hB
  obtain ⟨⟨s0, s1, s2, s3⟩, _⟩ := four_cells r0
  have hb0 := Below.refl W2.heap.size W2
  rw [show (Four.v ⟨a, b, c, d⟩) = .agg #[.int .u64 a, .int .u64 b, .int .u64 c, .int .u64 d] from rfl]
  have hws : w.heap.size ≤ W2.heap.size := by omega
  clear r0 r1 hB hs
  go_enter Tryz.func239, Tryz.ntmps239
  go_wp2_with fail
  rw [← hW2]
  clear hW2
  go_wp2_with (go_at_call 280; first
    | (((with_reducible refine (CR.out _ _ _ _ (bits .xor .u64 d m)).mono ?_)); rintro e w3 ⟨p, q, r, s, e3, rfl, hb3⟩)
    | (((with_reducible refine (CR.out _ _ _ _ _).mono ?_)); rintro e w4 ⟨p', q', r', s', e4, rfl, hb4⟩; have hb5 := below_step hb3 hb4; obtain ⟨⟨t0, t1, t2, t3⟩, t4, t5, t6, t7⟩ := four_cells (HC.out _ hb5).1; obtain ⟨⟨u0, u1, u2, u3⟩, u4, u5, u6, u7⟩ := four_cells (HC.out _ hb5).2)
    | fail)
  refine bodyPost_ret (v := .agg #[.int .u64 (bits .xor .u64 p' m), .int .u64 q', .int .u64 r', .int .u64 s']) ?_ rfl ?_
  · rw [results_cell1 rfl]
    simp [go_sem, asAddr, Result.andThen, u0, u1, u2, u3]
  · refine ⟨?_, ?_⟩
    · unfold takeM Four.v
      simp only [e3, e4]
    · have hb6 := HB.out.trans (hb5.mono hws)
      iterate 9 refine below_set ?_ (by simp)
      exact hb6
def rN : Nat → Four → Four
  | 0, x => x
  | n + 1, x => roundM (rN n x)
def sipEndM (x : Four) : Int :=
  let y := rN 4 ⟨x.a, x.b, bits .xor .u64 x.c 255, x.d⟩
  bits .xor .u64 (bits .xor .u64 (bits .xor .u64 y.a y.b) y.c) y.d
theorem four_set4 {W : World} {b0 : Nat} {a b c d p q r s : Int} (h : W.heap[b0]? = some (fourRow a b c d)) :
    ((((W.setCell ⟨b0, 0, none⟩ (.int .u64 p)).setCell ⟨b0, 1, none⟩ (.int .u64 q)).setCell ⟨b0, 2, none⟩ (.int .u64 r)).setCell ⟨b0, 3, none⟩ (.int .u64 s)).heap[b0]? = some (fourRow p q r s) := by
  simp [World.setCell, Array.getElem?_modify, h]
set_option maxHeartbeats 2000000 in
set_option maxRecDepth 100000 in
theorem sipEnd (w : World) (x : Four) : Calls Tryz.prog 241 #[x.v] w fun e w' => e = .returned (.int .u64 (sipEndM x)) ∧ Below w.heap.size w w' := by
  obtain ⟨a, b, c, d⟩ := x
  have CR := Lib.hid sipRound4
  obtain ⟨x0, hx0⟩ : ∃ x0 : Four, x0 = ⟨a, b, bits .xor .u64 c 255, d⟩ := ⟨_, rfl⟩
  obtain ⟨W2, hW2⟩ : ∃ x, x = w.alloc (fourRow a b (bits .xor .u64 c 255) d) := ⟨_, rfl⟩
  have hB : Below w.heap.size w W2 := by rw [hW2]; exact (Below.refl _ w).alloc (Nat.le_refl _) _
  have r0 : W2.heap[w.heap.size]? = some (fourRow a b (bits .xor .u64 c 255) d) := by rw [hW2]; exact heap_alloc_new _ _
  have HB := Lib.hid hB
  have HR0 := Lib.hid r0
  rw [show (Four.v ⟨a, b, c, d⟩) = .agg #[.int .u64 a, .int .u64 b, .int .u64 c, .int .u64 d] from rfl, show sipEndM ⟨a, b, c, d⟩ = bits .xor .u64 (bits .xor .u64 (bits .xor .u64 (rN 4 x0).a (rN 4 x0).b) (rN 4 x0).c) (rN 4 x0).d from by rw [hx0]; rfl]
  have HE := Lib.hid (show rN 0 x0 = ⟨a, b, bits .xor .u64 c 255, d⟩ from hx0)
  clear r0 hB hx0
  go_enter Tryz.func241, Tryz.ntmps241
  go_wp2_with fail
  rw [← hW2]
  clear hW2
  go_loopw [7] (fun v7 wr => ∃ (i : Nat) (p q r s : Int), v7 = .int .i64 (i : Int) ∧ i ≤ 4 ∧ rN i x0 = ⟨p, q, r, s⟩ ∧ Hid (wr.heap[w.heap.size]? = some (fourRow p q r s)) ∧ Hid (Below w.heap.size w wr))
    (fun v7 _ => 4 - (intOf v7).toNat)
  case atStart => exact ⟨0, _, _, _, _, rfl, by omega, HE.out, HR0, HB⟩
  case round =>
    obtain ⟨i, p, q, r, s, rfl, hi, he, HR, HBr⟩ := hrel
    obtain ⟨⟨t0, t1, t2, t3⟩, t4, t5, t6, t7⟩ := four_cells HR.out
    by_cases hlt : i < 4
    · have g1 : (i : Int) < 4 := by omega
      go_wp2_with (go_at_call 280; ((with_reducible refine (CR.out _ _ _ _ _).mono ?_)); rintro e w3 ⟨p', q', r', s', e3, rfl, hb3⟩; have hr3 := Lib.hid ((hb3.block _ (row_ltT HR.out)).trans HR.out); have HB3 := Lib.hid (HBr.out.trans (hb3.mono HBr.out.size)); obtain ⟨⟨u0, u1, u2, u3⟩, u4, u5, u6, u7⟩ := four_cells hr3.out; clear hb3)
      go_roundw
      case rel => exact ⟨i + 1, p', q', r', s', by go_num, by omega, by unfold rN; rw [he]; exact e3, four_set4 hr3.out, below_set (below_set (below_set (below_set HB3.out (Nat.le_refl _)) (Nat.le_refl _)) (Nat.le_refl _)) (Nat.le_refl _)⟩
      case measure => simp [intOf]; omega
    · obtain rfl : i = 4 := by omega
      go_wp2
      go_ret
      exact ⟨by rw [he]; rfl, HBr.out⟩
def lowM : List UInt8 → Nat
  | [] => 0
  | b :: bs => lowM bs * 256 + b.toNat
theorem lowM_lt : ∀ (l : List UInt8), lowM l < 256 ^ l.length
  | [] => by simp [lowM]
  | b :: bs => by
    have := lowM_lt bs
    have hb := b.toNat_lt
    simp only [lowM, List.length_cons, Nat.pow_succ]
    omega
theorem low_step {l : List UInt8} {n j : Nat} {b : UInt8} (hb : l[j]? = some b) (hj : j < n) : lowM ((l.take n).drop j) = lowM ((l.take n).drop (j + 1)) * 256 + b.toNat := by
  have hl := (List.getElem?_eq_some_iff.1 hb).1
  have h1 : (l.take n)[j]? = some b := by rw [List.getElem?_take, if_pos hj]; exact hb
  obtain ⟨hl2, h2⟩ := List.getElem?_eq_some_iff.1 h1
  rw [List.drop_eq_getElem_cons hl2, h2]
  rfl
theorem low_lt {l : List UInt8} {n j : Nat} (hn : n ≤ 8) (hj : 1 ≤ j) (hjn : j ≤ n) : lowM ((l.take n).drop j) < 72057594037927936 := by
  refine Nat.lt_of_lt_of_le (lowM_lt _) ?_
  rw [List.length_drop, List.length_take]
  exact Nat.le_trans (Nat.pow_le_pow_right (n := 256) (by omega) (show min n l.length - j ≤ 7 by omega)) (by decide)
set_option maxHeartbeats 1000000 in
set_option maxRecDepth 100000 in
theorem wordLow (w : World) {p : Option Addr} {c : Nat} {l : List UInt8} (h : IsB w p c l) : Calls Tryz.prog 240 #[.slice p l.length c] w fun e w' => e = .returned (.int .u64 (lowM (l.take 8) : Int)) ∧ w = w' := by
  have HI := Lib.hid h
  obtain ⟨n, hn⟩ : ∃ n, n = min l.length 8 := ⟨_, rfl⟩
  have hmin : n ≤ l.length := by omega
  have hmin8 : n ≤ 8 := by omega
  have ht : l.take 8 = l.take n := by rw [hn]; exact (List.take_eq_take_iff.2 (by omega))
  rw [ht]
  clear h
  rcases Nat.lt_or_ge 8 l.length with h8 | h8
  · have g1 : ¬ ((l.length : Int) ≤ 8) := by omega
    obtain rfl : n = 8 := by omega
    clear hn ht
    go_enter Tryz.func240, Tryz.ntmps240
    go_wp2
    go_loopw [3, 4] (fun v3 v4 wr => wr = w ∧ ∃ j : Nat, v4 = .int .i64 ((j : Int) - 1) ∧ j ≤ 8 ∧ v3 = .int .u64 (lowM ((l.take (8)).drop j) : Int))
      (fun _ v4 _ => (intOf v4 + 1).toNat)
    case atStart => exact ⟨rfl, 8, by first | rfl | simp, Nat.le_refl _, by rw [List.drop_eq_nil_of_le (by simp [Nat.min_le_left])]; rfl⟩
    case round =>
      obtain ⟨rfl, j, rfl, hj, rfl⟩ := hrel
      by_cases h0 : 0 < j
      · have gj : (0 : Int) ≤ (j : Int) - 1 := by omega
        obtain ⟨b, hb⟩ : ∃ b, l[j - 1]? = some b := ⟨_, List.getElem?_eq_getElem (by omega)⟩
        obtain ⟨pb, po, rfl, hpb, hcell⟩ := HI.out.cells (by omega)
        have cb := hcell _ _ hb
        unfold bv at cb
        have hst := low_step (n := 8) hb (by omega)
        have hlt := low_lt (l := l) (n := 8) (j := j) (by omega) (by omega) hj
        rw [show j - 1 + 1 = j from by omega] at hst
        have hbn := b.toNat_lt
        have w0 : IntKind.u64.wrap (b.toNat : Int) = (b.toNat : Int) := IntWalk.u64_in _ (by omega)
        have w1 : IntKind.u64.wrap ((lowM ((l.take (8)).drop j) : Int) * 256) = (lowM ((l.take (8)).drop j) : Int) * 256 := IntWalk.u64_in _ (by omega)
        have w2 : IntKind.u64.wrap ((lowM ((l.take (8)).drop j) : Int) * 256 + (b.toNat : Int)) = (lowM ((l.take (8)).drop j) : Int) * 256 + (b.toNat : Int) := IntWalk.u64_in _ (by omega)
        have w3 : IntKind.i64.wrap ((j : Int) - 1 - 1) = (j : Int) - 1 - 1 := IntWalk.i64_in _ (by omega)
        have e1 : ((j : Int) - 1).toNat = j - 1 := by omega
        have g2 : (j : Int) - 1 < (l.length : Int) := by omega
        have HST := Lib.hid hst
        clear hst hcell hlt
        generalize lowM ((l.take (8)).drop j) = x at *
        generalize b.toNat = y at *
        go_wp2
        go_roundw
        case rel => exact ⟨by first | rfl | trivial, j - 1, by go_num, by omega, by rw [HST.out]; go_num⟩
        case measure => simp [intOf]; omega
      · obtain rfl : j = 0 := by omega
        go_wp2
        go_ret
        exact ⟨by simp, rfl⟩
  · have g1 : (l.length : Int) ≤ 8 := by omega
    obtain rfl : n = l.length := by omega
    clear hn ht
    go_enter Tryz.func240, Tryz.ntmps240
    go_wp2
    go_loopw [3, 4] (fun v3 v4 wr => wr = w ∧ ∃ j : Nat, v4 = .int .i64 ((j : Int) - 1) ∧ j ≤ l.length ∧ v3 = .int .u64 (lowM ((l.take (l.length)).drop j) : Int))
      (fun _ v4 _ => (intOf v4 + 1).toNat)
    case atStart => exact ⟨rfl, l.length, by first | rfl | simp, Nat.le_refl _, by rw [List.drop_eq_nil_of_le (by simp [Nat.min_le_left])]; rfl⟩
    case round =>
      obtain ⟨rfl, j, rfl, hj, rfl⟩ := hrel
      by_cases h0 : 0 < j
      · have gj : (0 : Int) ≤ (j : Int) - 1 := by omega
        obtain ⟨b, hb⟩ : ∃ b, l[j - 1]? = some b := ⟨_, List.getElem?_eq_getElem (by omega)⟩
        obtain ⟨pb, po, rfl, hpb, hcell⟩ := HI.out.cells (by omega)
        have cb := hcell _ _ hb
        unfold bv at cb
        have hst := low_step (n := l.length) hb (by omega)
        have hlt := low_lt (l := l) (n := l.length) (j := j) (by omega) (by omega) hj
        rw [show j - 1 + 1 = j from by omega] at hst
        have hbn := b.toNat_lt
        have w0 : IntKind.u64.wrap (b.toNat : Int) = (b.toNat : Int) := IntWalk.u64_in _ (by omega)
        have w1 : IntKind.u64.wrap ((lowM ((l.take (l.length)).drop j) : Int) * 256) = (lowM ((l.take (l.length)).drop j) : Int) * 256 := IntWalk.u64_in _ (by omega)
        have w2 : IntKind.u64.wrap ((lowM ((l.take (l.length)).drop j) : Int) * 256 + (b.toNat : Int)) = (lowM ((l.take (l.length)).drop j) : Int) * 256 + (b.toNat : Int) := IntWalk.u64_in _ (by omega)
        have w3 : IntKind.i64.wrap ((j : Int) - 1 - 1) = (j : Int) - 1 - 1 := IntWalk.i64_in _ (by omega)
        have e1 : ((j : Int) - 1).toNat = j - 1 := by omega
        have g2 : (j : Int) - 1 < (l.length : Int) := by omega
        have HST := Lib.hid hst
        clear hst hcell hlt
        generalize lowM ((l.take (l.length)).drop j) = x at *
        generalize b.toNat = y at *
        go_wp2
        go_roundw
        case rel => exact ⟨by first | rfl | trivial, j - 1, by go_num, by omega, by rw [HST.out]; go_num⟩
        case measure => simp [intOf]; omega
      · obtain rfl : j = 0 := by omega
        go_wp2
        go_ret
        exact ⟨by simp, rfl⟩
end Go.Proofs.YtmbiiemlepfoaaaGreatDoor
