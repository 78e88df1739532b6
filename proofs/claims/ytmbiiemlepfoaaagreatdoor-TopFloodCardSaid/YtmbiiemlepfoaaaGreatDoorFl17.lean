/- The walk of first: a tree's first pair, and all others. The walks of join, Pair. -/
import Derived.Test.YtmbiiemlepfoaaaGreatDoorFl16
import Derived.Test.YtmbiiemlepfoaaaGreatDoorFl09
import Derived.Deep.RegionHeld3

namespace Go.Proofs.YtmbiiemlepfoaaaGreatDoor
open Go.RowKit
set_option linter.unusedVariables false
def FirstR (D : Nat → Prop) (X : PairT × T) (mb : Option Nat) (vi c : Nat) (w : World) (e : Ending) (w' : World) : Prop :=
  ∃ kp kc vp vc q, e = .returned (.tuple #[pairV kp kc X.1.1 vp vc X.1.2, .pointer q]) ∧ IsD w' D kp kc X.1.1 ∧ IsD w' D vp vc X.1.2 ∧ TreeAt w' D q X.2 ∧ Met w' mb vi c ∧ w.grownBy w' mb
theorem results_cell_tmpF {fn : Func} {p u : Tmp} {ty : TypeId} (h : fn.results = #[.cell p ty, .tmp u]) (tmps : Array Value) (P : Program) (w : World) :
    (results fn tmps).run P w = ((asAddr (tmps.getD p undef)).run P w).andThen fun a w₁ => ((loadVar ty a).run P w₁).andThen fun x w₂ => .ok (.tuple #[x, tmps.getD u undef]) w₂ := by
  simp only [results, h]
  simp [Sem.run_bind, Result.andThen]
theorem keep_set2 {w : World} {D : Nat → Prop} {b : Nat} (hb : ¬ D b) (x y : Value) : ∀ j, j < w.heap.size → D j → ((w.setCell ⟨b, 0, none⟩ x).setCell ⟨b, 1, none⟩ y).heap[j]? = w.heap[j]? := fun j _ hj => by
  have hne : j ≠ b := fun e => hb (e ▸ hj)
  rw [set_otherA (a := ⟨b, 1, none⟩) hne, set_otherA (a := ⟨b, 0, none⟩) hne]
theorem cell_set2 {w : World} {b j i : Nat} (x y : Value) (h : j ≠ b) : ((w.setCell ⟨b, 0, none⟩ x).setCell ⟨b, 1, none⟩ y).drew.cell? ⟨j, i, none⟩ = w.cell? ⟨j, i, none⟩ := by
  unfold World.cell?
  rw [show ((w.setCell ⟨b, 0, none⟩ x).setCell ⟨b, 1, none⟩ y).drew.heap = ((w.setCell ⟨b, 0, none⟩ x).setCell ⟨b, 1, none⟩ y).heap from rfl, set_otherA (a := ⟨b, 1, none⟩) h, set_otherA (a := ⟨b, 0, none⟩) h]
theorem size_set2 (w : World) (b : Nat) (x y : Value) : ((w.setCell ⟨b, 0, none⟩ x).setCell ⟨b, 1, none⟩ y).heap.size = w.heap.size := by rw [set_sizeA, set_sizeA]
theorem grown_set2 {w W : World} {mb : Option Nat} {b : Nat} (h : w.grownBy W mb) (hb : w.heap.size ≤ b) (x y : Value) : w.grownBy ((W.setCell ⟨b, 0, none⟩ x).setCell ⟨b, 1, none⟩ y) mb :=
  ⟨h.os, h.tape, h.output, by rw [size_set2]; exact h.size, fun k hk hn => by
    have hne : k ≠ b := by omega
    rw [set_otherA (a := ⟨b, 1, none⟩) hne, set_otherA (a := ⟨b, 0, none⟩) hne]
    exact h.block k hk hn⟩
theorem met_set2 {W : World} {mb : Option Nat} {vi c b : Nat} (h : Met W mb vi c) (hb : mb ≠ some b) (x y : Value) : Met ((W.setCell ⟨b, 0, none⟩ x).setCell ⟨b, 1, none⟩ y) mb vi c := fun m e => by
  have hne : m ≠ b := fun e' => hb (by rw [e, e'])
  rw [set_otherA (a := ⟨b, 1, none⟩) hne, set_otherA (a := ⟨b, 0, none⟩) hne]
  exact h m e
theorem first_end {D : Nat → Prop} {X : PairT × T} {mb : Option Nat} {vi c b : Nat} {w W : World} {kp vp q : Option Addr} {kc vc : Nat} (hg : w.grownBy W mb) (hb : w.heap.size ≤ b) (hmb : mb ≠ some b)
    (hk : IsD W (fun j => D j ∧ j ≠ b) kp kc X.1.1) (hv : IsD W (fun j => D j ∧ j ≠ b) vp vc X.1.2) (ht : TreeAt W (fun j => D j ∧ j ≠ b) q X.2) (hm : Met W mb vi c) :
    FirstR D X mb vi c w (.returned (.tuple #[pairV kp kc X.1.1 vp vc X.1.2, .pointer q])) ((W.setCell ⟨b, 0, none⟩ (.slice kp X.1.1.length kc)).setCell ⟨b, 1, none⟩ (.slice vp X.1.2.length vc)) := by
  have hb' : ¬ (fun j => D j ∧ j ≠ b) b := fun h => h.2 rfl
  have hz := Nat.le_of_eq (size_set2 W b (.slice kp X.1.1.length kc) (.slice vp X.1.2.length vc)).symm
  have hk' := keep_set2 (w := W) (D := fun j => D j ∧ j ≠ b) hb' (.slice kp X.1.1.length kc) (.slice vp X.1.2.length vc)
  exact ⟨kp, kc, vp, vc, q, rfl, (hk.keep hz hk').mono fun _ _ h => h.1, (hv.keep hz hk').mono fun _ _ h => h.1, (ht.keep hz hk').mono fun _ _ h => h.1, met_set2 hm hmb _ _, grown_set2 hg hb _ _⟩
theorem first_dr {D : Nat → Prop} {X : PairT × T} {mb : Option Nat} {vi c : Nat} {w W : World} {e : Ending} (h : FirstR D X mb vi c w e W) : FirstR D X mb vi c w e W.drew := by
  obtain ⟨kp, kc, vp, vc, q, he, h1, h2, h3, h4, h5⟩ := h
  have hb : Below W.heap.size W W.drew := (Below.refl _ W).drew
  exact ⟨kp, kc, vp, vc, q, he, h1.below hb, h2.below hb, h3.below hb, h4.dr, grown_trans h5 (grown_dr _ _)⟩
set_option maxHeartbeats 4000000 in
set_option maxRecDepth 100000 in
theorem treeFirst {mb : Option Nat} : ∀ (l : T) (k v : List UInt8) (r : T) (D : Nat → Prop) (ho : Off D mb) (w : World) (hD : ∀ j, w.heap.size ≤ j → D j) (vi c : Nat) (hm : Met w mb vi c) (hvi : vi + spineT l < 999999999999) (p : Option Addr) (ht : TreeAt w D p (.node l k v r)) (hbal : (T.node l k v r).Bal) (hsz : l.size + 1 + r.size ≤ 1048576),
    Calls Tryz.prog 112 #[.pointer p, .pointer (mptr mb)] w (FirstR D (firstT k v r l) mb (vi + 1 + spineT l) c w) := by
  intro l
  induction l with
  | nil =>
    intro k v r D ho w hD vi c hm hvi p ht hbal hsz
    obtain ⟨tb, kp2, kc2, vp2, vc2, lp, rp, rfl, hdt, trow, hk2, hv2, hl, hr⟩ := ht
    obtain rfl : lp = none := hl
    obtain ⟨W1, hW1⟩ : ∃ x, x = w.alloc (.cells #[.slice none 0 0, .slice none 0 0] 61) := ⟨_, rfl⟩
    have hz : W1.heap.size = w.heap.size + 1 := by rw [hW1]; simp
    have hB : Below w.heap.size w W1 := by rw [hW1]; exact (Below.refl _ w).alloc (Nat.le_refl _) _
    have r0 : W1.heap[w.heap.size]? = some (.cells #[.slice none 0 0, .slice none 0 0] 61) := by rw [hW1]; exact heap_alloc_new _ _
    have htl := row_ltT trow
    have r1 := (hB.block tb htl).trans trow
    have hml := hm.lt
    have n0 : mb ≠ some w.heap.size := fun e => by have := hml _ e; omega
    have n1 : mb ≠ some tb := fun e => ho _ e hdt
    have hgB := grown_of_below hB mb
    have CV := Lib.hid (metVisit W1 (hm.below hB) (by omega))
    have hD' : ∀ k, k < w.heap.size → D k → D k ∧ k ≠ w.heap.size := fun k hk h => ⟨h, by omega⟩
    have hoff : Off (fun j => D j ∧ j ≠ w.heap.size) mb := fun b e h => ho b e h.1
    have HF := Lib.hid (show ∀ W, W1.grownBy W mb → Met W mb (vi + 1) c → FirstR D (firstT k v r .nil) mb (vi + 1 + spineT .nil) c w (.returned (.tuple #[pairV kp2 kc2 k vp2 vc2 v, .pointer rp])) ((W.setCell ⟨w.heap.size, 0, none⟩ (.slice kp2 k.length kc2)).setCell ⟨w.heap.size, 1, none⟩ (.slice vp2 v.length vc2)) from fun W hg hmm =>
      first_end (X := ((k, v), r)) (grown_trans hgB hg) (Nat.le_refl _) n0 ((hk2.mono hD').grown hoff (grown_trans hgB hg)) ((hv2.mono hD').grown hoff (grown_trans hgB hg)) ((hr.mono hD').grown hoff (grown_trans hgB hg)) hmm)
    have HC := Lib.hid (show ∀ w', W1.grownBy w' mb → w'.cell? ⟨tb, 0, none⟩ = some (.slice kp2 k.length kc2) ∧ w'.cell? ⟨tb, 1, none⟩ = some (.slice vp2 v.length vc2) ∧ w'.cell? ⟨tb, 2, none⟩ = some (.pointer none) ∧ w'.cell? ⟨tb, 3, none⟩ = some (.pointer rp) ∧ w'.heap[w.heap.size]? = some (.cells #[.slice none 0 0, .slice none 0 0] 61) from fun w' hg => by
      have r1' := grown_row hg r1 n1
      exact ⟨cell_of_row w' _ 0 _ _ (0, 0) r1', cell_of_row w' _ 1 _ _ (0, 0) r1', cell_of_row w' _ 2 _ _ (0, 0) r1', cell_of_row w' _ 3 _ _ (0, 0) r1', grown_row hg r0 n0⟩)
    have hne : tb ≠ w.heap.size := by omega
    clear hk2 hv2 hr hm hD r0 r1 trow hB hgB hbal hoff hD'
    go_enter Tryz.func112, Tryz.ntmps112
    go_wp2_with fail
    rw [← hW1]
    clear hW1
    go_wp2_with first
      | (go_at_call 46; ((with_reducible refine (CV.out).mono ?_)); rintro e w1 ⟨rfl, hm1, hg1⟩; have HM1 := Lib.hid hm1; have HG1 := Lib.hid hg1; obtain ⟨d0, d1, d2, d3, d4⟩ := HC.out _ hg1; clear hm1 hg1)
      | fail
    have e0 : w1.cell? ⟨w.heap.size, 0, none⟩ = some (.slice none 0 0) := cell_of_row w1 _ 0 _ _ (0, 0) d4
    have e1 : w1.cell? ⟨w.heap.size, 1, none⟩ = some (.slice none 0 0) := cell_of_row w1 _ 1 _ _ (0, 0) d4
    have e2 : w1.frozen? ⟨w.heap.size, 0, none⟩ = false := frozen_of_row w1 _ 0 _ _ d4
    have e3 : w1.frozen? ⟨w.heap.size, 1, none⟩ = false := frozen_of_row w1 _ 1 _ _ d4
    clear d4
    go_region_held3 (fun w' => w'.cell? ⟨tb, 0, none⟩ = some (.slice kp2 k.length kc2) ∧ w'.cell? ⟨tb, 1, none⟩ = some (.slice vp2 v.length vc2) ∧ w'.cell? ⟨tb, 3, none⟩ = some (.pointer rp))
      (first | exact ⟨(cell_set2 _ _ hne).trans d0, (cell_set2 _ _ hne).trans d1, (cell_set2 _ _ hne).trans d3⟩ | exact ⟨d0, d1, d3⟩ | go_keep | fail) (fail)
    go_wp2
    refine bodyPost_ret (v := .tuple #[pairV kp2 kc2 k vp2 vc2 v, .pointer rp]) ?_ rfl (first_dr (HF.out _ HG1.out HM1.out))
    rw [results_cell_tmpF rfl]
    simp [go_sem, asAddr, Result.andThen, e0, e1]
  | node a k' v' b IHa IHb =>
    intro k v r D ho w hD vi c hm hvi p ht hbal hsz
    obtain ⟨tb, kp2, kc2, vp2, vc2, lp, rp, rfl, hdt, trow, hk2, hv2, hl, hr⟩ := ht
    obtain ⟨lb, rfl⟩ := hl.some_
    have hfe := first_even hbal
    have hfl := first_len a k' v' b hbal.2.1.2.1 hbal.2.1.2.2
    have hspine : spineT (T.node a k' v' b) = 1 + spineT a := rfl
    have hfirst : firstT k v r (.node a k' v' b) = ((firstT k' v' b a).1, evenF (firstT k' v' b a).2 k v r) := rfl
    rw [hspine] at hvi
    simp only [T.size] at hsz
    obtain ⟨W1, hW1⟩ : ∃ x, x = w.alloc (.cells #[.slice none 0 0, .slice none 0 0] 61) := ⟨_, rfl⟩
    have hz : W1.heap.size = w.heap.size + 1 := by rw [hW1]; simp
    have hB : Below w.heap.size w W1 := by rw [hW1]; exact (Below.refl _ w).alloc (Nat.le_refl _) _
    have r0 : W1.heap[w.heap.size]? = some (.cells #[.slice none 0 0, .slice none 0 0] 61) := by rw [hW1]; exact heap_alloc_new _ _
    have htl := row_ltT trow
    have r1 := (hB.block tb htl).trans trow
    have hml := hm.lt
    have n0 : mb ≠ some w.heap.size := fun e => by have := hml _ e; omega
    have n1 : mb ≠ some tb := fun e => ho _ e hdt
    have hgB := grown_of_below hB mb
    have CV := Lib.hid (metVisit W1 (hm.below hB) (by omega))
    have hD' : ∀ k, k < w.heap.size → D k → D k ∧ k ≠ w.heap.size := fun k hk h => ⟨h, by omega⟩
    have hoff : Off (fun j => D j ∧ j ≠ w.heap.size) mb := fun b e h => ho b e h.1
    have hDW : ∀ w', W1.grownBy w' mb → ∀ j, w'.heap.size ≤ j → D j ∧ j ≠ w.heap.size := fun w' hg j hj => by
      have := hg.size
      exact ⟨hD j (by omega), by omega⟩
    have CF := Lib.hid (show ∀ w', W1.grownBy w' mb → Met w' mb (vi + 1) c → Calls Tryz.prog 112 #[.pointer (some ⟨lb, 0, none⟩), .pointer (mptr mb)] w' (FirstR (fun j => D j ∧ j ≠ w.heap.size) (firstT k' v' b a) mb (vi + 1 + 1 + spineT a) c w') from fun w' hg hmm =>
      IHa k' v' b (fun j => D j ∧ j ≠ w.heap.size) hoff w' (hDW w' hg) (vi + 1) c hmm (by omega) _ ((hl.mono hD').grown hoff (grown_trans hgB hg)) hbal.2.1 (by omega))
    have HC := Lib.hid (show ∀ w', W1.grownBy w' mb → w'.cell? ⟨tb, 0, none⟩ = some (.slice kp2 k.length kc2) ∧ w'.cell? ⟨tb, 1, none⟩ = some (.slice vp2 v.length vc2) ∧ w'.cell? ⟨tb, 2, none⟩ = some (.pointer (some ⟨lb, 0, none⟩)) ∧ w'.cell? ⟨tb, 3, none⟩ = some (.pointer rp) ∧ w'.heap[w.heap.size]? = some (.cells #[.slice none 0 0, .slice none 0 0] 61) from fun w' hg => by
      have r1' := grown_row hg r1 n1
      exact ⟨cell_of_row w' _ 0 _ _ (0, 0) r1', cell_of_row w' _ 1 _ _ (0, 0) r1', cell_of_row w' _ 2 _ _ (0, 0) r1', cell_of_row w' _ 3 _ _ (0, 0) r1', grown_row hg r0 n0⟩)
    rw [hfirst, hspine]
    obtain ⟨⟨⟨k1, v1⟩, t1⟩, hX⟩ : ∃ X, firstT k' v' b a = X := ⟨_, rfl⟩
    rw [hX] at hfe hfl CF ⊢
    dsimp only at hfe hfl ⊢
    have CE := Lib.hid (show ∀ w' q, W1.grownBy w' mb → TreeAt w' (fun j => D j ∧ j ≠ w.heap.size) q t1 → Calls Tryz.prog 61 #[.pointer q, pairV kp2 kc2 k vp2 vc2 v, .pointer rp] w' (PtrT (fun j => D j ∧ j ≠ w.heap.size) (evenF t1 k v r) w') from fun w' q hg hq =>
      treeEven w' _ (hDW w' hg) hq ((hr.mono hD').grown hoff (grown_trans hgB hg)) ((hk2.mono hD').grown hoff (grown_trans hgB hg)) ((hv2.mono hD').grown hoff (grown_trans hgB hg)) (by omega) hfe)
    have hne : tb ≠ w.heap.size := by omega
    have HGB := Lib.hid hgB
    have HOFF := Lib.hid hoff
    clear hk2 hv2 hl hr hm hD r0 r1 trow hB hgB hbal hoff hD' IHa IHb hDW hX hfe hfirst hspine
    go_enter Tryz.func112, Tryz.ntmps112
    go_wp2_with fail
    rw [← hW1]
    clear hW1
    go_wp2_with first
      | (go_at_call 46; ((with_reducible refine (CV.out).mono ?_)); rintro e w1 ⟨rfl, hm1, hg1⟩; have HM1 := Lib.hid hm1; have HG1 := Lib.hid hg1; obtain ⟨d0, d1, d2, d3, d4⟩ := HC.out _ hg1; clear hm1 hg1 d4)
      | (go_at_call 112; ((with_reducible refine (CF.out _ HG1.out HM1.out).mono ?_)); rintro e w2 ⟨kp, kc, vp, vc, q, rfl, hk2, hv2, ht2, hm2, hg2⟩; have HK2 := Lib.hid hk2; have HV2 := Lib.hid hv2; have HT2 := Lib.hid ht2; have HM2 := Lib.hid hm2; have HG2 := Lib.hid (grown_trans HG1.out hg2); clear hk2 hv2 ht2 hm2 hg2)
      | fail
    obtain ⟨W3, hW3⟩ : ∃ x, x = w2.alloc (.cells #[.slice kp k1.length kc, .slice vp v1.length vc] 61) := ⟨_, rfl⟩
    have hb3 : Below w2.heap.size w2 W3 := by rw [hW3]; exact (Below.refl _ w2).alloc (Nat.le_refl _) _
    have r3 : W3.heap[w2.heap.size]? = some (.cells #[.slice kp k1.length kc, .slice vp v1.length vc] 61) := by rw [hW3]; exact heap_alloc_new _ _
    have hg3 : W1.grownBy W3 mb := grown_trans HG2.out (grown_of_below hb3 mb)
    have hn3 : mb ≠ some w2.heap.size := fun e => by have := HM2.out.lt _ e; omega
    have ht3 := HT2.out.below hb3
    have hk3 := HK2.out.below hb3
    have hv3 := HV2.out.below hb3
    have hm3 := HM2.out.below hb3
    rw [← hW3]
    clear hW3 d0 d1 d2 d3
    have CE3 := Lib.hid (CE.out W3.drew q (grown_trans hg3 (grown_dr _ _)) (ht3.below (Below.refl _ W3).drew))
    have HS := Lib.hid (show ∀ w', Below W3.heap.size W3 w' → w'.cell? ⟨w2.heap.size, 0, none⟩ = some (.slice kp k1.length kc) ∧ w'.cell? ⟨w2.heap.size, 1, none⟩ = some (.slice vp v1.length vc) ∧ w'.cell? ⟨tb, 0, none⟩ = some (.slice kp2 k.length kc2) ∧ w'.cell? ⟨tb, 1, none⟩ = some (.slice vp2 v.length vc2) ∧ w'.cell? ⟨tb, 3, none⟩ = some (.pointer rp) from fun w' hb => by
      obtain ⟨x0, x1, _, x3, _⟩ := HC.out w' (grown_trans hg3 (grown_of_below hb mb))
      have r3' := (hb.block _ (row_ltT r3)).trans r3
      exact ⟨cell_of_row w' _ 0 _ _ (0, 0) r3', cell_of_row w' _ 1 _ _ (0, 0) r3', x0, x1, x3⟩)
    have HB4 := Lib.hid (fun w' (hb : Below W3.heap.size W3 w') => (HC.out w' (grown_trans hg3 (grown_of_below hb mb))).2.2.2.2)
    have hne2 : w2.heap.size ≠ w.heap.size := by have := HG2.out.size; omega
    have HT3 := Lib.hid ht3
    have HK3 := Lib.hid hk3
    have HV3 := Lib.hid hv3
    have HM3 := Lib.hid hm3
    have HG3 := Lib.hid hg3
    clear ht3 hk3 hv3 hm3 hg3 r3 hb3
    go_region_held3 (fun w' => w'.cell? ⟨w2.heap.size, 0, none⟩ = some (.slice kp k1.length kc) ∧ w'.cell? ⟨w2.heap.size, 1, none⟩ = some (.slice vp v1.length vc) ∧ w'.cell? ⟨tb, 0, none⟩ = some (.slice kp2 k.length kc2) ∧ w'.cell? ⟨tb, 1, none⟩ = some (.slice vp2 v.length vc2) ∧ w'.cell? ⟨tb, 3, none⟩ = some (.pointer rp))
      (first | exact ⟨(cell_set2 _ _ hne2).trans z0, (cell_set2 _ _ hne2).trans z1, (cell_set2 _ _ hne).trans z2, (cell_set2 _ _ hne).trans z3, (cell_set2 _ _ hne).trans z4⟩ | exact HS.out _ (HB5.out.drew) | exact HS.out _ HB5.out | exact HS.out _ (Below.refl _ _) | exact HS.out _ (Below.refl _ _).drew | fail)
      (first | (go_at_call 61; ((with_reducible refine (CE3.out).mono ?_)); rintro e w5 ⟨b5, rfl, ht5, hb5⟩; have HT5 := Lib.hid ht5; have HB5 := Lib.hid (show Below W3.heap.size W3 w5 from (Below.refl _ W3).drew.trans hb5); obtain ⟨z0, z1, z2, z3, z4⟩ := HS.out _ HB5.out; have rz := HB4.out _ HB5.out; have e0 : w5.cell? ⟨w.heap.size, 0, none⟩ = some (.slice none 0 0) := cell_of_row w5 _ 0 _ _ (0, 0) rz; have e1 : w5.cell? ⟨w.heap.size, 1, none⟩ = some (.slice none 0 0) := cell_of_row w5 _ 1 _ _ (0, 0) rz; have e2 : w5.frozen? ⟨w.heap.size, 0, none⟩ = false := frozen_of_row w5 _ 0 _ _ rz; have e3 : w5.frozen? ⟨w.heap.size, 1, none⟩ = false := frozen_of_row w5 _ 1 _ _ rz; clear rz ht5 hb5) | fail)
    go_wp2
    have hg5 := grown_trans HG3.out (grown_of_below HB5.out mb)
    have hfin := first_end (D := D) (X := ((k1, v1), evenF t1 k v r)) (b := w.heap.size) (grown_trans HGB.out hg5) (Nat.le_refl _) n0 (HK3.out.below HB5.out) (HV3.out.below HB5.out) HT5.out (HM3.out.below HB5.out)
    have e : vi + 1 + (1 + spineT a) = vi + 1 + 1 + spineT a := by omega
    rw [← e] at hfin
    refine bodyPost_ret (v := .tuple #[pairV kp kc k1 vp vc v1, .pointer (some ⟨b5, 0, none⟩)]) ?_ rfl hfin
    rw [results_cell_tmpF rfl]
    simp [go_sem, asAddr, Result.andThen, e0, e1]
set_option maxHeartbeats 4000000 in
set_option maxRecDepth 100000 in
theorem joinEven (w : World) (D : Nat → Prop) (hD : ∀ j, w.heap.size ≤ j → D j) {lp rp kp vp : Option Addr} {kc vc : Nat} {l r : T} {k v : List UInt8} (hl : TreeAt w D lp l) (hr : TreeAt w D rp r) (hk : IsD w D kp kc k) (hv : IsD w D vp vc v) (hsz : l.size + 1 + r.size ≤ 1048576) (h0 : evenB l.size r.size = true) :
    Calls Tryz.prog 113 #[.pointer lp, pairV kp kc k vp vc v, .pointer rp] w (PtrT D (joinT l k v r) w) := by
  have hB : Below w.heap.size w (w.alloc (.cells #[.slice kp k.length kc, .slice vp v.length vc] 61)) := (Below.refl _ w).alloc (Nat.le_refl _) _
  obtain ⟨W2, hW2⟩ : ∃ x, x = w.alloc (.cells #[.slice kp k.length kc, .slice vp v.length vc] 61) := ⟨_, rfl⟩
  rw [← hW2] at hB
  have hz : W2.heap.size = w.heap.size + 1 := by rw [hW2]; simp
  have r0 : W2.heap[w.heap.size]? = some (.cells #[.slice kp k.length kc, .slice vp v.length vc] 61) := by rw [hW2]; exact heap_alloc_new _ _
  have c0 : W2.cell? ⟨w.heap.size, 0, none⟩ = some (.slice kp k.length kc) := cell_of_row W2 _ 0 _ _ (0, 0) r0
  have c1 : W2.cell? ⟨w.heap.size, 1, none⟩ = some (.slice vp v.length vc) := cell_of_row W2 _ 1 _ _ (0, 0) r0
  have ZL := Lib.hid (treeSize W2 (hl.below hB))
  have ZR := Lib.hid (treeSize W2 (hr.below hB))
  have CE := Lib.hid (evenZ W2 l.size r.size (by omega) (by omega) _ _ rfl rfl)
  have hD2 : ∀ j, W2.heap.size ≤ j → D j := fun j hj => hD j (by omega)
  have CN := Lib.hid (treeNode W2 D hD2 (hl.below hB) (hr.below hB) (hk.below hB) (hv.below hB) (by omega))
  have HB := Lib.hid hB
  rw [h0] at CE
  rw [join_even h0]
  clear hl hr hk hv hD hD2 hB r0 hz h0
  go_enter Tryz.func113, Tryz.ntmps113
  go_wp2_with fail
  rw [← hW2]
  clear hW2
  go_wp2_with first | (go_at_call 64; first | (((with_reducible refine (ZL.out).mono ?_)); rintro e w1 ⟨rfl, rfl⟩) | (((with_reducible refine (ZR.out).mono ?_)); rintro e w1 ⟨rfl, rfl⟩) | fail) | (go_at_call 114; ((with_reducible refine (CE.out).mono ?_)); rintro e w1 ⟨rfl, rfl⟩) | (go_at_call 115; ((with_reducible refine (CN.out).mono ?_)); rintro e w1 ⟨p1, rfl, ht1, hb1⟩; have HT1 := Lib.hid ht1; have HB1 := Lib.hid hb1; clear ht1 hb1) | fail
  go_ret
  exact ptrT_of ⟨_, rfl, HT1.out, HB.out.trans (HB1.out.mono HB.out.size)⟩
set_option maxHeartbeats 4000000 in
set_option maxRecDepth 100000 in
theorem joinLeft (w : World) (D : Nat → Prop) (hD : ∀ j, w.heap.size ≤ j → D j) {lp rp kp vp : Option Addr} {kc vc : Nat} {r a b : T} {k v k' v' : List UInt8} (hl : TreeAt w D lp (.node a k' v' b)) (hr : TreeAt w D rp r) (hk : IsD w D kp kc k) (hv : IsD w D vp vc v) (hbl : (T.node a k' v' b).Bal) (hbr : r.Bal) (hsz : a.size + 1 + b.size + 1 + r.size ≤ 1048576) (h0 : evenB (T.node a k' v' b).size r.size = false) (h1 : r.size < a.size + 1 + b.size)
    (IH : ∀ (w' : World) (hD' : ∀ j, w'.heap.size ≤ j → D j) (q : Option Addr), TreeAt w' D q b → TreeAt w' D rp r → IsD w' D kp kc k → IsD w' D vp vc v → Calls Tryz.prog 113 #[.pointer q, pairV kp kc k vp vc v, .pointer rp] w' (PtrT D (joinT b k v r) w')) : Calls Tryz.prog 113 #[.pointer lp, pairV kp kc k vp vc v, .pointer rp] w (PtrT D (joinT (.node a k' v' b) k v r) w) := by
  obtain ⟨e1, e2⟩ := join_left hbl hbr h0 (by simp only [T.size]; exact h1)
  rw [e1]
  have hjs := join_size k v hbl.2.2 hbr
  have hB : Below w.heap.size w (w.alloc (.cells #[.slice kp k.length kc, .slice vp v.length vc] 61)) := (Below.refl _ w).alloc (Nat.le_refl _) _
  obtain ⟨W2, hW2⟩ : ∃ x, x = w.alloc (.cells #[.slice kp k.length kc, .slice vp v.length vc] 61) := ⟨_, rfl⟩
  rw [← hW2] at hB
  have hz : W2.heap.size = w.heap.size + 1 := by rw [hW2]; simp
  have r0 : W2.heap[w.heap.size]? = some (.cells #[.slice kp k.length kc, .slice vp v.length vc] 61) := by rw [hW2]; exact heap_alloc_new _ _
  have ZL := Lib.hid (treeSize W2 (hl.below hB))
  have ZR := Lib.hid (treeSize W2 (hr.below hB))
  have CE := Lib.hid (evenZ W2 (a.size + 1 + b.size) r.size (by omega) (by omega) _ _ rfl rfl)
  rw [show evenB (a.size + 1 + b.size) r.size = false from h0] at CE
  obtain ⟨tb, kp2, kc2, vp2, vc2, lp2, rp2, rfl, hdt, trow, hk2, hv2, hl2, hr2⟩ := hl
  have r1 := (hB.block tb (row_ltT trow)).trans trow
  have hD2 : ∀ w', Below W2.heap.size W2 w' → ∀ j, w'.heap.size ≤ j → D j := fun w' hb j hj => hD j (by have := hb.size; omega)
  have up : ∀ w', Below W2.heap.size W2 w' → Below w.heap.size w w' := fun w' hb => hB.trans (hb.mono hB.size)
  have CJ := Lib.hid (show ∀ w', Below W2.heap.size W2 w' → Calls Tryz.prog 113 #[.pointer rp2, pairV kp kc k vp vc v, .pointer rp] w' (PtrT D (joinT b k v r) w') from fun w' hb => IH w' (hD2 w' hb) _ (hr2.below (up w' hb)) (hr.below (up w' hb)) (hk.below (up w' hb)) (hv.below (up w' hb)))
  have CV := Lib.hid (show ∀ w' q, Below W2.heap.size W2 w' → TreeAt w' D q (joinT b k v r) → Calls Tryz.prog 61 #[.pointer lp2, pairV kp2 kc2 k' vp2 vc2 v', .pointer q] w' (PtrT D (evenF a k' v' (joinT b k v r)) w') from fun w' q hb hq => treeEven w' D (hD2 w' hb) (hl2.below (up w' hb)) hq (hk2.below (up w' hb)) (hv2.below (up w' hb)) (by omega) e2)
  have HS := Lib.hid (show ∀ w', Below W2.heap.size W2 w' → w'.cell? ⟨w.heap.size, 0, none⟩ = some (.slice kp k.length kc) ∧ w'.cell? ⟨w.heap.size, 1, none⟩ = some (.slice vp v.length vc) ∧ w'.cell? ⟨tb, 0, none⟩ = some (.slice kp2 k'.length kc2) ∧ w'.cell? ⟨tb, 1, none⟩ = some (.slice vp2 v'.length vc2) ∧ w'.cell? ⟨tb, 2, none⟩ = some (.pointer lp2) ∧ w'.cell? ⟨tb, 3, none⟩ = some (.pointer rp2) from fun w' hb => by
    have a0 := (hb.block _ (row_ltT r0)).trans r0
    have a1 := (hb.block _ (row_ltT r1)).trans r1
    exact ⟨cell_of_row w' _ 0 _ _ (0, 0) a0, cell_of_row w' _ 1 _ _ (0, 0) a0, cell_of_row w' _ 0 _ _ (0, 0) a1, cell_of_row w' _ 1 _ _ (0, 0) a1, cell_of_row w' _ 2 _ _ (0, 0) a1, cell_of_row w' _ 3 _ _ (0, 0) a1⟩)
  have UP := Lib.hid up
  have hgt : ((a.size + 1 + b.size : Nat) : Int) > (r.size : Int) := by omega
  obtain ⟨N, hN⟩ : ∃ N, a.size + 1 + b.size = N := ⟨_, rfl⟩
  simp only [T.size] at CE ZL ZR
  rw [hN] at CE hgt ZL
  clear hl2 hr2 hk hv hk2 hv2 hD hD2 hB r0 r1 trow hz h0 IH e1 e2 hbl hbr up hjs hN hsz hr h1
  go_enter Tryz.func113, Tryz.ntmps113
  go_wp2_with fail
  rw [← hW2]
  clear hW2
  go_wp2_with first | (go_at_call 64; first | (((with_reducible refine (ZL.out).mono ?_)); rintro e w1 ⟨rfl, rfl⟩) | (((with_reducible refine (ZR.out).mono ?_)); rintro e w1 ⟨rfl, rfl⟩) | fail) | (go_at_call 114; ((with_reducible refine (CE.out).mono ?_)); rintro e w1 ⟨rfl, rfl⟩) | fail
  go_region_held3 (fun w' => w'.cell? ⟨w.heap.size, 0, none⟩ = some (.slice kp k.length kc) ∧ w'.cell? ⟨w.heap.size, 1, none⟩ = some (.slice vp v.length vc) ∧ w'.cell? ⟨tb, 0, none⟩ = some (.slice kp2 k'.length kc2) ∧ w'.cell? ⟨tb, 1, none⟩ = some (.slice vp2 v'.length vc2) ∧ w'.cell? ⟨tb, 2, none⟩ = some (.pointer lp2) ∧ w'.cell? ⟨tb, 3, none⟩ = some (.pointer rp2))
    (first | exact HS.out _ HB5.out | exact HS.out _ HB4.out | exact HS.out _ (Below.refl _ _).drew | exact HS.out _ (Below.refl _ _) | fail)
    (first | (go_at_call 113; ((with_reducible refine (CJ.out _ (Below.refl _ _).drew).mono ?_)); rintro e w4 ⟨b4, rfl, ht4, hb4⟩; have HT4 := Lib.hid ht4; have HB4 := Lib.hid (show Below W2.heap.size W2 w4 from (Below.refl _ W2).drew.trans hb4); clear ht4 hb4) | (go_at_call 61; ((with_reducible refine (CV.out _ _ HB4.out HT4.out).mono ?_)); rintro e w5 ⟨b5, rfl, ht5, hb5⟩; have HT5 := Lib.hid ht5; have HB5 := Lib.hid (HB4.out.trans (hb5.mono HB4.out.size)); clear ht5 hb5) | fail)
  go_wp2
  go_ret
  exact ⟨_, rfl, HT5.out, UP.out _ HB5.out⟩
set_option maxHeartbeats 4000000 in
set_option maxRecDepth 100000 in
theorem joinRight (w : World) (D : Nat → Prop) (hD : ∀ j, w.heap.size ≤ j → D j) {lp rp kp vp : Option Addr} {kc vc : Nat} {l a b : T} {k v k' v' : List UInt8} (hl : TreeAt w D lp l) (hr : TreeAt w D rp (.node a k' v' b)) (hk : IsD w D kp kc k) (hv : IsD w D vp vc v) (hbl : l.Bal) (hbr : (T.node a k' v' b).Bal) (hsz : l.size + 1 + (a.size + 1 + b.size) ≤ 1048576) (h0 : evenB l.size (T.node a k' v' b).size = false) (h1 : ¬ (T.node a k' v' b).size < l.size)
    (IH : ∀ (w' : World) (hD' : ∀ j, w'.heap.size ≤ j → D j) (q : Option Addr), TreeAt w' D q a → TreeAt w' D lp l → IsD w' D kp kc k → IsD w' D vp vc v → Calls Tryz.prog 113 #[.pointer lp, pairV kp kc k vp vc v, .pointer q] w' (PtrT D (joinT l k v a) w')) : Calls Tryz.prog 113 #[.pointer lp, pairV kp kc k vp vc v, .pointer rp] w (PtrT D (joinT l k v (.node a k' v' b)) w) := by
  obtain ⟨e1, e2⟩ := join_right hbl hbr h0 h1
  rw [e1]
  have hjs := join_size k v hbl hbr.2.1
  have hB : Below w.heap.size w (w.alloc (.cells #[.slice kp k.length kc, .slice vp v.length vc] 61)) := (Below.refl _ w).alloc (Nat.le_refl _) _
  obtain ⟨W2, hW2⟩ : ∃ x, x = w.alloc (.cells #[.slice kp k.length kc, .slice vp v.length vc] 61) := ⟨_, rfl⟩
  rw [← hW2] at hB
  have hz : W2.heap.size = w.heap.size + 1 := by rw [hW2]; simp
  have r0 : W2.heap[w.heap.size]? = some (.cells #[.slice kp k.length kc, .slice vp v.length vc] 61) := by rw [hW2]; exact heap_alloc_new _ _
  have ZL := Lib.hid (treeSize W2 (hl.below hB))
  have ZR := Lib.hid (treeSize W2 (hr.below hB))
  have CE := Lib.hid (evenZ W2 l.size (a.size + 1 + b.size) (by omega) (by omega) _ _ rfl rfl)
  rw [show evenB l.size (a.size + 1 + b.size) = false from h0] at CE
  obtain ⟨tb, kp2, kc2, vp2, vc2, lp2, rp2, rfl, hdt, trow, hk2, hv2, hl2, hr2⟩ := hr
  have r1 := (hB.block tb (row_ltT trow)).trans trow
  have hD2 : ∀ w', Below W2.heap.size W2 w' → ∀ j, w'.heap.size ≤ j → D j := fun w' hb j hj => hD j (by have := hb.size; omega)
  have up : ∀ w', Below W2.heap.size W2 w' → Below w.heap.size w w' := fun w' hb => hB.trans (hb.mono hB.size)
  have CJ := Lib.hid (show ∀ w', Below W2.heap.size W2 w' → Calls Tryz.prog 113 #[.pointer lp, pairV kp kc k vp vc v, .pointer lp2] w' (PtrT D (joinT l k v a) w') from fun w' hb => IH w' (hD2 w' hb) _ (hl2.below (up w' hb)) (hl.below (up w' hb)) (hk.below (up w' hb)) (hv.below (up w' hb)))
  have CV := Lib.hid (show ∀ w' q, Below W2.heap.size W2 w' → TreeAt w' D q (joinT l k v a) → Calls Tryz.prog 61 #[.pointer q, pairV kp2 kc2 k' vp2 vc2 v', .pointer rp2] w' (PtrT D (evenF (joinT l k v a) k' v' b) w') from fun w' q hb hq => treeEven w' D (hD2 w' hb) hq (hr2.below (up w' hb)) (hk2.below (up w' hb)) (hv2.below (up w' hb)) (by omega) e2)
  have HS := Lib.hid (show ∀ w', Below W2.heap.size W2 w' → w'.cell? ⟨w.heap.size, 0, none⟩ = some (.slice kp k.length kc) ∧ w'.cell? ⟨w.heap.size, 1, none⟩ = some (.slice vp v.length vc) ∧ w'.cell? ⟨tb, 0, none⟩ = some (.slice kp2 k'.length kc2) ∧ w'.cell? ⟨tb, 1, none⟩ = some (.slice vp2 v'.length vc2) ∧ w'.cell? ⟨tb, 2, none⟩ = some (.pointer lp2) ∧ w'.cell? ⟨tb, 3, none⟩ = some (.pointer rp2) from fun w' hb => by
    have a0 := (hb.block _ (row_ltT r0)).trans r0
    have a1 := (hb.block _ (row_ltT r1)).trans r1
    exact ⟨cell_of_row w' _ 0 _ _ (0, 0) a0, cell_of_row w' _ 1 _ _ (0, 0) a0, cell_of_row w' _ 0 _ _ (0, 0) a1, cell_of_row w' _ 1 _ _ (0, 0) a1, cell_of_row w' _ 2 _ _ (0, 0) a1, cell_of_row w' _ 3 _ _ (0, 0) a1⟩)
  have UP := Lib.hid up
  have hgt : ¬ ((l.size : Int) > ((a.size + 1 + b.size : Nat) : Int)) := by simp only [T.size] at h1; omega
  obtain ⟨N, hN⟩ : ∃ N, a.size + 1 + b.size = N := ⟨_, rfl⟩
  simp only [T.size] at CE ZL ZR
  rw [hN] at CE hgt ZR
  clear hl2 hr2 hk hv hk2 hv2 hD hD2 hB r0 r1 trow hz h0 IH e1 e2 hbl hbr up hjs hN hsz hl h1
  go_enter Tryz.func113, Tryz.ntmps113
  go_wp2_with fail
  rw [← hW2]
  clear hW2
  go_wp2_with first | (go_at_call 64; first | (((with_reducible refine (ZL.out).mono ?_)); rintro e w1 ⟨rfl, rfl⟩) | (((with_reducible refine (ZR.out).mono ?_)); rintro e w1 ⟨rfl, rfl⟩) | fail) | (go_at_call 114; ((with_reducible refine (CE.out).mono ?_)); rintro e w1 ⟨rfl, rfl⟩) | fail
  go_region_held3 (fun w' => w'.cell? ⟨w.heap.size, 0, none⟩ = some (.slice kp k.length kc) ∧ w'.cell? ⟨w.heap.size, 1, none⟩ = some (.slice vp v.length vc) ∧ w'.cell? ⟨tb, 0, none⟩ = some (.slice kp2 k'.length kc2) ∧ w'.cell? ⟨tb, 1, none⟩ = some (.slice vp2 v'.length vc2) ∧ w'.cell? ⟨tb, 2, none⟩ = some (.pointer lp2) ∧ w'.cell? ⟨tb, 3, none⟩ = some (.pointer rp2))
    (first | exact HS.out _ HB5.out | exact HS.out _ HB4.out | exact HS.out _ (Below.refl _ _).drew | exact HS.out _ (Below.refl _ _) | fail)
    (first | (go_at_call 113; ((with_reducible refine (CJ.out _ (Below.refl _ _).drew).mono ?_)); rintro e w4 ⟨b4, rfl, ht4, hb4⟩; have HT4 := Lib.hid ht4; have HB4 := Lib.hid (show Below W2.heap.size W2 w4 from (Below.refl _ W2).drew.trans hb4); clear ht4 hb4) | (go_at_call 61; ((with_reducible refine (CV.out _ _ HB4.out HT4.out).mono ?_)); rintro e w5 ⟨b5, rfl, ht5, hb5⟩; have HT5 := Lib.hid ht5; have HB5 := Lib.hid (HB4.out.trans (hb5.mono HB4.out.size)); clear ht5 hb5) | fail)
  go_wp2
  go_ret
  exact ⟨_, rfl, HT5.out, UP.out _ HB5.out⟩
set_option maxHeartbeats 4000000 in
set_option maxRecDepth 100000 in
theorem treeJoin : ∀ (n : Nat) (l r : T), l.size + r.size ≤ n → ∀ (k v : List UInt8) (D : Nat → Prop) (w : World) (hD : ∀ j, w.heap.size ≤ j → D j) (lp rp kp vp : Option Addr) (kc vc : Nat) (hl : TreeAt w D lp l) (hr : TreeAt w D rp r) (hk : IsD w D kp kc k) (hv : IsD w D vp vc v) (hbl : l.Bal) (hbr : r.Bal) (hsz : l.size + 1 + r.size ≤ 1048576),
    Calls Tryz.prog 113 #[.pointer lp, pairV kp kc k vp vc v, .pointer rp] w (PtrT D (joinT l k v r) w) := by
  intro n
  induction n with
  | zero =>
    intro l r hn k v D w hD lp rp kp vp kc vc hl hr hk hv hbl hbr hsz
    exact joinEven w D hD hl hr hk hv hsz (evenB_iff.2 (by omega))
  | succ n ih =>
    intro l r hn k v D w hD lp rp kp vp kc vc hl hr hk hv hbl hbr hsz
    by_cases h0 : evenB l.size r.size = true
    · exact joinEven w D hD hl hr hk hv hsz h0
    · have h0' : evenB l.size r.size = false := by simpa using h0
      by_cases h1 : r.size < l.size
      · cases l with
        | nil => simp [T.size] at h1
        | node a k' v' b =>
          simp only [T.size] at hn hsz h1
          exact joinLeft w D hD hl hr hk hv hbl hbr hsz h0' h1 fun w' hD' q hq h3 h4 h5 => ih b r (by omega) k v D w' hD' q rp kp vp kc vc hq h3 h4 h5 hbl.2.2 hbr (by omega)
      · cases r with
        | nil => exact absurd (evenB_not.1 h0') (by simp only [T.size] at h1 ⊢; omega)
        | node a k' v' b =>
          simp only [T.size] at hn hsz h1
          exact joinRight w D hD hl hr hk hv hbl hbr hsz h0' (by simp only [T.size]; exact h1) fun w' hD' q hq h3 h4 h5 => ih l a (by omega) k v D w' hD' lp q kp vp kc vc h3 hq h4 h5 hbl hbr.2.1 (by omega)
end Go.Proofs.YtmbiiemlepfoaaaGreatDoor
