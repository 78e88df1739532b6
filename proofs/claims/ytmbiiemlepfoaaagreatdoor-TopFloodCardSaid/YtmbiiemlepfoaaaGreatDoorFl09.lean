/- The walks of put, Put. A trie's put, in plain Lean: what it makes is fit. The walks of slices.Clone of nodes, node.Branch. The walk of node.Branch. -/
import Derived.Test.YtmbiiemlepfoaaaGreatDoorFl05
import Derived.Test.YtmbiiemlepfoaaaGreatDoorFl08
import Derived.Deep.RegionWith

namespace Go.Proofs.YtmbiiemlepfoaaaGreatDoor
open Go.RowKit
set_option linter.unusedVariables false
def pathT (k : List UInt8) : T → Nat
  | .nil => 0
  | .node l k' _ r => if Lib.compareBytes k k' = 0 then 1 else if Lib.compareBytes k k' = 1 then 1 + pathT k r else 1 + pathT k l
theorem pathT_le (k : List UInt8) : ∀ t : T, pathT k t ≤ t.size
  | .nil => Nat.le_refl _
  | .node l k' v' r => by
    have h1 := pathT_le k l
    have h2 := pathT_le k r
    unfold pathT
    simp only [T.size]
    split
    · omega
    · split <;> omega
def PutR (D : Nat → Prop) (k v : List UInt8) (t : T) (mb : Option Nat) (vi c : Nat) (w : World) (e : Ending) (w' : World) : Prop :=
  ∃ b, e = .returned (.pointer (some ⟨b, 0, none⟩)) ∧ TreeAt w' D (some ⟨b, 0, none⟩) (putT k v t) ∧ Met w' mb (vi + pathT k t) (c + pathT k t) ∧ w.grownBy w' mb
theorem treePutNil (w : World) (D : Nat → Prop) (hD : ∀ j, w.heap.size ≤ j → D j) {mb : Option Nat} {vi c : Nat} (hm : Met w mb vi c) {kp vp : Option Addr} {kc vc : Nat} {k v : List UInt8} (hk : IsD w D kp kc k) (hv : IsD w D vp vc v) :
    Calls Tryz.prog 62 #[.pointer none, pairV kp kc k vp vc v, .pointer (mptr mb)] w (PutR D k v .nil mb vi c w) := by
  have hB : Below w.heap.size w (w.alloc (.cells #[.slice kp k.length kc, .slice vp v.length vc] 61)) := (Below.refl _ w).alloc (Nat.le_refl _) _
  have CN := Lib.hid (treeNode _ D (fun j hj => hD j (Nat.le_trans hB.size hj)) TreeAt.nil TreeAt.nil (hk.below hB) (hv.below hB) (by decide))
  have HB := Lib.hid hB
  have HM := Lib.hid hm
  clear hB hk hv hD hm
  go_enter Tryz.func62, Tryz.ntmps62
  go_wp2_with (go_at_call 115; ((with_reducible refine (CN.out).mono ?_)); rintro e w1 ⟨p1, rfl, ht1, hb1⟩; have HT1 := Lib.hid ht1; have HB1 := Lib.hid hb1; clear ht1 hb1)
  go_ret
  obtain ⟨b, rfl⟩ := HT1.out.some_
  have hb := HB.out.trans (HB1.out.mono HB.out.size)
  exact ⟨b, rfl, HT1.out, HM.out.below hb, grown_of_below hb _⟩
set_option maxHeartbeats 4000000 in
set_option maxRecDepth 100000 in
theorem treePutNode (D : Nat → Prop) {mb : Option Nat} (ho : Off D mb) {k v : List UInt8} {l r : T} {k' v' : List UInt8}
    (IHl : ∀ (w : World) (hD : ∀ j, w.heap.size ≤ j → D j) (vi c : Nat) (hm : Met w mb vi c) (hvi : vi + l.size < 1000000000000) (hc : c + l.size < 1000000000000) (p kp vp : Option Addr) (kc vc : Nat) (ht : TreeAt w D p l) (hk : IsD w D kp kc k) (hv : IsD w D vp vc v), Calls Tryz.prog 62 #[.pointer p, pairV kp kc k vp vc v, .pointer (mptr mb)] w (PutR D k v l mb vi c w))
    (IHr : ∀ (w : World) (hD : ∀ j, w.heap.size ≤ j → D j) (vi c : Nat) (hm : Met w mb vi c) (hvi : vi + r.size < 1000000000000) (hc : c + r.size < 1000000000000) (p kp vp : Option Addr) (kc vc : Nat) (ht : TreeAt w D p r) (hk : IsD w D kp kc k) (hv : IsD w D vp vc v), Calls Tryz.prog 62 #[.pointer p, pairV kp kc k vp vc v, .pointer (mptr mb)] w (PutR D k v r mb vi c w))
    (hbal : (T.node l k' v' r).Bal) (hsz : l.size + 1 + r.size < 1048576)
    (w : World) (hD : ∀ j, w.heap.size ≤ j → D j) (vi c : Nat) (hm : Met w mb vi c) (hvi : vi + (l.size + 1 + r.size) < 1000000000000) (hc : c + (l.size + 1 + r.size) < 1000000000000) (p kp vp : Option Addr) (kc vc : Nat) (ht : TreeAt w D p (.node l k' v' r)) (hk : IsD w D kp kc k) (hv : IsD w D vp vc v) :
    Calls Tryz.prog 62 #[.pointer p, pairV kp kc k vp vc v, .pointer (mptr mb)] w (PutR D k v (.node l k' v' r) mb vi c w) := by
  obtain ⟨tb, kp2, kc2, vp2, vc2, lp, rp, rfl, hdt, trow, hk2, hv2, hl, hr⟩ := ht
  obtain ⟨W2, hW2⟩ : ∃ x, x = w.alloc (.cells #[.slice kp k.length kc, .slice vp v.length vc] 61) := ⟨_, rfl⟩
  have hz : W2.heap.size = w.heap.size + 1 := by rw [hW2]; simp
  have hB : Below w.heap.size w W2 := by rw [hW2]; exact (Below.refl _ w).alloc (Nat.le_refl _) _
  have r0 : W2.heap[w.heap.size]? = some (.cells #[.slice kp k.length kc, .slice vp v.length vc] 61) := by rw [hW2]; exact heap_alloc_new _ _
  have htl := row_ltT trow
  have r1 := (hB.block tb htl).trans trow
  have hml := hm.lt
  have n0 : mb ≠ some w.heap.size := fun e => by have := hml _ e; omega
  have n1 : mb ≠ some tb := fun e => ho _ e hdt
  have hgB := grown_of_below hB mb
  have HC := Lib.hid (show ∀ w', W2.grownBy w' mb → (w'.cell? ⟨w.heap.size, 0, none⟩ = some (.slice kp k.length kc) ∧ w'.cell? ⟨w.heap.size, 1, none⟩ = some (.slice vp v.length vc) ∧ w'.cell? ⟨tb, 0, none⟩ = some (.slice kp2 k'.length kc2) ∧ w'.cell? ⟨tb, 1, none⟩ = some (.slice vp2 v'.length vc2) ∧ w'.cell? ⟨tb, 2, none⟩ = some (.pointer lp) ∧ w'.cell? ⟨tb, 3, none⟩ = some (.pointer rp)) from fun w' hg => by
    have r0' := grown_row hg r0 n0
    have r1' := grown_row hg r1 n1
    exact ⟨cell_of_row w' _ 0 _ _ (0, 0) r0', cell_of_row w' _ 1 _ _ (0, 0) r0', cell_of_row w' _ 0 _ _ (0, 0) r1', cell_of_row w' _ 1 _ _ (0, 0) r1', cell_of_row w' _ 2 _ _ (0, 0) r1', cell_of_row w' _ 3 _ _ (0, 0) r1'⟩)
  have up : ∀ w', W2.grownBy w' mb → w.grownBy w' mb := fun w' hg => grown_trans hgB hg
  have hD' : ∀ w', W2.grownBy w' mb → ∀ j, w'.heap.size ≤ j → D j := fun w' hg j hj => hD j (Nat.le_trans (up w' hg).size hj)
  have CV := Lib.hid (metVisit W2 (hm.below hB) (by omega))
  have CC := Lib.hid (show ∀ w', W2.grownBy w' mb → Met w' mb (vi + 1) c → Calls Tryz.prog 47 #[.pointer (mptr mb), .slice kp k.length kc, .slice kp2 k'.length kc2] w' _ from fun w' hg hmm => metCompare w' hmm (by omega) ho ho (hk.grown ho (up w' hg)) (hk2.grown ho (up w' hg)))
  have CN := Lib.hid (show ∀ w', W2.grownBy w' mb → Calls Tryz.prog 115 #[.pointer lp, pairV kp kc k vp vc v, .pointer rp] w' _ from fun w' hg => treeNode w' D (hD' w' hg) (hl.grown ho (up w' hg)) (hr.grown ho (up w' hg)) (hk.grown ho (up w' hg)) (hv.grown ho (up w' hg)) (by omega))
  have CL := Lib.hid (show ∀ w', W2.grownBy w' mb → Met w' mb (vi + 1) (c + 1) → Calls Tryz.prog 62 #[.pointer lp, pairV kp kc k vp vc v, .pointer (mptr mb)] w' _ from fun w' hg hmm => IHl w' (hD' w' hg) (vi + 1) (c + 1) hmm (by omega) (by omega) _ _ _ _ _ (hl.grown ho (up w' hg)) (hk.grown ho (up w' hg)) (hv.grown ho (up w' hg)))
  have CR := Lib.hid (show ∀ w', W2.grownBy w' mb → Met w' mb (vi + 1) (c + 1) → Calls Tryz.prog 62 #[.pointer rp, pairV kp kc k vp vc v, .pointer (mptr mb)] w' _ from fun w' hg hmm => IHr w' (hD' w' hg) (vi + 1) (c + 1) hmm (by omega) (by omega) _ _ _ _ _ (hr.grown ho (up w' hg)) (hk.grown ho (up w' hg)) (hv.grown ho (up w' hg)))
  obtain ⟨tr, htr⟩ := putT_right (k := k) (v := v) hbal
  obtain ⟨tl, htl'⟩ := putT_left (k := k) (v := v) hbal
  have hsr := (putT_bal k v hbal.2.2).2
  have hsl := (putT_bal k v hbal.2.1).2
  have ER := Lib.hid (show ∀ w' q, W2.grownBy w' mb → TreeAt w' D q (putT k v r) → Calls Tryz.prog 61 #[.pointer lp, pairV kp2 kc2 k' vp2 vc2 v', .pointer q] w' _ from fun w' q hg hq => treeEven w' D (hD' w' hg) (hl.grown ho (up w' hg)) hq (hk2.grown ho (up w' hg)) (hv2.grown ho (up w' hg)) (by omega) htr.eq)
  have EL := Lib.hid (show ∀ w' q, W2.grownBy w' mb → TreeAt w' D q (putT k v l) → Calls Tryz.prog 61 #[.pointer q, pairV kp2 kc2 k' vp2 vc2 v', .pointer rp] w' _ from fun w' q hg hq => treeEven w' D (hD' w' hg) hq (hr.grown ho (up w' hg)) (hk2.grown ho (up w' hg)) (hv2.grown ho (up w' hg)) (by omega) htl'.eq)
  have UP := Lib.hid up
  have p0 : Hid (Lib.compareBytes k k' = 0 → putT k v (.node l k' v' r) = .node l k v r ∧ pathT k (.node l k' v' r) = 1) := fun h => by simp only [putT, pathT]; rw [if_pos h, if_pos h]; exact ⟨rfl, rfl⟩
  have p1 : Hid (Lib.compareBytes k k' = 1 → putT k v (.node l k' v' r) = tr ∧ pathT k (.node l k' v' r) = 1 + pathT k r) := fun h => by simp only [putT, pathT]; rw [h, if_neg (by decide), if_pos rfl, htr.eq, if_neg (by decide), if_pos rfl]; exact ⟨rfl, rfl⟩
  have p2 : Hid (Lib.compareBytes k k' = -1 → putT k v (.node l k' v' r) = tl ∧ pathT k (.node l k' v' r) = 1 + pathT k l) := fun h => by simp only [putT, pathT]; rw [h, if_neg (by decide), if_neg (by decide), htl'.eq, if_neg (by decide), if_neg (by decide)]; exact ⟨rfl, rfl⟩
  have hcr := cmp_range k k'
  clear hl hr hk hv hk2 hv2 up hD' hD hB hgB r0 r1 trow hm IHl IHr htr htl' hsr hsl hbal hz
  generalize hx : Lib.compareBytes k k' = x at *
  have hg0 := grown_rfl W2 mb
  rcases hcr with rfl | rfl | rfl
  · obtain ⟨e1, e2⟩ := p2.out rfl
    have HE1 := Lib.hid e1
    have HE2 := Lib.hid e2
    clear p0 p1 p2 hx e1 e2 CN CR ER
    go_enter Tryz.func62, Tryz.ntmps62
    go_wp2_with fail
    rw [← hW2]
    clear hW2
    go_wp2_with (go_at_call 46; ((with_reducible refine (CV.out).mono ?_)); rintro e w1 ⟨rfl, hm1, hg1⟩; have HM1 := Lib.hid hm1.dr; clear hm1)
    go_region_held3 (fun w' => w'.cell? ⟨w.heap.size, 0, none⟩ = some (.slice kp k.length kc) ∧ w'.cell? ⟨tb, 0, none⟩ = some (.slice kp2 k'.length kc2))
      (first | exact ⟨(HC.out _ (grown_step hg1 (grown_dr _ _))).1, (HC.out _ (grown_step hg1 (grown_dr _ _))).2.2.1⟩ | exact ⟨(HC.out _ hg2').1, (HC.out _ hg2').2.2.1⟩ | fail)
      (first | (go_at_call 47; ((with_reducible refine (CC.out _ (grown_step hg1 (grown_dr _ _)) HM1.out).mono ?_)); rintro e w2 ⟨rfl, hm2, hg2⟩; have HM2 := Lib.hid hm2.dr; have hg2' := grown_step (grown_step hg1 (grown_dr _ _)) hg2; clear hm2 hg2) | fail)
    go_wp2_with fail
    have hg3 := grown_step hg2' (grown_dr _ _)
    go_region_held3 (fun w' => w'.cell? ⟨w.heap.size, 0, none⟩ = some (.slice kp k.length kc) ∧ w'.cell? ⟨w.heap.size, 1, none⟩ = some (.slice vp v.length vc) ∧ w'.cell? ⟨tb, 0, none⟩ = some (.slice kp2 k'.length kc2) ∧ w'.cell? ⟨tb, 1, none⟩ = some (.slice vp2 v'.length vc2) ∧ w'.cell? ⟨tb, 2, none⟩ = some (.pointer lp) ∧ w'.cell? ⟨tb, 3, none⟩ = some (.pointer rp))
      (first | exact HC.out _ (by assumption) | fail)
      (first | (go_at_call 62; ((with_reducible refine (CL.out _ hg3 HM2.out).mono ?_)); rintro e w4 ⟨b4, rfl, ht4, hm4, hg4⟩; have HT4 := Lib.hid ht4; have HM4 := Lib.hid hm4; have hg4' := grown_step hg3 hg4; clear ht4 hm4 hg4) | (go_at_call 61; ((with_reducible refine (EL.out _ _ hg4' HT4.out).mono ?_)); rintro e w5 ⟨b5, rfl, ht5, hb5⟩; have HT5 := Lib.hid ht5; have HB5 := Lib.hid hb5; have hg5' := grown_step hg4' (grown_of_below hb5 mb); clear ht5 hb5) | fail)
    go_wp2
    go_ret
    exact ⟨_, rfl, by rw [HE1.out]; exact HT5.out, by rw [HE2.out, ← Nat.add_assoc, ← Nat.add_assoc]; exact HM4.out.below HB5.out, UP.out _ hg5'⟩
  · obtain ⟨e1, e2⟩ := p0.out rfl
    have HE1 := Lib.hid e1
    have HE2 := Lib.hid e2
    clear p0 p1 p2 hx e1 e2 CL CR ER EL
    go_enter Tryz.func62, Tryz.ntmps62
    go_wp2_with fail
    rw [← hW2]
    clear hW2
    go_wp2_with (go_at_call 46; ((with_reducible refine (CV.out).mono ?_)); rintro e w1 ⟨rfl, hm1, hg1⟩; have HM1 := Lib.hid hm1.dr; clear hm1)
    go_region_held3 (fun w' => w'.cell? ⟨w.heap.size, 0, none⟩ = some (.slice kp k.length kc) ∧ w'.cell? ⟨tb, 0, none⟩ = some (.slice kp2 k'.length kc2))
      (first | exact ⟨(HC.out _ (grown_step hg1 (grown_dr _ _))).1, (HC.out _ (grown_step hg1 (grown_dr _ _))).2.2.1⟩ | exact ⟨(HC.out _ hg2').1, (HC.out _ hg2').2.2.1⟩ | fail)
      (first | (go_at_call 47; ((with_reducible refine (CC.out _ (grown_step hg1 (grown_dr _ _)) HM1.out).mono ?_)); rintro e w2 ⟨rfl, hm2, hg2⟩; have HM2 := Lib.hid hm2.dr; have hg2' := grown_step (grown_step hg1 (grown_dr _ _)) hg2; clear hm2 hg2) | fail)
    go_wp2_with fail
    have hg3 := grown_step hg2' (grown_dr _ _)
    go_region_held3 (fun w' => w'.cell? ⟨w.heap.size, 0, none⟩ = some (.slice kp k.length kc) ∧ w'.cell? ⟨w.heap.size, 1, none⟩ = some (.slice vp v.length vc) ∧ w'.cell? ⟨tb, 0, none⟩ = some (.slice kp2 k'.length kc2) ∧ w'.cell? ⟨tb, 1, none⟩ = some (.slice vp2 v'.length vc2) ∧ w'.cell? ⟨tb, 2, none⟩ = some (.pointer lp) ∧ w'.cell? ⟨tb, 3, none⟩ = some (.pointer rp))
      (first | exact HC.out _ (by assumption) | fail)
      (first | (go_at_call 115; ((with_reducible refine (CN.out _ hg3).mono ?_)); rintro e w5 ⟨p5, rfl, ht5, hb5⟩; have HT5 := Lib.hid ht5; have HB5 := Lib.hid hb5; have hg5' := grown_step hg3 (grown_of_below hb5 mb); clear ht5 hb5) | fail)
    go_wp2
    go_ret
    obtain ⟨b5, rfl⟩ := HT5.out.some_
    exact ⟨_, rfl, by rw [HE1.out]; exact HT5.out, by rw [HE2.out]; exact Met.below (w := w2.drew) HM2.out HB5.out, UP.out _ hg5'⟩
  · obtain ⟨e1, e2⟩ := p1.out rfl
    have HE1 := Lib.hid e1
    have HE2 := Lib.hid e2
    clear p0 p1 p2 hx e1 e2 CN CL EL
    go_enter Tryz.func62, Tryz.ntmps62
    go_wp2_with fail
    rw [← hW2]
    clear hW2
    go_wp2_with (go_at_call 46; ((with_reducible refine (CV.out).mono ?_)); rintro e w1 ⟨rfl, hm1, hg1⟩; have HM1 := Lib.hid hm1.dr; clear hm1)
    go_region_held3 (fun w' => w'.cell? ⟨w.heap.size, 0, none⟩ = some (.slice kp k.length kc) ∧ w'.cell? ⟨tb, 0, none⟩ = some (.slice kp2 k'.length kc2))
      (first | exact ⟨(HC.out _ (grown_step hg1 (grown_dr _ _))).1, (HC.out _ (grown_step hg1 (grown_dr _ _))).2.2.1⟩ | exact ⟨(HC.out _ hg2').1, (HC.out _ hg2').2.2.1⟩ | fail)
      (first | (go_at_call 47; ((with_reducible refine (CC.out _ (grown_step hg1 (grown_dr _ _)) HM1.out).mono ?_)); rintro e w2 ⟨rfl, hm2, hg2⟩; have HM2 := Lib.hid hm2.dr; have hg2' := grown_step (grown_step hg1 (grown_dr _ _)) hg2; clear hm2 hg2) | fail)
    go_wp2_with fail
    have hg3 := grown_step hg2' (grown_dr _ _)
    go_region_held3 (fun w' => w'.cell? ⟨w.heap.size, 0, none⟩ = some (.slice kp k.length kc) ∧ w'.cell? ⟨w.heap.size, 1, none⟩ = some (.slice vp v.length vc) ∧ w'.cell? ⟨tb, 0, none⟩ = some (.slice kp2 k'.length kc2) ∧ w'.cell? ⟨tb, 1, none⟩ = some (.slice vp2 v'.length vc2) ∧ w'.cell? ⟨tb, 2, none⟩ = some (.pointer lp) ∧ w'.cell? ⟨tb, 3, none⟩ = some (.pointer rp))
      (first | exact HC.out _ (by assumption) | fail)
      (first | (go_at_call 62; ((with_reducible refine (CR.out _ hg3 HM2.out).mono ?_)); rintro e w4 ⟨b4, rfl, ht4, hm4, hg4⟩; have HT4 := Lib.hid ht4; have HM4 := Lib.hid hm4; have hg4' := grown_step hg3 hg4; clear ht4 hm4 hg4) | (go_at_call 61; ((with_reducible refine (ER.out _ _ hg4' HT4.out).mono ?_)); rintro e w5 ⟨b5, rfl, ht5, hb5⟩; have HT5 := Lib.hid ht5; have HB5 := Lib.hid hb5; have hg5' := grown_step hg4' (grown_of_below hb5 mb); clear ht5 hb5) | fail)
    go_wp2
    go_ret
    exact ⟨_, rfl, by rw [HE1.out]; exact HT5.out, by rw [HE2.out, ← Nat.add_assoc, ← Nat.add_assoc]; exact HM4.out.below HB5.out, UP.out _ hg5'⟩
theorem treePutP (D : Nat → Prop) {mb : Option Nat} (ho : Off D mb) {k v : List UInt8} : ∀ (t : T), t.Bal → t.size < 1048576 → ∀ (w : World) (hD : ∀ j, w.heap.size ≤ j → D j) (vi c : Nat) (hm : Met w mb vi c) (hvi : vi + t.size < 1000000000000) (hc : c + t.size < 1000000000000) (p kp vp : Option Addr) (kc vc : Nat) (ht : TreeAt w D p t) (hk : IsD w D kp kc k) (hv : IsD w D vp vc v), Calls Tryz.prog 62 #[.pointer p, pairV kp kc k vp vc v, .pointer (mptr mb)] w (PutR D k v t mb vi c w)
  | .nil, _, _, w, hD, vi, c, hm, _, _, p, kp, vp, kc, vc, ht, hk, hv => by
    obtain rfl : p = none := ht
    exact treePutNil w D hD hm hk hv
  | .node l k' v' r, hb, hsz, w, hD, vi, c, hm, hvi, hc, p, kp, vp, kc, vc, ht, hk, hv => by
    rw [T.size_node] at hsz hvi hc
    exact treePutNode D ho (treePutP D ho l hb.2.1 (by omega)) (treePutP D ho r hb.2.2 (by omega)) hb hsz w hD vi c hm hvi hc p kp vp kc vc ht hk hv
end Go.Proofs.YtmbiiemlepfoaaaGreatDoor
namespace Go.Proofs.YtmbiiemlepfoaaaGreatDoor
set_option linter.unusedVariables false
def withN (m : Nat) (ks : List N) (c : Nat) (k : N) : List N := (bitsOf (m ||| 2 ^ c)).map fun i => if i = c then k else (ks[cntUp i m]?).getD k
def forkN : Nat → N → Nat → N → Nat → Nat → N
  | 0, a, _, _, _, _ => a
  | f + 1, a, g, b, h, L =>
    if chunkM g L = chunkM h L then .branch (2 ^ chunkM g L) [forkN f a g b h (L + 1)]
    else if chunkM h L < chunkM g L then .branch (2 ^ chunkM g L ||| 2 ^ chunkM h L) [b, a]
    else .branch (2 ^ chunkM g L ||| 2 ^ chunkM h L) [a, b]
mutual
def N.into (h : Nat) (k v : List UInt8) : N → Nat → N × Bool
  | .leaf g k' v', L => if g = h then (if Lib.compareBytes k k' = 0 then (.leaf h k v, false) else (.bucket h (putT k v (fromT [(k', v')])), true)) else (forkN (13 - L) (.leaf g k' v') g (.leaf h k v) h L, true)
  | .bucket g t, L => if g = h then (.bucket h (putT k v t), decide (t.size < (putT k v t).size)) else (forkN (13 - L) (.bucket g t) g (.leaf h k v) h L, true)
  | .branch m ks, L =>
    let r := if m.testBit (chunkM h L) then (N.intoAt h k v ks (cntUp (chunkM h L) m) (L + 1)).getD (.leaf h k v, true) else (.leaf h k v, true)
    (.branch (m ||| 2 ^ chunkM h L) (withN m ks (chunkM h L) r.1), r.2)
def N.intoAt (h : Nat) (k v : List UInt8) : List N → Nat → Nat → Option (N × Bool)
  | [], _, _ => none
  | n :: _, 0, L => some (n.into h k v L)
  | _ :: ns, i + 1, L => N.intoAt h k v ns i L
end
theorem intoAt_eq (h : Nat) (k v : List UInt8) : ∀ (ks : List N) (i L : Nat), N.intoAt h k v ks i L = (ks[i]?).map fun n => n.into h k v L
  | [], i, L => by simp [N.intoAt]
  | n :: ns, 0, L => by simp [N.intoAt]
  | n :: ns, i + 1, L => by simp [N.intoAt, intoAt_eq h k v ns i L]
def intoO (h : Nat) (k v : List UInt8) (n : Option N) (L : Nat) : N × Bool := match n with
  | none => (.leaf h k v, true)
  | some n => n.into h k v L
theorem into_branch (h : Nat) (k v : List UInt8) (m : Nat) (ks : List N) (L : Nat) : (N.branch m ks).into h k v L =
    (.branch (m ||| 2 ^ chunkM h L) (withN m ks (chunkM h L) (intoO h k v (kidN m ks (chunkM h L)) (L + 1)).1), (intoO h k v (kidN m ks (chunkM h L)) (L + 1)).2) := by
  have e : (if m.testBit (chunkM h L) then (N.intoAt h k v ks (cntUp (chunkM h L) m) (L + 1)).getD (.leaf h k v, true) else (.leaf h k v, true)) = intoO h k v (kidN m ks (chunkM h L)) (L + 1) := by
    unfold kidN intoO
    rw [intoAt_eq]
    split
    · cases ks[cntUp (chunkM h L) m]? <;> rfl
    · rfl
  rw [N.into, e]
mutual
def N.intoS (h : Nat) (k : List UInt8) : N → Nat → Nat × Nat
  | .leaf g _ _, _ => (1, if g = h then 1 else 0)
  | .bucket g t, _ => if g = h then (pathT k t, pathT k t) else (0, 0)
  | .branch m ks, L =>
    let r := if m.testBit (chunkM h L) then (N.intoSAt h k ks (cntUp (chunkM h L) m) (L + 1)).getD (0, 0) else (0, 0)
    (r.1 + 1, r.2)
def N.intoSAt (h : Nat) (k : List UInt8) : List N → Nat → Nat → Option (Nat × Nat)
  | [], _, _ => none
  | n :: _, 0, L => some (n.intoS h k L)
  | _ :: ns, i + 1, L => N.intoSAt h k ns i L
end
theorem intoSAt_eq (h : Nat) (k : List UInt8) : ∀ (ks : List N) (i L : Nat), N.intoSAt h k ks i L = (ks[i]?).map fun n => n.intoS h k L
  | [], i, L => by simp [N.intoSAt]
  | n :: ns, 0, L => by simp [N.intoSAt]
  | n :: ns, i + 1, L => by simp [N.intoSAt, intoSAt_eq h k ns i L]
def intoSO (h : Nat) (k : List UInt8) (n : Option N) (L : Nat) : Nat × Nat := match n with
  | none => (0, 0)
  | some n => n.intoS h k L
theorem intoS_branch (h : Nat) (k : List UInt8) (m : Nat) (ks : List N) (L : Nat) : (N.branch m ks).intoS h k L = ((intoSO h k (kidN m ks (chunkM h L)) (L + 1)).1 + 1, (intoSO h k (kidN m ks (chunkM h L)) (L + 1)).2) := by
  have e : (if m.testBit (chunkM h L) then (N.intoSAt h k ks (cntUp (chunkM h L) m) (L + 1)).getD (0, 0) else (0, 0)) = intoSO h k (kidN m ks (chunkM h L)) (L + 1) := by
    unfold kidN intoSO
    rw [intoSAt_eq]
    split
    · cases ks[cntUp (chunkM h L) m]? <;> rfl
    · rfl
  rw [N.intoS, e]
mutual
def N.fit : N → Nat → Prop
  | .leaf h k v, _ => h < 18446744073709551616 ∧ k.length ≤ 1000000 ∧ v.length ≤ 1000000
  | .bucket h t, _ => h < 18446744073709551616 ∧ t.Bal ∧ (∀ x ∈ t.list, x.1.length ≤ 1000000 ∧ x.2.length ≤ 1000000) ∧ 2 ≤ t.size
  | .branch m ks, L => m < 4294967296 ∧ L ≤ 12 ∧ ks.length = cntUp 32 m ∧ ks ≠ [] ∧ N.fits ks (L + 1) ∧ ∀ (i : Nat) (n : N), ks[i]? = some n → ∀ g ∈ n.hashes, (bitsOf m)[i]? = some (chunkM g L)
def N.fits : List N → Nat → Prop
  | [], _ => True
  | n :: ns, L => n.fit L ∧ N.fits ns L
end
theorem fits_iff {L : Nat} : ∀ {ks : List N}, N.fits ks L ↔ ∀ n ∈ ks, n.fit L
  | [] => by simp [N.fits]
  | n :: ns => by simp [N.fits, fits_iff (ks := ns)]
def N.Agree (n : N) (h L : Nat) : Prop := ∀ g ∈ n.hashes, ∀ j, j < L → chunkM g j = chunkM h j
theorem chunk_ext {g h : Nat} (hg : g < 18446744073709551616) (hh : h < 18446744073709551616) (he : ∀ j, j < 13 → chunkM g j = chunkM h j) : g = h := by
  have e := fun (j : Nat) (hj : j < 13) => he j hj
  unfold chunkM cutM at e
  have e0 := e 0 (by decide); have e1 := e 1 (by decide); have e2 := e 2 (by decide); have e3 := e 3 (by decide); have e4 := e 4 (by decide); have e5 := e 5 (by decide); have e6 := e 6 (by decide)
  have e7 := e 7 (by decide); have e8 := e 8 (by decide); have e9 := e 9 (by decide); have e10 := e 10 (by decide); have e11 := e 11 (by decide); have e12 := e 12 (by decide)
  simp only [show min 0 12 = 0 from rfl, show min 1 12 = 1 from rfl, show min 2 12 = 2 from rfl, show min 3 12 = 3 from rfl, show min 4 12 = 4 from rfl, show min 5 12 = 5 from rfl, show min 6 12 = 6 from rfl, show min 7 12 = 7 from rfl, show min 8 12 = 8 from rfl, show min 9 12 = 9 from rfl, show min 10 12 = 10 from rfl, show min 11 12 = 11 from rfl, show min 12 12 = 12 from rfl] at e0 e1 e2 e3 e4 e5 e6 e7 e8 e9 e10 e11 e12
  have s : ∀ x y i, x / 2 ^ (5 * i) % 32 = y / 2 ^ (5 * i) % 32 → x % 2 ^ (5 * i) = y % 2 ^ (5 * i) → x % 2 ^ (5 * (i + 1)) = y % 2 ^ (5 * (i + 1)) := by
    intro x y i h1 h2
    rw [show 5 * (i + 1) = 5 * i + 5 from by omega, Nat.pow_add, Nat.mod_mul, Nat.mod_mul, h2, show 2 ^ 5 = 32 from rfl, h1]
  have t0 : g % 2 ^ (5 * 0) = h % 2 ^ (5 * 0) := by simp [Nat.mod_one]
  have t := s g h 12 e12 (s g h 11 e11 (s g h 10 e10 (s g h 9 e9 (s g h 8 e8 (s g h 7 e7 (s g h 6 e6 (s g h 5 e5 (s g h 4 e4 (s g h 3 e3 (s g h 2 e2 (s g h 1 e1 (s g h 0 e0 t0))))))))))))
  rw [Nat.mod_eq_of_lt (Nat.lt_of_lt_of_le hg (by decide)), Nat.mod_eq_of_lt (Nat.lt_of_lt_of_le hh (by decide))] at t
  exact t
theorem parts {g h L : Nat} (hg : g < 18446744073709551616) (hh : h < 18446744073709551616) (hne : g ≠ h) (ha : ∀ j, j < L → chunkM g j = chunkM h j) : ∃ j, L ≤ j ∧ j < 13 ∧ chunkM g j ≠ chunkM h j := by
  apply Classical.byContradiction
  intro hc
  refine hne (chunk_ext hg hh fun j hj => ?_)
  rcases Nat.lt_or_ge j L with h1 | h1
  · exact ha j h1
  · exact Classical.byContradiction fun h2 => hc ⟨j, h1, hj, h2⟩
theorem pow_cnt1 : ∀ c : Fin 32, bitsOf (2 ^ c.val) = [c.val] := by decide +kernel
theorem pow_cnt2 : ∀ c d : Fin 32, c.val < d.val → bitsOf (2 ^ c.val ||| 2 ^ d.val) = [c.val, d.val] := by decide +kernel
theorem bits1 {c : Nat} (hc : c < 32) : bitsOf (2 ^ c) = [c] := pow_cnt1 ⟨c, hc⟩
theorem bits2 {c d : Nat} (h : c < d) (hd : d < 32) : bitsOf (2 ^ c ||| 2 ^ d) = [c, d] := pow_cnt2 ⟨c, by omega⟩ ⟨d, hd⟩ h
theorem pow_lt32 {c : Nat} (hc : c < 32) : 2 ^ c < 4294967296 := Nat.pow_lt_pow_right (a := 2) (by decide) hc
theorem with_at {m c i j : Nat} {ks : List N} {k n : N} (h : (withN m ks c k)[j]? = some n) : ∃ i, (bitsOf (m ||| 2 ^ c))[j]? = some i ∧ n = if i = c then k else (ks[cntUp i m]?).getD k := by
  unfold withN at h
  rw [List.getElem?_map, Option.map_eq_some_iff] at h
  obtain ⟨i, h1, h2⟩ := h
  exact ⟨i, h1, h2.symm⟩
theorem with_bits {m c i j : Nat} (h : (bitsOf (m ||| 2 ^ c))[j]? = some i) (hne : i ≠ c) : i < 32 ∧ m.testBit i = true := by
  obtain ⟨h1, h2, _⟩ := bits_idx h
  rw [with_bit] at h2
  simp [hne] at h2
  exact ⟨h1, h2⟩
theorem with_old {m c i : Nat} {ks : List N} (hl : ks.length = cntUp 32 m) (hi : i < 32) (hb : m.testBit i = true) : ∃ n, ks[cntUp i m]? = some n :=
  ⟨_, List.getElem?_eq_getElem (by rw [hl]; exact cnt_lt hi hb)⟩
theorem putT_list_mem {k v : List UInt8} : ∀ {t : T}, t.Bal → ∀ x ∈ (putT k v t).list, x = (k, v) ∨ x ∈ t.list
  | .nil, _, x, hx => by simp [putT, T.list] at hx; exact .inl hx
  | .node l k' v' r, hb, x, hx => by
    obtain ⟨tr, h1⟩ := putT_right (k := k) (v := v) hb
    obtain ⟨tl, h2⟩ := putT_left (k := k) (v := v) hb
    unfold putT at hx
    split at hx
    · simp only [T.list, List.mem_append, List.mem_cons] at hx ⊢
      rcases hx with h | h | h
      · exact .inr (.inl h)
      · exact .inl h
      · exact .inr (.inr (.inr h))
    · split at hx
      · rw [h1.eq] at hx
        simp only [Option.getD_some, h1.list, List.mem_append, List.mem_cons] at hx
        simp only [T.list, List.mem_append, List.mem_cons]
        rcases hx with h | h | h
        · exact .inr (.inl h)
        · exact .inr (.inr (.inl h))
        · rcases putT_list_mem hb.2.2 x h with h | h
          · exact .inl h
          · exact .inr (.inr (.inr h))
      · rw [h2.eq] at hx
        simp only [Option.getD_some, h2.list, List.mem_append, List.mem_cons] at hx
        simp only [T.list, List.mem_append, List.mem_cons]
        rcases hx with h | h | h
        · rcases putT_list_mem hb.2.1 x h with h | h
          · exact .inl h
          · exact .inr (.inl h)
        · exact .inr (.inr (.inl h))
        · exact .inr (.inr (.inr h))
theorem from_one (x : List UInt8 × List UInt8) : fromT [x] = .node .nil x.1 x.2 .nil := by
  rw [fromT_node (k := x.1) (v := x.2) (show [x][[x].length / 2]? = some (x.1, x.2) from by simp)]
  simp [fromT_nil]
theorem put_one {k v k' v' : List UInt8} (h : Lib.compareBytes k k' ≠ 0) : (putT k v (fromT [(k', v')])).size = 2 := by
  rw [from_one]
  unfold putT
  rw [if_neg h]
  split
  · simp [putT, evenT, evenB, T.size]
  · simp [putT, evenT, evenB, T.size]
end Go.Proofs.YtmbiiemlepfoaaaGreatDoor
namespace Go.Proofs.YtmbiiemlepfoaaaGreatDoor
open Go.RowKit
set_option linter.unusedVariables false
theorem info42 : (Tryz.prog.info? 42).map (fun i => (i.zero, i.size, i.bytes)) = some (some .nilIface, 1, 16) := by kernel_rfl
def CloneVR (D : Nat → Prop) (vs : List Value) (w : World) (e : Ending) (w' : World) : Prop := ∃ q d, e = .returned (.slice q vs.length d) ∧ IsVs w' D q d vs ∧ Below w.heap.size w w'
set_option maxHeartbeats 1000000 in
set_option maxRecDepth 100000 in
theorem cloneV (w : World) {D0 : Nat → Prop} {p : Option Addr} {c : Nat} {vs : List Value} (h : IsVs w D0 p c vs) (h1 : ∀ u ∈ vs, u.oneCell' = true) (hl : vs.length ≤ 1000000) :
    Calls Tryz.prog 299 #[.slice p vs.length c] w (CloneVR (fun j => w.heap.size ≤ j) vs w) := by
  have q22 : ∀ (w : World) (a : Option Addr) (n c n' c' : Nat), (binOp .eql 310 (.slice a n c) (.slice none n' c')).run Tryz.prog w = .ok (.bool a.isNone) w := fun w a n c n' c' => Lib.run_eql_slice_nil w _ _ a n c n' c' Tryz.underlying310
  have H := Lib.hid h
  have H1 := Lib.hid h1
  rcases p with _ | ad
  · obtain rfl : vs = [] := List.eq_nil_of_length_eq_zero (by have := h.cap; have := h.nil rfl; omega)
    clear h h1
    go_enter Tryz.func299, Tryz.ntmps299
    go_wp2
    go_ret
    exact ⟨_, _, rfl, IsVs.none_ _ _, Below.refl _ _⟩
  · clear h h1
    obtain ⟨i0, hi, hz0, hz1, hz2⟩ := info_parts info42
    go_enter Tryz.func299, Tryz.ntmps299
    go_wp2_with (at_builtin; refine wpList_append_own _ rfl _ _ 310 rfl w.heap.size 42 i0 .nilIface 1 16 Tryz.underlying310 hi hz0 hz1 hz2 rfl (by decide) _ _ _ rfl (World.ownsRow_made w #[] 0 (Nat.le_refl _) (Nat.zero_le _) rfl) ad vs.length c vs rfl ?qc1 ?qc2 ?qc3 ?qc4 ?qc5 ?qc6 ?_)
    case qc1 => simp
    case qc2 =>
      intro j u hj
      obtain ⟨b, o, hp, _, _, hc⟩ := H.out.cells (by have := (List.getElem?_eq_some_iff.1 hj).1; omega)
      obtain rfl := Option.some.inj hp
      refine cell?_alloc_some' _ ?_
      rw [Addr.add_lit]
      exact hc j u hj
    case qc3 => exact H1.out
    case qc4 => unfold maxLen; omega
    case qc5 => omega
    case qc6 => simp
    intro v' w1 hown hgrow hnil
    go_wp2
    go_ret
    have hown' : w1.ownsRow w.heap.size 42 1 v' vs.length vs := by simpa using hown
    obtain ⟨q, d, rfl⟩ := own_slice hown'
    exact ⟨q, d, rfl, IsVs.own (fun _ h => h) hown', ((Below.refl _ w).alloc (Nat.le_refl _) _).grown hgrow (by simp) (by intro k hk; simp [Value.ownBlock] at hk; omega)⟩
theorem leafCount (w : World) (a : Option Addr) : Calls Tryz.prog 365 #[.pointer a] w fun e w' => e = .returned (.int .i64 1) ∧ w = w' := by
  go_enter Tryz.func365, Tryz.ntmps365
  go_wp2
  go_ret
  exact ⟨rfl, rfl⟩
theorem bucketCount (w : World) {b : Nat} {D : Nat → Prop} {p : Option Addr} {t : T} (hc : w.cell? ⟨b, 1, none⟩ = some (.pointer p)) (ht : TreeAt w D p t) : Calls Tryz.prog 367 #[.pointer (some ⟨b, 0, none⟩)] w fun e w' => e = .returned (.int .i64 (t.size : Int)) ∧ w = w' := by
  have CS := Lib.hid (treeSize w ht)
  clear ht
  go_enter Tryz.func367, Tryz.ntmps367
  go_wp2_with (go_at_call 64; ((with_reducible refine (CS.out).mono ?_)); rintro e w1 ⟨rfl, rfl⟩)
  go_ret
  exact ⟨rfl, rfl⟩
theorem branchCount (w : World) {b n : Nat} (hc : w.cell? ⟨b, 2, none⟩ = some (.int .i64 (n : Int))) : Calls Tryz.prog 369 #[.pointer (some ⟨b, 0, none⟩)] w fun e w' => e = .returned (.int .i64 (n : Int)) ∧ w = w' := by
  go_enter Tryz.func369, Tryz.ntmps369
  go_wp2
  go_ret
  exact ⟨rfl, rfl⟩
def N.tag : N → Nat
  | .leaf _ _ _ => 223
  | .bucket _ _ => 226
  | .branch _ _ => 308
def N.cf : N → Nat
  | .leaf _ _ _ => 365
  | .bucket _ _ => 367
  | .branch _ _ => 369
theorem N.At.form {w : World} {D : Nat → Prop} {n : N} {x : Value} (h : N.At w D n x) : ∃ b, x = ifp n.tag b ∧ D b ∧ b < w.heap.size := by
  cases n with
  | leaf g k v => unfold N.At at h; obtain ⟨b, kp, kc, vp, vc, rfl, hd, hr, _⟩ := h; exact ⟨b, rfl, hd, row_ltT hr⟩
  | bucket g t => unfold N.At at h; obtain ⟨b, p, rfl, hd, hr, _⟩ := h; exact ⟨b, rfl, hd, row_ltT hr⟩
  | branch m ks => unfold N.At at h; obtain ⟨b, p, c, vs, rfl, hd, hr, _⟩ := h; exact ⟨b, rfl, hd, row_ltT hr⟩
theorem nodeCount (w : World) {D : Nat → Prop} {n : N} {b : Nat} (h : N.At w D n (ifp n.tag b)) : Calls Tryz.prog n.cf #[.pointer (some ⟨b, 0, none⟩)] w fun e w' => e = .returned (.int .i64 (n.count : Int)) ∧ w = w' := by
  cases n with
  | leaf g k v => exact leafCount w _
  | bucket g t =>
    unfold N.At at h
    obtain ⟨b', p, hx, hd, hr, ht⟩ := h
    injection hx with _ hx
    injection hx with hx
    injection hx with hx
    injection hx with hx
    subst hx
    exact bucketCount w (cell_of_row w b 1 _ _ (0, 0) hr) ht
  | branch m ks =>
    unfold N.At at h
    obtain ⟨b', p, c, vs, hx, hd, hr, _⟩ := h
    injection hx with _ hx
    injection hx with hx
    injection hx with hx
    injection hx with hx
    subst hx
    exact branchCount w (cell_of_row w b 2 _ _ (0, 0) hr)
theorem mCount223 (a : Addr) (w : World) : (method 563 223 (.pointer (some a)) "Count").run Tryz.prog w = .ok (365, .pointer (some a)) w := by kernel_rfl
theorem mCount226 (a : Addr) (w : World) : (method 563 226 (.pointer (some a)) "Count").run Tryz.prog w = .ok (367, .pointer (some a)) w := by kernel_rfl
theorem mCount308 (a : Addr) (w : World) : (method 563 308 (.pointer (some a)) "Count").run Tryz.prog w = .ok (369, .pointer (some a)) w := by kernel_rfl
theorem mKind223 (a : Addr) (w : World) : (method 563 223 (.pointer (some a)) "Kind").run Tryz.prog w = .ok (366, .pointer (some a)) w := by kernel_rfl
theorem mKind226 (a : Addr) (w : World) : (method 563 226 (.pointer (some a)) "Kind").run Tryz.prog w = .ok (368, .pointer (some a)) w := by kernel_rfl
theorem mKind308 (a : Addr) (w : World) : (method 563 308 (.pointer (some a)) "Kind").run Tryz.prog w = .ok (370, .pointer (some a)) w := by kernel_rfl
theorem counts_take {ks : List N} {i : Nat} {n : N} (h : ks[i]? = some n) : N.counts (ks.take (i + 1)) = N.counts (ks.take i) + n.count := by
  have e : ∀ (a b : List N), N.counts (a ++ b) = N.counts a + N.counts b := by
    intro a b
    induction a with
    | nil => simp [N.counts]
    | cons x xs ih => simp only [List.cons_append, N.counts, ih]; omega
  rw [List.take_add_one, h, e]
  simp [N.counts]
theorem counts_le (ks : List N) (i : Nat) : N.counts (ks.take i) ≤ N.counts ks := by
  have e : ∀ (a b : List N), N.counts (a ++ b) = N.counts a + N.counts b := by
    intro a b
    induction a with
    | nil => simp [N.counts]
    | cons x xs ih => simp only [List.cons_append, N.counts, ih]; omega
  conv => rhs; rw [← List.take_append_drop i ks, e]
  omega
abbrev branchRow (m : Nat) (q : Option Addr) (l d n : Nat) : Obj := .cells #[.int .u32 (m : Int), .slice q l d, .int .i64 (n : Int)] 312
set_option maxHeartbeats 4000000 in
set_option maxRecDepth 100000 in
theorem nodeBranch (w : World) (D : Nat → Prop) (hD : ∀ j, w.heap.size ≤ j → D j) {D0 : Nat → Prop} {m c : Nat} {ks : List N} {vs : List Value} {p : Option Addr} (hv : IsVs w D0 p c vs) (ha : N.Ats w D ks vs) (hm : m < 4294967296) (hlen : ks.length = cntUp 32 m) (hne : ks ≠ []) (hsz : N.counts ks < 4611686018427387904) :
    Calls Tryz.prog 253 #[.int .u32 (m : Int), .slice p vs.length c] w fun e w' => ∃ b, e = .returned (ifp 308 b) ∧ N.At w' D (.branch m ks) (ifp 308 b) ∧ Below w.heap.size w w' := by
  have hl := ha.length
  have hpos : 0 < vs.length := by rw [hl]; exact List.length_pos_iff.2 hne
  have h32 : vs.length ≤ 32 := by rw [hl, hlen]; exact cnt_le 32 m
  obtain ⟨pb, po, rfl, hpb, hpd, hcell⟩ := hv.cells hpos
  have cc := bitsCount w m hm
  rw [← hlen, ← hl] at cc
  have CC := Lib.hid cc
  have one : ∀ u ∈ vs, u.oneCell' = true := by
    intro u hu
    obtain ⟨i, hi, rfl⟩ := List.getElem_of_mem hu
    obtain ⟨v, h1, h2⟩ := ha.at_ (i := i) (n := ks[i]'(by omega)) (List.getElem?_eq_getElem (by omega))
    obtain ⟨b, rfl, _⟩ := h2.form
    rw [List.getElem?_eq_getElem hi] at h1
    rw [Option.some.inj h1]; rfl
  have CK := Lib.hid (show ∀ w', Below w.heap.size w w' → Calls Tryz.prog 299 #[.slice (some ⟨pb, po, none⟩) vs.length c] w' _ from fun w' hb => cloneV w' (hv.below hb) one (by omega))
  have HA := Lib.hid (ha.mono (D' := fun j => D j ∧ j < w.heap.size) fun k hk hd => ⟨hd, hk⟩)
  have HCELL := Lib.hid hcell
  have HONE := Lib.hid one
  have HD := Lib.hid hD
  have HL := Lib.hid hl
  clear cc hv ha hcell one hD hl hlen hne
  have g0 : ((vs.length : Int) == 0) = false := by rw [beq_eq_false_iff_ne]; omega
  go_enter Tryz.func253, Tryz.ntmps253
  go_wp2_with first | (go_at_call 295; ((with_reducible refine (CC.out).mono ?_)); rintro e w1 ⟨rfl, nn, rfl⟩) | (go_at_call 299; ((with_reducible refine (CK.out _ (below_drewN _ _ _)).mono ?_)); rintro e w2 ⟨q, d, rfl, hq, hb2⟩; have HQ := Lib.hid hq; have HB2 := Lib.hid hb2; clear hq hb2)
  obtain ⟨xb, hxb⟩ : ∃ xb, xb = w2.heap.size := ⟨_, rfl⟩
  obtain ⟨W3, hW3⟩ : ∃ x, x = w2.alloc (.cells #[.int .u32 (m : Int), .slice q vs.length d, .int .i64 0] 312) := ⟨_, rfl⟩
  rw [← hxb, ← hW3]
  have hb0 := (below_drewN w.heap.size w nn).trans (HB2.out.mono (Nat.le_refl _))
  have hx := hb0.size
  have hb3 : Below w.heap.size w W3 := by rw [hW3]; exact hb0.alloc hb0.size _
  have hr3 : W3.heap[xb]? = some (branchRow m q vs.length d (N.counts (ks.take 0))) := by rw [hW3, hxb]; exact heap_alloc_new _ _
  have hq3 : IsVs W3 (fun j => w.heap.size ≤ j ∧ j ≠ xb) q d vs := by
    have h1 : IsVs w2 (fun j => w.heap.size ≤ j ∧ j ≠ xb) q d vs := HQ.out.mono fun k hk hd => ⟨hd, by omega⟩
    rw [hW3]
    exact h1.below ((Below.refl _ _).alloc (Nat.le_refl _) _)
  have HQ3 := Lib.hid hq3
  have HB3 := Lib.hid hb3
  have HR3 := Lib.hid hr3
  have hxw : w.heap.size ≤ xb := by omega
  have hpx : pb ≠ xb := by omega
  clear hb3 hr3 hq3 hb0 hW3 hxb hx HQ HB2 CK CC
  have hnil : ∀ (t : Nat) (v : Value) (w : World), (binOp .eql 42 (.iface t v) .nilIface).run Tryz.prog w = .ok (.bool false) w := fun _ _ _ => by kernel_rfl
  go_loopw [25] (fun v25 wr => ∃ i : Nat, v25 = .int .i64 (i : Int) ∧ i ≤ vs.length ∧ Hid (wr.heap[xb]? = some (branchRow m q vs.length d (N.counts (ks.take i)))) ∧ Hid (W3.grownBy wr (some xb)))
    (fun v25 _ => vs.length - (intOf v25).toNat)
  case atStart => exact ⟨0, rfl, Nat.zero_le _, HR3.out, grown_rfl _ _⟩
  case round =>
    obtain ⟨i, rfl, hi, HR, HG⟩ := hrel
    have r2 : wr.cell? ⟨xb, 2, none⟩ = some (.int .i64 (N.counts (ks.take i) : Int)) := cell_of_row wr xb 2 _ _ (0, 0) HR.out
    have f2 : wr.frozen? ⟨xb, 2, none⟩ = false := frozen_of_row wr xb 2 _ _ HR.out
    by_cases hlt : i < vs.length
    · obtain ⟨n, hn⟩ : ∃ n, ks[i]? = some n := ⟨_, List.getElem?_eq_getElem (by have := HL.out; omega)⟩
      obtain ⟨v, hv1, hv2⟩ := HA.out.at_ hn
      obtain ⟨kb, rfl, ⟨hkd, hkl⟩, _⟩ := hv2.form
      have hgw : w.grownBy wr (some xb) := grown_trans (grown_of_below HB3.out _) HG.out
      have hoff : Off (fun j => D j ∧ j < w.heap.size) (some xb) := fun b e h => by cases e; have := h.2; omega
      have hvr := hv2.grown hoff hgw
      have hce : wr.cell? ⟨pb, po + i, none⟩ = some (ifp n.tag kb) := by
        rw [World.cell?_of_block (w := w) (hgw.block pb hpb (by simp; exact hpx))]
        exact HCELL.out i _ hv1
      have CN := Lib.hid (nodeCount wr.drew (hvr.below (Below.refl _ _).drew))
      have hct := counts_take hn
      have hcl := counts_le ks (i + 1)
      have hw1 : IntKind.i64.wrap ((N.counts (ks.take i) : Int) + (n.count : Int)) = (N.counts (ks.take (i + 1)) : Int) := by rw [IntWalk.i64_in _ (by omega)]; omega
      have HSET := Lib.hid (show ∀ W : World, W.heap[xb]? = some (branchRow m q vs.length d (N.counts (ks.take i))) → (W.setCell ⟨xb, 2, none⟩ (.int .i64 (N.counts (ks.take (i + 1)) : Int))).heap[xb]? = some (branchRow m q vs.length d (N.counts (ks.take (i + 1)))) from fun W h => by simp [World.setCell, Array.getElem?_modify, h])
      generalize hc1 : N.counts (ks.take (i + 1)) = c1 at *
      have HC1 := Lib.hid hc1
      generalize N.counts (ks.take i) = c0 at *
      have g1 : (i : Int) < (vs.length : Int) := by omega
      have HG2 := Lib.hid (show ∀ W : World, wr.grownBy W (some xb) → ∀ v, W3.grownBy (W.setCell ⟨xb, 2, none⟩ v) (some xb) from fun W hg v => grown_trans (grown_trans HG.out hg) ⟨rfl, rfl, rfl, by simp [World.setCell], fun k _ hk => Below.heap_setCell W _ _ k (fun e => hk (by rw [e]))⟩)
      clear hct hcl hvr hv2 hgw hn hv1 hc1
      cases n with
      | leaf g k v =>
        unfold N.tag at hce
        unfold N.cf at CN
        have mm := mCount223
        go_wp2_with fail
        go_region_with ((go_at_call 365; ((with_reducible refine CN.out.mono ?_)); rintro e w9 ⟨rfl, rfl⟩))
        all_goals
          go_wp2
          go_roundw
          case rel => exact ⟨i + 1, by go_num, by omega, by rw [HC1.out]; exact HSET.out _ HR.out, grown_trans (HG2.out wr (grown_rfl _ _) _) (grown_dr _ _)⟩
          case measure => simp [intOf]; omega
      | bucket g t =>
        unfold N.tag at hce
        unfold N.cf at CN
        have mm := mCount226
        go_wp2_with fail
        go_region_with ((go_at_call 367; ((with_reducible refine CN.out.mono ?_)); rintro e w9 ⟨rfl, rfl⟩))
        all_goals
          go_wp2
          go_roundw
          case rel => exact ⟨i + 1, by go_num, by omega, by rw [HC1.out]; exact HSET.out _ HR.out, grown_trans (HG2.out wr (grown_rfl _ _) _) (grown_dr _ _)⟩
          case measure => simp [intOf]; omega
      | branch m' ks' =>
        unfold N.tag at hce
        unfold N.cf at CN
        have mm := mCount308
        go_wp2_with fail
        go_region_with ((go_at_call 369; ((with_reducible refine CN.out.mono ?_)); rintro e w9 ⟨rfl, rfl⟩))
        all_goals
          go_wp2
          go_roundw
          case rel => exact ⟨i + 1, by go_num, by omega, by rw [HC1.out]; exact HSET.out _ HR.out, grown_trans (HG2.out wr (grown_rfl _ _) _) (grown_dr _ _)⟩
          case measure => simp [intOf]; omega
    · obtain rfl : i = vs.length := by omega
      have HE := Lib.hid (show ks.take vs.length = ks from by rw [HL.out]; exact List.take_length)
      go_wp2
      go_ret
      have hB := HB3.out.grown HG.out HB3.out.size (fun k e => by cases e; omega)
      refine ⟨xb, rfl, ?_, hB⟩
      have hr := HR.out
      rw [HE.out] at hr
      have hoff : Off (fun j => w.heap.size ≤ j ∧ j ≠ xb) (some xb) := fun b e h => by cases e; exact h.2 rfl
      have hoff2 : Off (fun j => D j ∧ j < w.heap.size) (some xb) := fun b e h => by cases e; have := h.2; omega
      unfold N.At
      refine ⟨xb, q, d, vs, rfl, HD.out _ hxw, hr, (HQ3.out.grown hoff HG.out).mono fun j _ hj => HD.out j hj.1, ?_⟩
      exact ((HA.out.keep (grown_trans (grown_of_below HB3.out _) HG.out).size (hoff2.keep (grown_trans (grown_of_below HB3.out _) HG.out)))).mono fun j _ hj => hj.1
end Go.Proofs.YtmbiiemlepfoaaaGreatDoor
