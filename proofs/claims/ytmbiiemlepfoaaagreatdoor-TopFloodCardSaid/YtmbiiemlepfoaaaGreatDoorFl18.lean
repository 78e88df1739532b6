/- The walks of Pair, Delete. The walk of prune.cut from: of none, of a leaf, of a bucket. -/
import Derived.Test.YtmbiiemlepfoaaaGreatDoorFl17
import Derived.Test.YtmbiiemlepfoaaaGreatDoorFl16

namespace Go.Proofs.YtmbiiemlepfoaaaGreatDoor
open Go.RowKit
set_option linter.unusedVariables false
def TreeR (D : Nat → Prop) (t : T) (mb : Option Nat) (vi c : Nat) (w : World) (e : Ending) (w' : World) : Prop := ∃ q, e = .returned (.pointer q) ∧ TreeAt w' D q t ∧ Met w' mb vi c ∧ w.grownBy w' mb
set_option maxHeartbeats 4000000 in
set_option maxRecDepth 100000 in
theorem treePair {mb : Option Nat} (D : Nat → Prop) (ho : Off D mb) (w : World) (hD : ∀ j, w.heap.size ≤ j → D j) {vi c : Nat} (hm : Met w mb vi c) {l r : T} (hvi : vi + spineT r < 999999999999) {lp rp : Option Addr} (hl : TreeAt w D lp l) (hr : TreeAt w D rp r) (hbl : l.Bal) (hbr : r.Bal) (hsz : l.size + r.size ≤ 1048576) :
    Calls Tryz.prog 60 #[.pointer lp, .pointer rp, .pointer (mptr mb)] w (TreeR D (pairT2 l r) mb (vi + pairS l r) c w) := by
  cases l with
  | nil =>
    obtain rfl : lp = none := hl
    have e1 : pairT2 .nil r = r := by cases r <;> rfl
    have e2 : pairS .nil r = 0 := rfl
    rw [e1, e2]
    have HR := Lib.hid hr
    have HM := Lib.hid hm
    clear hr hm hD
    go_enter Tryz.func60, Tryz.ntmps60
    go_wp2
    go_ret
    exact ⟨_, rfl, HR.out, HM.out, grown_rfl _ _⟩
  | node a k v b =>
    obtain ⟨lb, rfl⟩ := hl.some_
    cases r with
    | nil =>
      obtain rfl : rp = none := hr
      have e1 : pairT2 (.node a k v b) .nil = .node a k v b := rfl
      have e2 : pairS (.node a k v b) .nil = 0 := rfl
      rw [e1, e2]
      have HL := Lib.hid hl
      have HM := Lib.hid hm
      clear hm hl hD
      go_enter Tryz.func60, Tryz.ntmps60
      go_wp2
      go_ret
      exact ⟨_, rfl, HL.out, HM.out, grown_rfl _ _⟩
    | node a2 k2 v2 b2 =>
      obtain ⟨rb, rfl⟩ := hr.some_
      have hsp : spineT (T.node a2 k2 v2 b2) = 1 + spineT a2 := rfl
      rw [hsp] at hvi
      simp only [T.size] at hsz
      have hf := first_ok a2 k2 v2 b2 hbr.2.1 hbr.2.2
      have hfl := first_len a2 k2 v2 b2 hbr.2.1 hbr.2.2
      have CF := Lib.hid (treeFirst (mb := mb) a2 k2 v2 b2 D ho w hD vi c hm (by omega) _ hr hbr (by omega))
      have e1 : pairT2 (.node a k v b) (.node a2 k2 v2 b2) = joinT (.node a k v b) (firstT k2 v2 b2 a2).1.1 (firstT k2 v2 b2 a2).1.2 (firstT k2 v2 b2 a2).2 := rfl
      have e2 : pairS (.node a k v b) (.node a2 k2 v2 b2) = 1 + spineT a2 := rfl
      rw [e1, e2]
      obtain ⟨⟨⟨k1, v1⟩, t1⟩, hX⟩ : ∃ X, firstT k2 v2 b2 a2 = X := ⟨_, rfl⟩
      rw [hX] at hf hfl CF ⊢
      dsimp only at hf hfl ⊢
      have CJ := Lib.hid (show ∀ w' q kp kc vp vc, w.grownBy w' mb → TreeAt w' D q t1 → IsD w' D kp kc k1 → IsD w' D vp vc v1 → Calls Tryz.prog 113 #[.pointer (some ⟨lb, 0, none⟩), pairV kp kc k1 vp vc v1, .pointer q] w' (PtrT D (joinT (.node a k v b) k1 v1 t1) w') from fun w' q kp kc vp vc hg h1 h2 h3 =>
        treeJoin _ (.node a k v b) t1 (Nat.le_refl _) k1 v1 D w' (fun j hj => hD j (by have := hg.size; omega)) _ q kp vp kc vc (hl.grown ho hg) h1 h2 h3 hbl hf.1 (by simp only [T.size]; omega))
      clear hl hr hm hD hf hfl hbl hbr e1 e2 hsz hX hsp
      go_enter Tryz.func60, Tryz.ntmps60
      go_wp2_with first
        | (go_at_call 112; ((with_reducible refine (CF.out).mono ?_)); rintro e w1 ⟨kp, kc, vp, vc, q, rfl, hk1, hv1, ht1, hm1, hg1⟩; have HK1 := Lib.hid hk1; have HV1 := Lib.hid hv1; have HT1 := Lib.hid ht1; have HM1 := Lib.hid hm1; have HG1 := Lib.hid hg1; have HB1 := Lib.hid ((Below.refl _ w1).alloc (Nat.le_refl _) (.cells #[.slice kp k1.length kc, .slice vp v1.length vc] 61)); clear hk1 hv1 ht1 hm1 hg1)
        | (go_at_call 113; ((with_reducible refine (CJ.out _ _ _ _ _ _ (grown_trans HG1.out (grown_of_below HB1.out mb)) (HT1.out.below HB1.out) (HK1.out.below HB1.out) (HV1.out.below HB1.out)).mono ?_)); rintro e w2 ⟨b2, rfl, ht2, hb2⟩; have HT2 := Lib.hid ht2; have HB2 := Lib.hid (HB1.out.trans (hb2.mono HB1.out.size)); clear ht2 hb2)
        | fail
      go_ret
      exact ⟨_, rfl, HT2.out, by have := HM1.out.below HB2.out; rwa [Nat.add_assoc] at this, grown_trans HG1.out (grown_of_below HB2.out mb)⟩
def DelR (k : List UInt8) (D : Nat → Prop) (t : T) (mb : Option Nat) (vi c : Nat) (w : World) (e : Ending) (w' : World) : Prop :=
  ∃ q, e = .returned (.tuple #[.pointer q, .bool (delT k t).isSome]) ∧ TreeAt w' D q ((delT k t).getD t) ∧ Met w' mb (vi + (delS k t).1) (c + (delS k t).2) ∧ w.grownBy w' mb
theorem spine_le : ∀ t : T, spineT t ≤ t.size
  | .nil => Nat.le_refl _
  | .node l _ _ r => by have := spine_le l; simp only [spineT, T.size]; omega
set_option maxHeartbeats 4000000 in
set_option maxRecDepth 100000 in
theorem treeDel {mb : Option Nat} (D : Nat → Prop) (ho : Off D mb) {D2 : Nat → Prop} (ho2 : Off D2 mb) {k : List UInt8} {kp : Option Addr} {kc : Nat} : ∀ (t : T) (w : World) (hD : ∀ j, w.heap.size ≤ j → D j) (vi c : Nat) (hm : Met w mb vi c) (hvi : vi + t.size < 999999999999) (hc : c + t.size < 999999999999) (p : Option Addr) (ht : TreeAt w D p t) (hb : t.Bal) (hsz : t.size ≤ 1048576) (hk : IsD w D2 kp kc k),
    Calls Tryz.prog 19 #[.pointer p, .slice kp k.length kc, .pointer (mptr mb)] w (DelR k D t mb vi c w) := by
  intro t
  induction t with
  | nil =>
    intro w hD vi c hm hvi hc p ht hb hsz hk
    obtain rfl : p = none := ht
    have HM := Lib.hid hm
    clear hm hk hD
    go_enter Tryz.func19, Tryz.ntmps19
    go_wp2
    go_ret2
    exact ⟨_, rfl, TreeAt.nil, HM.out, grown_rfl _ _⟩
  | node l k' v' r IHl IHr =>
    intro w hD vi c hm hvi hc p ht hb hsz hk
    simp only [T.size] at hvi hc hsz
    obtain ⟨tb, kp2, kc2, vp2, vc2, lp, rp, rfl, hdt, trow, hk2, hv2, hl, hr⟩ := id ht
    have n1 : mb ≠ some tb := fun e => ho _ e hdt
    have hspr := spine_le r
    have hDw : ∀ w', w.grownBy w' mb → ∀ j, w'.heap.size ≤ j → D j := fun w' hg j hj => hD j (Nat.le_trans hg.size hj)
    have HC := Lib.hid (show ∀ w', w.grownBy w' mb → (w'.cell? ⟨tb, 0, none⟩ = some (.slice kp2 k'.length kc2) ∧ w'.cell? ⟨tb, 1, none⟩ = some (.slice vp2 v'.length vc2) ∧ w'.cell? ⟨tb, 2, none⟩ = some (.pointer lp) ∧ w'.cell? ⟨tb, 3, none⟩ = some (.pointer rp)) from fun w' hg => by
      have r1' := grown_row hg trow n1
      exact ⟨cell_of_row w' _ 0 _ _ (0, 0) r1', cell_of_row w' _ 1 _ _ (0, 0) r1', cell_of_row w' _ 2 _ _ (0, 0) r1', cell_of_row w' _ 3 _ _ (0, 0) r1'⟩)
    have CV := Lib.hid (metVisit w hm (by omega))
    have CC := Lib.hid (show ∀ w', w.grownBy w' mb → Met w' mb (vi + 1) c → Calls Tryz.prog 47 #[.pointer (mptr mb), .slice kp k.length kc, .slice kp2 k'.length kc2] w' _ from fun w' hg hmm => metCompare w' hmm (by omega) ho2 ho (hk.grown ho2 hg) (hk2.grown ho hg))
    have HTT := Lib.hid (show ∀ w', w.grownBy w' mb → TreeAt w' D (some ⟨tb, 0, none⟩) (.node l k' v' r) from fun w' hg => ht.grown ho hg)
    have hcr := cmp_range k k'
    generalize hx : Lib.compareBytes k k' = x at *
    rcases hcr with rfl | rfl | rfl
    · have q1 : delT k (.node l k' v' r) = (delT k l).map fun l' => evenF l' k' v' r := by rw [delT, hx, if_neg (by decide), if_neg (by decide)]
      have q2 : delS k (.node l k' v' r) = (1 + (delS k l).1, 1 + (delS k l).2) := by rw [delS, hx, if_neg (by decide), if_neg (by decide)]
      have hdl : ∀ u, delT k l = some u → evenT u k' v' r = some (evenF u k' v' r) := fun u h => del_left hb h
      have hds : ∀ u, delT k l = some u → u.Bal ∧ u.size + 1 = l.size := fun u h => del_size hb.2.1 h
      have CE := Lib.hid (show ∀ w' q u, delT k l = some u → w.grownBy w' mb → TreeAt w' D q u → Calls Tryz.prog 61 #[.pointer q, pairV kp2 kc2 k' vp2 vc2 v', .pointer rp] w' (PtrT D (evenF u k' v' r) w') from fun w' q u hu hg hq => treeEven w' D (hDw w' hg) hq (hr.grown ho hg) (hk2.grown ho hg) (hv2.grown ho hg) (by have := (hds u hu).2; omega) (hdl u hu))
      have CD := Lib.hid (show ∀ w', w.grownBy w' mb → Met w' mb (vi + 1) (c + 1) → Calls Tryz.prog 19 #[.pointer lp, .slice kp k.length kc, .pointer (mptr mb)] w' (DelR k D l mb (vi + 1) (c + 1) w') from fun w' hg hmm => IHl w' (hDw w' hg) (vi + 1) (c + 1) hmm (by omega) (by omega) _ (hl.grown ho hg) hb.2.1 (by omega) (hk.grown ho2 hg))
      cases hdd : delT k l with
      | none =>
        rw [hdd] at q1
        have QQ := Lib.hid (And.intro q1 q2)
        have CD0 := Lib.hid (show ∀ w', w.grownBy w' mb → Met w' mb (vi + 1) (c + 1) → Calls Tryz.prog 19 #[.pointer lp, .slice kp k.length kc, .pointer (mptr mb)] w' (fun e w'' => ∃ q, e = .returned (.tuple #[.pointer q, .bool false]) ∧ Met w'' mb (vi + 1 + (delS k l).1) (c + 1 + (delS k l).2) ∧ w'.grownBy w'' mb) from fun w' hg hmm => (CD.out w' hg hmm).mono fun e w'' ⟨q, h1, h2, h3, h4⟩ => ⟨q, by rw [hdd] at h1; exact h1, h3, h4⟩)
        clear hdl hds hdd q1 q2 hl hr hk hk2 hv2 ht hm IHl IHr hD hDw hb trow CD CE hx
        go_enter Tryz.func19, Tryz.ntmps19
        go_wp2_with first
          | (go_at_call 46; ((with_reducible refine (CV.out).mono ?_)); rintro e w1 ⟨rfl, hm1, hg1⟩; have HM1 := Lib.hid hm1; have HG1 := Lib.hid hg1; obtain ⟨d0, d1, d2, d3⟩ := HC.out _ hg1; clear hm1 hg1)
          | (go_at_call 47; ((with_reducible refine (CC.out _ HG1.out HM1.out).mono ?_)); rintro e w2 ⟨rfl, hm2, hg2⟩; have HM2 := Lib.hid hm2; have HG2 := Lib.hid (grown_trans HG1.out hg2); obtain ⟨d0, d1, d2, d3⟩ := HC.out _ HG2.out; clear hm2 hg2)
          | (go_at_call 19; ((with_reducible refine (CD0.out _ HG2.out HM2.out).mono ?_)); rintro e w3 ⟨q, rfl, hm3, hg3⟩; have HM3 := Lib.hid hm3; have HG3 := Lib.hid (grown_trans HG2.out hg3); obtain ⟨d0, d1, d2, d3⟩ := HC.out _ HG3.out; clear hm3 hg3)
          | fail
        go_ret2
        obtain ⟨q1, q2⟩ := QQ.out
        unfold DelR
        rw [q1, q2]
        exact ⟨_, rfl, HTT.out _ HG3.out, by have := HM3.out; rwa [Nat.add_assoc, Nat.add_assoc] at this, HG3.out⟩
      | some u =>
        rw [hdd] at q1
        have QQ := Lib.hid (And.intro q1 q2)
        have CD0 := Lib.hid (show ∀ w', w.grownBy w' mb → Met w' mb (vi + 1) (c + 1) → Calls Tryz.prog 19 #[.pointer lp, .slice kp k.length kc, .pointer (mptr mb)] w' (fun e w'' => ∃ q, e = .returned (.tuple #[.pointer q, .bool true]) ∧ TreeAt w'' D q u ∧ Met w'' mb (vi + 1 + (delS k l).1) (c + 1 + (delS k l).2) ∧ w'.grownBy w'' mb) from fun w' hg hmm => (CD.out w' hg hmm).mono fun e w'' ⟨q, h1, h2, h3, h4⟩ => ⟨q, by rw [hdd] at h1; exact h1, by rw [hdd] at h2; exact h2, h3, h4⟩)
        have CE0 := Lib.hid (fun w' q => CE.out w' q u hdd)
        clear hdl hds hdd q1 q2 hl hr hk hk2 hv2 ht hm IHl IHr hD hDw hb trow CD CE hx
        go_enter Tryz.func19, Tryz.ntmps19
        go_wp2_with first
          | (go_at_call 46; ((with_reducible refine (CV.out).mono ?_)); rintro e w1 ⟨rfl, hm1, hg1⟩; have HM1 := Lib.hid hm1; have HG1 := Lib.hid hg1; obtain ⟨d0, d1, d2, d3⟩ := HC.out _ hg1; clear hm1 hg1)
          | (go_at_call 47; ((with_reducible refine (CC.out _ HG1.out HM1.out).mono ?_)); rintro e w2 ⟨rfl, hm2, hg2⟩; have HM2 := Lib.hid hm2; have HG2 := Lib.hid (grown_trans HG1.out hg2); obtain ⟨d0, d1, d2, d3⟩ := HC.out _ HG2.out; clear hm2 hg2)
          | (go_at_call 19; ((with_reducible refine (CD0.out _ HG2.out HM2.out).mono ?_)); rintro e w3 ⟨q, rfl, ht3, hm3, hg3⟩; have HT3 := Lib.hid ht3; have HM3 := Lib.hid hm3; have HG3 := Lib.hid (grown_trans HG2.out hg3); obtain ⟨d0, d1, d2, d3⟩ := HC.out _ HG3.out; clear ht3 hm3 hg3)
          | fail
        go_region_held3 (fun w' => w'.cell? ⟨tb, 0, none⟩ = some (.slice kp2 k'.length kc2) ∧ w'.cell? ⟨tb, 1, none⟩ = some (.slice vp2 v'.length vc2) ∧ w'.cell? ⟨tb, 2, none⟩ = some (.pointer lp) ∧ w'.cell? ⟨tb, 3, none⟩ = some (.pointer rp))
          (first | exact HC.out _ HG5.out | exact HC.out _ (grown_trans HG3.out (grown_dr _ mb)) | exact HC.out _ HG3.out | fail)
          (first | (go_at_call 61; ((with_reducible refine (CE0.out _ _ (grown_trans HG3.out (grown_dr _ mb)) (HT3.out.below (Below.refl _ w3).drew)).mono ?_)); rintro e w5 ⟨b5, rfl, ht5, hb5⟩; have HT5 := Lib.hid ht5; have HB5 := Lib.hid (show Below w3.heap.size w3 w5 from (Below.refl _ w3).drew.trans hb5); have HG5 := Lib.hid (grown_trans HG3.out (grown_of_below HB5.out mb)); clear ht5 hb5) | fail)
        go_wp2
        go_ret2
        obtain ⟨q1, q2⟩ := QQ.out
        unfold DelR
        rw [q1, q2]
        exact ⟨_, rfl, HT5.out, by have := HM3.out.below HB5.out; rwa [Nat.add_assoc, Nat.add_assoc] at this, HG5.out⟩
    · have q1 : delT k (.node l k' v' r) = some (pairT2 l r) := by rw [delT, hx, if_pos rfl]
      have q2 : delS k (.node l k' v' r) = (1 + pairS l r, 1) := by rw [delS, hx, if_pos rfl]
      have CP := Lib.hid (show ∀ w', w.grownBy w' mb → Met w' mb (vi + 1) (c + 1) → Calls Tryz.prog 60 #[.pointer lp, .pointer rp, .pointer (mptr mb)] w' (TreeR D (pairT2 l r) mb (vi + 1 + pairS l r) (c + 1) w') from fun w' hg hmm => treePair D ho w' (hDw w' hg) hmm (by omega) (hl.grown ho hg) (hr.grown ho hg) hb.2.1 hb.2.2 (by omega))
      have QQ := Lib.hid (And.intro q1 q2)
      clear q1 q2 hl hr hk hk2 hv2 ht hm IHl IHr hD hDw hb trow hx
      go_enter Tryz.func19, Tryz.ntmps19
      go_wp2_with first
        | (go_at_call 46; ((with_reducible refine (CV.out).mono ?_)); rintro e w1 ⟨rfl, hm1, hg1⟩; have HM1 := Lib.hid hm1; have HG1 := Lib.hid hg1; obtain ⟨d0, d1, d2, d3⟩ := HC.out _ hg1; clear hm1 hg1)
        | (go_at_call 47; ((with_reducible refine (CC.out _ HG1.out HM1.out).mono ?_)); rintro e w2 ⟨rfl, hm2, hg2⟩; have HM2 := Lib.hid hm2; have HG2 := Lib.hid (grown_trans HG1.out hg2); obtain ⟨d0, d1, d2, d3⟩ := HC.out _ HG2.out; clear hm2 hg2)
        | fail
      go_region_held3 (fun w' => w'.cell? ⟨tb, 2, none⟩ = some (.pointer lp) ∧ w'.cell? ⟨tb, 3, none⟩ = some (.pointer rp))
        (first | exact ⟨(HC.out _ HG5.out).2.2.1, (HC.out _ HG5.out).2.2.2⟩ | exact ⟨d2, d3⟩ | fail)
        (first | (go_at_call 60; ((with_reducible refine (CP.out _ (grown_trans HG2.out (grown_dr _ mb)) HM2.out.dr).mono ?_)); rintro e w5 ⟨q, rfl, ht5, hm5, hg5⟩; have HT5 := Lib.hid ht5; have HM5 := Lib.hid hm5; have HG5 := Lib.hid (grown_trans (grown_trans HG2.out (grown_dr _ mb)) hg5); clear ht5 hm5 hg5) | fail)
      go_wp2
      go_ret2
      obtain ⟨q1, q2⟩ := QQ.out
      unfold DelR
      rw [q1, q2]
      exact ⟨_, rfl, HT5.out, by have := HM5.out; rwa [Nat.add_assoc] at this, HG5.out⟩
    · have q1 : delT k (.node l k' v' r) = (delT k r).map fun r' => evenF l k' v' r' := by rw [delT, hx, if_neg (by decide), if_pos rfl]
      have q2 : delS k (.node l k' v' r) = (1 + (delS k r).1, 1 + (delS k r).2) := by rw [delS, hx, if_neg (by decide), if_pos rfl]
      have hdl : ∀ u, delT k r = some u → evenT l k' v' u = some (evenF l k' v' u) := fun u h => del_right hb h
      have hds : ∀ u, delT k r = some u → u.Bal ∧ u.size + 1 = r.size := fun u h => del_size hb.2.2 h
      have CE := Lib.hid (show ∀ w' q u, delT k r = some u → w.grownBy w' mb → TreeAt w' D q u → Calls Tryz.prog 61 #[.pointer lp, pairV kp2 kc2 k' vp2 vc2 v', .pointer q] w' (PtrT D (evenF l k' v' u) w') from fun w' q u hu hg hq => treeEven w' D (hDw w' hg) (hl.grown ho hg) hq (hk2.grown ho hg) (hv2.grown ho hg) (by have := (hds u hu).2; omega) (hdl u hu))
      have CD := Lib.hid (show ∀ w', w.grownBy w' mb → Met w' mb (vi + 1) (c + 1) → Calls Tryz.prog 19 #[.pointer rp, .slice kp k.length kc, .pointer (mptr mb)] w' (DelR k D r mb (vi + 1) (c + 1) w') from fun w' hg hmm => IHr w' (hDw w' hg) (vi + 1) (c + 1) hmm (by omega) (by omega) _ (hr.grown ho hg) hb.2.2 (by omega) (hk.grown ho2 hg))
      cases hdd : delT k r with
      | none =>
        rw [hdd] at q1
        have QQ := Lib.hid (And.intro q1 q2)
        have CD0 := Lib.hid (show ∀ w', w.grownBy w' mb → Met w' mb (vi + 1) (c + 1) → Calls Tryz.prog 19 #[.pointer rp, .slice kp k.length kc, .pointer (mptr mb)] w' (fun e w'' => ∃ q, e = .returned (.tuple #[.pointer q, .bool false]) ∧ Met w'' mb (vi + 1 + (delS k r).1) (c + 1 + (delS k r).2) ∧ w'.grownBy w'' mb) from fun w' hg hmm => (CD.out w' hg hmm).mono fun e w'' ⟨q, h1, h2, h3, h4⟩ => ⟨q, by rw [hdd] at h1; exact h1, h3, h4⟩)
        clear hdl hds hdd q1 q2 hl hr hk hk2 hv2 ht hm IHl IHr hD hDw hb trow CD CE hx
        go_enter Tryz.func19, Tryz.ntmps19
        go_wp2_with first
          | (go_at_call 46; ((with_reducible refine (CV.out).mono ?_)); rintro e w1 ⟨rfl, hm1, hg1⟩; have HM1 := Lib.hid hm1; have HG1 := Lib.hid hg1; obtain ⟨d0, d1, d2, d3⟩ := HC.out _ hg1; clear hm1 hg1)
          | (go_at_call 47; ((with_reducible refine (CC.out _ HG1.out HM1.out).mono ?_)); rintro e w2 ⟨rfl, hm2, hg2⟩; have HM2 := Lib.hid hm2; have HG2 := Lib.hid (grown_trans HG1.out hg2); obtain ⟨d0, d1, d2, d3⟩ := HC.out _ HG2.out; clear hm2 hg2)
          | (go_at_call 19; ((with_reducible refine (CD0.out _ HG2.out HM2.out).mono ?_)); rintro e w3 ⟨q, rfl, hm3, hg3⟩; have HM3 := Lib.hid hm3; have HG3 := Lib.hid (grown_trans HG2.out hg3); obtain ⟨d0, d1, d2, d3⟩ := HC.out _ HG3.out; clear hm3 hg3)
          | fail
        go_ret2
        obtain ⟨q1, q2⟩ := QQ.out
        unfold DelR
        rw [q1, q2]
        exact ⟨_, rfl, HTT.out _ HG3.out, by have := HM3.out; rwa [Nat.add_assoc, Nat.add_assoc] at this, HG3.out⟩
      | some u =>
        rw [hdd] at q1
        have QQ := Lib.hid (And.intro q1 q2)
        have CD0 := Lib.hid (show ∀ w', w.grownBy w' mb → Met w' mb (vi + 1) (c + 1) → Calls Tryz.prog 19 #[.pointer rp, .slice kp k.length kc, .pointer (mptr mb)] w' (fun e w'' => ∃ q, e = .returned (.tuple #[.pointer q, .bool true]) ∧ TreeAt w'' D q u ∧ Met w'' mb (vi + 1 + (delS k r).1) (c + 1 + (delS k r).2) ∧ w'.grownBy w'' mb) from fun w' hg hmm => (CD.out w' hg hmm).mono fun e w'' ⟨q, h1, h2, h3, h4⟩ => ⟨q, by rw [hdd] at h1; exact h1, by rw [hdd] at h2; exact h2, h3, h4⟩)
        have CE0 := Lib.hid (fun w' q => CE.out w' q u hdd)
        clear hdl hds hdd q1 q2 hl hr hk hk2 hv2 ht hm IHl IHr hD hDw hb trow CD CE hx
        go_enter Tryz.func19, Tryz.ntmps19
        go_wp2_with first
          | (go_at_call 46; ((with_reducible refine (CV.out).mono ?_)); rintro e w1 ⟨rfl, hm1, hg1⟩; have HM1 := Lib.hid hm1; have HG1 := Lib.hid hg1; obtain ⟨d0, d1, d2, d3⟩ := HC.out _ hg1; clear hm1 hg1)
          | (go_at_call 47; ((with_reducible refine (CC.out _ HG1.out HM1.out).mono ?_)); rintro e w2 ⟨rfl, hm2, hg2⟩; have HM2 := Lib.hid hm2; have HG2 := Lib.hid (grown_trans HG1.out hg2); obtain ⟨d0, d1, d2, d3⟩ := HC.out _ HG2.out; clear hm2 hg2)
          | (go_at_call 19; ((with_reducible refine (CD0.out _ HG2.out HM2.out).mono ?_)); rintro e w3 ⟨q, rfl, ht3, hm3, hg3⟩; have HT3 := Lib.hid ht3; have HM3 := Lib.hid hm3; have HG3 := Lib.hid (grown_trans HG2.out hg3); obtain ⟨d0, d1, d2, d3⟩ := HC.out _ HG3.out; clear ht3 hm3 hg3)
          | fail
        go_region_held3 (fun w' => w'.cell? ⟨tb, 0, none⟩ = some (.slice kp2 k'.length kc2) ∧ w'.cell? ⟨tb, 1, none⟩ = some (.slice vp2 v'.length vc2) ∧ w'.cell? ⟨tb, 2, none⟩ = some (.pointer lp) ∧ w'.cell? ⟨tb, 3, none⟩ = some (.pointer rp))
          (first | exact HC.out _ HG5.out | exact HC.out _ (grown_trans HG3.out (grown_dr _ mb)) | exact HC.out _ HG3.out | fail)
          (first | (go_at_call 61; ((with_reducible refine (CE0.out _ _ (grown_trans HG3.out (grown_dr _ mb)) (HT3.out.below (Below.refl _ w3).drew)).mono ?_)); rintro e w5 ⟨b5, rfl, ht5, hb5⟩; have HT5 := Lib.hid ht5; have HB5 := Lib.hid (show Below w3.heap.size w3 w5 from (Below.refl _ w3).drew.trans hb5); have HG5 := Lib.hid (grown_trans HG3.out (grown_of_below HB5.out mb)); clear ht5 hb5) | fail)
        go_wp2
        go_ret2
        obtain ⟨q1, q2⟩ := QQ.out
        unfold DelR
        rw [q1, q2]
        exact ⟨_, rfl, HT5.out, by have := HM3.out.below HB5.out; rwa [Nat.add_assoc, Nat.add_assoc] at this, HG5.out⟩
abbrev cutV (h : Nat) (kp : Option Addr) (kc : Nat) (k : List UInt8) (mb : Option Nat) : Value := .agg #[.int .u64 (h : Int), .slice kp k.length kc, .pointer (mptr mb)]
abbrev cutRow (h : Nat) (kp : Option Addr) (kc : Nat) (k : List UInt8) (mb : Option Nat) : Obj := .cells #[.int .u64 (h : Int), .slice kp k.length kc, .pointer (mptr mb)] 233
def CutR (D : Nat → Prop) (o : Option (Option N)) (n : Option N) (mb : Option Nat) (vi c : Nat) (w : World) (e : Ending) (w' : World) : Prop := ∃ x, e = .returned (.tuple #[x, .bool o.isSome]) ∧ NodeAt w' D (o.getD n) x ∧ Met w' mb vi c ∧ w.grownBy w' mb
theorem cutAt_of {W : World} {w0 : Nat} {mb : Option Nat} {h : Nat} {kp : Option Addr} {kc : Nat} {k : List UInt8} (hr : W.heap[w0]? = some (cutRow h kp kc k mb)) :
    W.cell? ⟨w0, 0, none⟩ = some (.int .u64 (h : Int)) ∧ W.cell? ⟨w0, 1, none⟩ = some (.slice kp k.length kc) ∧ W.cell? ⟨w0, 2, none⟩ = some (.pointer (mptr mb)) :=
  ⟨cell_of_row W _ 0 _ _ (0, 0) hr, cell_of_row W _ 1 _ _ (0, 0) hr, cell_of_row W _ 2 _ _ (0, 0) hr⟩
set_option maxRecDepth 100000 in
theorem cutNil (w : World) (D : Nat → Prop) {mb : Option Nat} {vi c h L : Nat} (hm : Met w mb vi c) {kp : Option Addr} {kc : Nat} {k : List UInt8} :
    Calls Tryz.prog 107 #[cutV h kp kc k mb, .nilIface, .int .i64 (L : Int)] w (CutR D none none mb vi c w) := by
  have hB : Below w.heap.size w (w.alloc (cutRow h kp kc k mb)) := (Below.refl _ w).alloc (Nat.le_refl _) _
  have HM := Lib.hid (hm.below hB)
  have HG := Lib.hid (grown_of_below hB mb)
  clear hm hB
  go_enter Tryz.func107, Tryz.ntmps107
  go_wp2
  go_ret2
  exact ⟨_, rfl, rfl, HM.out, HG.out⟩
set_option maxHeartbeats 2000000 in
set_option maxRecDepth 100000 in
theorem cutLeaf (w : World) (D : Nat → Prop) (hD : ∀ j, w.heap.size ≤ j → D j) {mb : Option Nat} (ho : Off D mb) {vi c h L b g : Nat} (hm : Met w mb vi c) (hvi : vi < 999999999999) (hci : c < 999999999999) {kp : Option Addr} {kc : Nat} {k k' v' : List UInt8} (hk : IsD w (fun j => mb ≠ some j) kp kc k)
    (hx : N.At w D (.leaf g k' v') (ifp 223 b)) (hkl' : k'.length ≤ 1000000) (hvl' : v'.length ≤ 1000000) :
    Calls Tryz.prog 107 #[cutV h kp kc k mb, ifp 223 b, .int .i64 (L : Int)] w (CutR D ((N.leaf g k' v').dele h k L) (some (.leaf g k' v')) mb (vi + ((N.leaf g k' v').deleS h k L).1) (c + ((N.leaf g k' v').deleS h k L).2) w) := by
  obtain ⟨W2, hW2⟩ : ∃ x, x = w.alloc (cutRow h kp kc k mb) := ⟨_, rfl⟩
  have hB : Below w.heap.size w W2 := by rw [hW2]; exact (Below.refl _ w).alloc (Nat.le_refl _) _
  have r0 : W2.heap[w.heap.size]? = some (cutRow h kp kc k mb) := by rw [hW2]; exact heap_alloc_new _ _
  have hml := hm.lt
  have n0 : mb ≠ some w.heap.size := fun e => by have := hml _ e; omega
  have hgB := grown_of_below hB mb
  have HC := Lib.hid (show ∀ w', W2.grownBy w' mb → (w'.cell? ⟨w.heap.size, 0, none⟩ = some (.int .u64 (h : Int)) ∧ w'.cell? ⟨w.heap.size, 1, none⟩ = some (.slice kp k.length kc) ∧ w'.cell? ⟨w.heap.size, 2, none⟩ = some (.pointer (mptr mb))) from fun w' hg => cutAt_of (grown_row hg r0 n0))
  have up : ∀ w', W2.grownBy w' mb → w.grownBy w' mb := fun w' hg => grown_trans hgB hg
  have hD' : ∀ w', W2.grownBy w' mb → ∀ j, w'.heap.size ≤ j → D j := fun w' hg j hj => hD j (Nat.le_trans (up w' hg).size hj)
  have CV := Lib.hid (metVisit W2 (hm.below hB) (by omega))
  have CH := Lib.hid (show ∀ w', W2.grownBy w' mb → Calls Tryz.prog 44 #[ifp 223 b] w' (fun e w'' => e = .returned (.tuple #[.int .u64 (g : Int), .bool true]) ∧ w' = w'') from fun w' hg => nodeHash w' (hx.grown ho (up w' hg)))
  have CP := Lib.hid (show ∀ w', W2.grownBy w' mb → Calls Tryz.prog 45 #[ifp 223 b] w' (fun e w'' => ∃ kp kc vp vc, e = .returned (.tuple #[pairV kp kc k' vp vc v', .bool true]) ∧ IsD w'' D kp kc k' ∧ IsD w'' D vp vc v' ∧ Below w'.heap.size w' w'') from fun w' hg => nodePairLeaf w' D (hD' w' hg) (hx.grown ho (up w' hg)) (by omega) (by omega))
  have CC := Lib.hid (show ∀ w' p q, W2.grownBy w' mb → Met w' mb (vi + 1) c → IsD w' D p q k' → Calls Tryz.prog 47 #[.pointer (mptr mb), .slice kp k.length kc, .slice p k'.length q] w' _ from fun w' p q hg hmm hk' => metCompare w' hmm (by omega) (Off.ne mb) ho (hk.grown (Off.ne mb) (up w' hg)) hk')
  have HX := Lib.hid (show ∀ w', W2.grownBy w' mb → N.At w' D (.leaf g k' v') (ifp 223 b) from fun w' hg => hx.grown ho (up w' hg))
  have UP := Lib.hid up
  have q0 := mKind223
  have q1 := kindLeaf
  have q2 := nil42
  have hg0 := grown_rfl W2 mb
  by_cases hgh : g = h
  · subst hgh
    have es : (N.leaf g k' v').deleS g k L = (1, 1) := by simp [N.deleS]
    have ed : (N.leaf g k' v').dele g k L = if Lib.compareBytes k k' = 0 then some none else none := by simp [N.dele]
    rw [es, ed]
    generalize hxx : Lib.compareBytes k k' = x at *
    clear hk hx hm hD hD' up hB hgB r0 es ed
    by_cases hx0 : x = 0
    · subst hx0
      rw [if_pos rfl]
      go_enter Tryz.func107, Tryz.ntmps107
      go_wp2_with fail
      rw [← hW2]
      clear hW2
      obtain ⟨s0, s1, s2⟩ := HC.out _ hg0
      go_wp2_with first
        | (go_at_call 366; ((with_reducible refine (q1 _ _).mono ?_)); rintro e w1 ⟨rfl, rfl⟩)
        | (go_at_call 46; ((with_reducible refine (CV.out).mono ?_)); rintro e w1 ⟨rfl, hm1, hg1⟩; have HM1 := Lib.hid hm1; clear hm1; obtain ⟨t0, t1, t2⟩ := HC.out _ hg1)
        | (go_at_call 44; ((with_reducible refine (CH.out _ hg1).mono ?_)); rintro e w2 ⟨rfl, rfl⟩)
        | (go_at_call 45; ((with_reducible refine (CP.out _ hg1).mono ?_)); rintro e w3 ⟨kp3, kc3, vp3, vc3, rfl, hk3, hv3, hb3⟩; have hg5 := grown_new hg1 hb3 (.cells #[.slice kp3 k'.length kc3, .slice vp3 v'.length vc3] 61); obtain ⟨u0, u1, u2⟩ := HC.out _ hg5; have HM5 := Lib.hid ((HM1.out.below hb3).below ((Below.refl _ _).alloc (Nat.le_refl _) (.cells #[.slice kp3 k'.length kc3, .slice vp3 v'.length vc3] 61))); have HK5 := Lib.hid (hk3.below ((Below.refl _ _).alloc (Nat.le_refl _) (.cells #[.slice kp3 k'.length kc3, .slice vp3 v'.length vc3] 61))); clear hk3 hv3 hb3)
        | (go_at_call 47; ((with_reducible refine (CC.out _ _ _ hg5 HM5.out HK5.out).mono ?_)); rintro e w6 ⟨rfl, hm6, hg6⟩; have HM6 := Lib.hid hm6; have HG6 := Lib.hid (grown_step hg5 hg6); clear hm6)
        | fail
      go_ret2
      exact ⟨_, rfl, rfl, HM6.out, UP.out _ HG6.out⟩
    · have g1 : (x == 0) = false := by simpa using hx0
      rw [if_neg hx0]
      go_enter Tryz.func107, Tryz.ntmps107
      go_wp2_with fail
      rw [← hW2]
      clear hW2
      obtain ⟨s0, s1, s2⟩ := HC.out _ hg0
      go_wp2_with first
        | (go_at_call 366; ((with_reducible refine (q1 _ _).mono ?_)); rintro e w1 ⟨rfl, rfl⟩)
        | (go_at_call 46; ((with_reducible refine (CV.out).mono ?_)); rintro e w1 ⟨rfl, hm1, hg1⟩; have HM1 := Lib.hid hm1; clear hm1; obtain ⟨t0, t1, t2⟩ := HC.out _ hg1)
        | (go_at_call 44; ((with_reducible refine (CH.out _ hg1).mono ?_)); rintro e w2 ⟨rfl, rfl⟩)
        | (go_at_call 45; ((with_reducible refine (CP.out _ hg1).mono ?_)); rintro e w3 ⟨kp3, kc3, vp3, vc3, rfl, hk3, hv3, hb3⟩; have hg5 := grown_new hg1 hb3 (.cells #[.slice kp3 k'.length kc3, .slice vp3 v'.length vc3] 61); obtain ⟨u0, u1, u2⟩ := HC.out _ hg5; have HM5 := Lib.hid ((HM1.out.below hb3).below ((Below.refl _ _).alloc (Nat.le_refl _) (.cells #[.slice kp3 k'.length kc3, .slice vp3 v'.length vc3] 61))); have HK5 := Lib.hid (hk3.below ((Below.refl _ _).alloc (Nat.le_refl _) (.cells #[.slice kp3 k'.length kc3, .slice vp3 v'.length vc3] 61))); clear hk3 hv3 hb3)
        | (go_at_call 47; ((with_reducible refine (CC.out _ _ _ hg5 HM5.out HK5.out).mono ?_)); rintro e w6 ⟨rfl, hm6, hg6⟩; have HM6 := Lib.hid hm6; have HG6 := Lib.hid (grown_step hg5 hg6); clear hm6)
        | fail
      go_ret2
      exact ⟨_, rfl, HX.out _ HG6.out, HM6.out, UP.out _ HG6.out⟩
  · have es : (N.leaf g k' v').deleS h k L = (1, 0) := by simp [N.deleS, hgh]
    have ed : (N.leaf g k' v').dele h k L = none := by simp [N.dele, hgh]
    have g0 : ((g : Int) != (h : Int)) = true := by simp; omega
    rw [es, ed]
    clear hk hx hm hD hD' up hB hgB r0 es ed hgh
    go_enter Tryz.func107, Tryz.ntmps107
    go_wp2_with fail
    rw [← hW2]
    clear hW2
    obtain ⟨s0, s1, s2⟩ := HC.out _ hg0
    go_wp2_with first
      | (go_at_call 366; ((with_reducible refine (q1 _ _).mono ?_)); rintro e w1 ⟨rfl, rfl⟩)
      | (go_at_call 46; ((with_reducible refine (CV.out).mono ?_)); rintro e w1 ⟨rfl, hm1, hg1⟩; have HM1 := Lib.hid hm1; clear hm1; obtain ⟨t0, t1, t2⟩ := HC.out _ hg1)
      | (go_at_call 44; ((with_reducible refine (CH.out _ hg1).mono ?_)); rintro e w2 ⟨rfl, rfl⟩)
      | fail
    go_ret2
    exact ⟨_, rfl, HX.out _ hg1, HM1.out, UP.out _ hg1⟩
set_option maxHeartbeats 2000000 in
set_option maxRecDepth 100000 in
theorem cutBucket (w : World) (D : Nat → Prop) (hD : ∀ j, w.heap.size ≤ j → D j) {mb : Option Nat} (ho : Off D mb) {vi c h L b g : Nat} (hm : Met w mb vi c) {kp : Option Addr} {kc : Nat} {k : List UInt8} {t : T} (hk : IsD w (fun j => mb ≠ some j) kp kc k)
    (hx : N.At w D (.bucket g t) (ifp 226 b)) (hb : t.Bal) (hts : ∀ x ∈ t.list, x.1.length ≤ 1000000 ∧ x.2.length ≤ 1000000) (hasc : Asc t.list) (hsz : t.size < 1000000) (hvi : vi + t.size < 999999999999) (hci : c + t.size < 999999999999) :
    Calls Tryz.prog 107 #[cutV h kp kc k mb, ifp 226 b, .int .i64 (L : Int)] w (CutR D ((N.bucket g t).dele h k L) (some (.bucket g t)) mb (vi + ((N.bucket g t).deleS h k L).1) (c + ((N.bucket g t).deleS h k L).2) w) := by
  obtain ⟨W2, hW2⟩ : ∃ x, x = w.alloc (cutRow h kp kc k mb) := ⟨_, rfl⟩
  have hB : Below w.heap.size w W2 := by rw [hW2]; exact (Below.refl _ w).alloc (Nat.le_refl _) _
  have r0 : W2.heap[w.heap.size]? = some (cutRow h kp kc k mb) := by rw [hW2]; exact heap_alloc_new _ _
  have hml := hm.lt
  have n0 : mb ≠ some w.heap.size := fun e => by have := hml _ e; omega
  have hgB := grown_of_below hB mb
  have HC := Lib.hid (show ∀ w', W2.grownBy w' mb → (w'.cell? ⟨w.heap.size, 0, none⟩ = some (.int .u64 (h : Int)) ∧ w'.cell? ⟨w.heap.size, 1, none⟩ = some (.slice kp k.length kc) ∧ w'.cell? ⟨w.heap.size, 2, none⟩ = some (.pointer (mptr mb))) from fun w' hg => cutAt_of (grown_row hg r0 n0))
  have up : ∀ w', W2.grownBy w' mb → w.grownBy w' mb := fun w' hg => grown_trans hgB hg
  have hD' : ∀ w', W2.grownBy w' mb → ∀ j, w'.heap.size ≤ j → D j := fun w' hg j hj => hD j (Nat.le_trans (up w' hg).size hj)
  have HM2 := Lib.hid (hm.below hB)
  have CH := Lib.hid (show ∀ w', W2.grownBy w' mb → Calls Tryz.prog 44 #[ifp 226 b] w' (fun e w'' => e = .returned (.tuple #[.int .u64 (g : Int), .bool true]) ∧ w' = w'') from fun w' hg => nodeHash w' (hx.grown ho (up w' hg)))
  have CP := Lib.hid (show ∀ w', W2.grownBy w' mb → Calls Tryz.prog 45 #[ifp 226 b] w' _ from fun w' hg => nodePairNo w' D 226 b (.inl rfl))
  have CT := Lib.hid (show ∀ w', W2.grownBy w' mb → Calls Tryz.prog 48 #[ifp 226 b] w' _ from fun w' hg => nodeTree w' (hx.grown ho (up w' hg)))
  have HX := Lib.hid (show ∀ w', W2.grownBy w' mb → N.At w' D (.bucket g t) (ifp 226 b) from fun w' hg => hx.grown ho (up w' hg))
  have CD := Lib.hid (show ∀ w' p, W2.grownBy w' mb → Met w' mb vi c → TreeAt w' D p t → Calls Tryz.prog 19 #[.pointer p, .slice kp k.length kc, .pointer (mptr mb)] w' (DelR k D t mb vi c w') from fun w' p hg hmm ht => treeDel D ho (Off.ne mb) t w' (hD' w' hg) vi c hmm hvi hci p ht hb (by omega) (hk.grown (Off.ne mb) (up w' hg)))
  have CB := Lib.hid (show ∀ w' p u, delT k t = some u → W2.grownBy w' mb → TreeAt w' D p u → Calls Tryz.prog 182 #[.int .u64 (h : Int), .pointer p] w' (NodeR D (bucketN h u) w') from fun w' p u hu hg ht => nodeBucket w' D (hD' w' hg) h ht (fun x hx => by
    have hl := ((delT_ok (k := k) hb hasc).1 u hu).list
    rw [hl] at hx
    have := hts x (List.mem_filter.1 hx).1
    omega) (by have := (del_size hb hu).2; omega))
  have UP := Lib.hid up
  have q0 := mKind226
  have q1 := kindBucket
  have q2 := nil42
  have hg0 := grown_rfl W2 mb
  by_cases hgh : g = h
  · subst hgh
    have es : (N.bucket g t).deleS g k L = delS k t := by simp [N.deleS]
    have ed : (N.bucket g t).dele g k L = (delT k t).map fun u => bucketN g u := by simp [N.dele]
    rw [es, ed]
    cases hdd : delT k t with
    | none =>
      have CD0 := Lib.hid (show ∀ w' p, W2.grownBy w' mb → Met w' mb vi c → TreeAt w' D p t → Calls Tryz.prog 19 #[.pointer p, .slice kp k.length kc, .pointer (mptr mb)] w' (fun e w'' => ∃ q, e = .returned (.tuple #[.pointer q, .bool false]) ∧ Met w'' mb (vi + (delS k t).1) (c + (delS k t).2) ∧ w'.grownBy w'' mb) from fun w' p hg hmm ht => (CD.out w' p hg hmm ht).mono fun e w'' ⟨q, h1, h2, h3, h4⟩ => ⟨q, by rw [hdd] at h1; exact h1, h3, h4⟩)
      generalize delS k t = S at *
      clear hk hx hm hD hD' up hB hgB r0 es ed hb hts hasc CD CB hdd
      go_enter Tryz.func107, Tryz.ntmps107
      go_wp2_with fail
      rw [← hW2]
      clear hW2
      obtain ⟨s0, s1, s2⟩ := HC.out _ hg0
      go_wp2_with first
        | (go_at_call 368; ((with_reducible refine (q1 _ _).mono ?_)); rintro e w1 ⟨rfl, rfl⟩)
        | (go_at_call 44; ((with_reducible refine (CH.out _ hg0).mono ?_)); rintro e w2 ⟨rfl, rfl⟩)
        | (go_at_call 45; ((with_reducible refine (CP.out _ hg0).mono ?_)); rintro e w3 ⟨rfl, hb3⟩; have hg5 := grown_new hg0 hb3 (.cells #[.slice none 0 0, .slice none 0 0] 61); obtain ⟨u0, u1, u2⟩ := HC.out _ hg5; have HM5 := Lib.hid ((HM2.out.below hb3).below ((Below.refl _ _).alloc (Nat.le_refl _) (.cells #[.slice none 0 0, .slice none 0 0] 61))); clear hb3)
        | (go_at_call 48; ((with_reducible refine (CT.out _ hg5).mono ?_)); rintro e w4 ⟨p4, rfl, ht4, rfl⟩; have HT4 := Lib.hid ht4; clear ht4)
        | (go_at_call 19; ((with_reducible refine (CD0.out _ _ hg5 HM5.out HT4.out).mono ?_)); rintro e w6 ⟨q6, rfl, hm6, hg6⟩; have HM6 := Lib.hid hm6; have HG6 := Lib.hid (grown_step hg5 hg6); obtain ⟨x0, x1, x2⟩ := HC.out _ HG6.out; clear hm6)
        | fail
      go_ret2
      exact ⟨_, rfl, HX.out _ HG6.out, HM6.out, UP.out _ HG6.out⟩
    | some u =>
      have CD0 := Lib.hid (show ∀ w' p, W2.grownBy w' mb → Met w' mb vi c → TreeAt w' D p t → Calls Tryz.prog 19 #[.pointer p, .slice kp k.length kc, .pointer (mptr mb)] w' (fun e w'' => ∃ q, e = .returned (.tuple #[.pointer q, .bool true]) ∧ TreeAt w'' D q u ∧ Met w'' mb (vi + (delS k t).1) (c + (delS k t).2) ∧ w'.grownBy w'' mb) from fun w' p hg hmm ht => (CD.out w' p hg hmm ht).mono fun e w'' ⟨q, h1, h2, h3, h4⟩ => ⟨q, by rw [hdd] at h1; exact h1, by rw [hdd] at h2; exact h2, h3, h4⟩)
      have CB0 := Lib.hid (fun w' p => CB.out w' p u hdd)
      generalize delS k t = S at *
      clear hk hx hm hD hD' up hB hgB r0 es ed hb hts hasc CD CB hdd
      go_enter Tryz.func107, Tryz.ntmps107
      go_wp2_with fail
      rw [← hW2]
      clear hW2
      obtain ⟨s0, s1, s2⟩ := HC.out _ hg0
      go_wp2_with first
        | (go_at_call 368; ((with_reducible refine (q1 _ _).mono ?_)); rintro e w1 ⟨rfl, rfl⟩)
        | (go_at_call 44; ((with_reducible refine (CH.out _ hg0).mono ?_)); rintro e w2 ⟨rfl, rfl⟩)
        | (go_at_call 45; ((with_reducible refine (CP.out _ hg0).mono ?_)); rintro e w3 ⟨rfl, hb3⟩; have hg5 := grown_new hg0 hb3 (.cells #[.slice none 0 0, .slice none 0 0] 61); obtain ⟨u0, u1, u2⟩ := HC.out _ hg5; have HM5 := Lib.hid ((HM2.out.below hb3).below ((Below.refl _ _).alloc (Nat.le_refl _) (.cells #[.slice none 0 0, .slice none 0 0] 61))); clear hb3)
        | (go_at_call 48; ((with_reducible refine (CT.out _ hg5).mono ?_)); rintro e w4 ⟨p4, rfl, ht4, rfl⟩; have HT4 := Lib.hid ht4; clear ht4)
        | (go_at_call 19; ((with_reducible refine (CD0.out _ _ hg5 HM5.out HT4.out).mono ?_)); rintro e w6 ⟨q6, rfl, ht6, hm6, hg6⟩; have HT6 := Lib.hid ht6; have HM6 := Lib.hid hm6; have HG6 := Lib.hid (grown_step hg5 hg6); obtain ⟨x0, x1, x2⟩ := HC.out _ HG6.out; clear hm6 ht6)
        | (go_at_call 182; ((with_reducible refine (CB0.out _ _ HG6.out HT6.out).mono ?_)); rintro e w7 ⟨v7, rfl, hn7, hb7⟩; have HN7 := Lib.hid hn7; have HB7 := Lib.hid hb7; clear hn7 hb7)
        | fail
      go_ret2
      exact ⟨_, rfl, HN7.out, HM6.out.below HB7.out, UP.out _ (grown_step HG6.out (grown_of_below HB7.out mb))⟩
  · have es : (N.bucket g t).deleS h k L = (0, 0) := by simp [N.deleS, hgh]
    have ed : (N.bucket g t).dele h k L = none := by simp [N.dele, hgh]
    have g0 : ((g : Int) != (h : Int)) = true := by simp; omega
    rw [es, ed]
    clear hk hx hm hD hD' up hB hgB r0 es ed hgh hb hts hasc CD CB
    go_enter Tryz.func107, Tryz.ntmps107
    go_wp2_with fail
    rw [← hW2]
    clear hW2
    obtain ⟨s0, s1, s2⟩ := HC.out _ hg0
    go_wp2_with first
      | (go_at_call 368; ((with_reducible refine (q1 _ _).mono ?_)); rintro e w1 ⟨rfl, rfl⟩)
      | (go_at_call 44; ((with_reducible refine (CH.out _ hg0).mono ?_)); rintro e w2 ⟨rfl, rfl⟩)
      | fail
    go_ret2
    exact ⟨_, rfl, HX.out _ hg0, HM2.out, UP.out _ hg0⟩
end Go.Proofs.YtmbiiemlepfoaaaGreatDoor
