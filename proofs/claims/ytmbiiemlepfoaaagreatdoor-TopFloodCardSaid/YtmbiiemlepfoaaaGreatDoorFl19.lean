/- The walks of prune.without, cut branch, cut from of any node, prune.Delete. Appending a new element to a slice of one's own: the law in short. Appending a new element to a slice of one's own: where it then lies. The walk of each, over whatever function is handed in. -/
import Derived.Test.YtmbiiemlepfoaaaGreatDoorFl18
import Derived.Test.YtmbiiemlepfoaaaGreatDoorFl01
import Derived.Deep.AppendLies
import Derived.Laws.AppendOwn
import Derived.Maps.AppendAt
import Derived.Test.YtmbiiemlepfoaaaGreatDoorFl13
import Derived.Test.YtmbiiemlepfoaaaGreatDoorFl02

namespace Go.Proofs.YtmbiiemlepfoaaaGreatDoor
open Go.RowKit
set_option linter.unusedVariables false
set_option maxHeartbeats 1000000 in
set_option maxRecDepth 100000 in
theorem pruneWithout (w : World) (D : Nat → Prop) (hD : ∀ j, w.heap.size ≤ j → D j) {nb m c L : Nat} {ks : List N} (hx : N.At w D (.branch m ks) (ifp 308 nb)) (hf : (N.branch m ks).fit L) (hc : c < 32) (hne : pickN m c ks ≠ []) (h2 : 2 < w.heap.size) (hT : TabAt 2 Lib.deBruijn32tab w)
    (hsz : N.counts (pickN m c ks) < 4611686018427387904) :
    Calls Tryz.prog 250 #[ifp 308 nb, .int .i64 (c : Int)] w (CollR D (collapseN (.branch (woM m c) (pickN m c ks))) w) := by
  have hm : m < 4294967296 := by unfold N.fit at hf; exact hf.1
  have CM := Lib.hid (nodeMap w (n := some (.branch m ks)) hx)
  rw [show mapV (N.mapO (some (N.branch m ks))) = .tuple #[.int .u32 (m : Int), .bool true] from rfl] at CM
  have CW := Lib.hid (fun w => bitsWithout w m c hm hc)
  have CP := Lib.hid (prunePick w D hD hx hf hne h2 hT hsz)
  have CC := Lib.hid (show ∀ w' b, Below w.heap.size w w' → N.At w' D (.branch (woM m c) (pickN m c ks)) (ifp 308 b) → Calls Tryz.prog 251 #[ifp 308 b] w' (CollR D (collapseN (.branch (woM m c) (pickN m c ks))) w') from fun w' b hb hn => pruneCollapse w' D hn (wo_lt hm) (by unfold pickN; rw [List.length_map]; rfl) (Nat.lt_of_lt_of_le h2 hb.size) (tab_keep hT (hb.block 2 h2)))
  generalize collapseN (.branch (woM m c) (pickN m c ks)) = R at *
  generalize N.branch (woM m c) (pickN m c ks) = P at *
  generalize woM m c = m' at *
  clear hx hf hT hD hsz hne
  go_enter Tryz.func250, Tryz.ntmps250
  go_wp2_with first
    | (go_at_call 102; ((with_reducible refine (CM.out).mono ?_)); rintro e w1 ⟨rfl, rfl⟩)
    | (go_at_call 293; ((with_reducible refine (CW.out _).mono ?_)); rintro e w1 ⟨rfl, rfl⟩)
    | (go_at_call 294; ((with_reducible refine (CP.out).mono ?_)); rintro e w2 ⟨b2, rfl, hn2, hb2⟩; have HN2 := Lib.hid hn2; have HB2 := Lib.hid hb2; clear hn2 hb2)
    | (go_at_call 251; ((with_reducible refine (CC.out _ _ HB2.out HN2.out).mono ?_)); rintro e w3 ⟨t3, b3, rfl, hn3, hb3⟩; have HN3 := Lib.hid hn3; have HB3 := Lib.hid (HB2.out.trans (hb3.mono HB2.out.size)); clear hn3 hb3)
    | fail
  go_ret
  exact ⟨_, _, rfl, HN3.out, HB3.out⟩
def CutOk (D : Nat → Prop) (mb : Option Nat) (h : Nat) (k : List UInt8) (n : Option N) (L : Nat) : Prop :=
  ∀ (w : World) (hD : ∀ j, w.heap.size ≤ j → D j) (x : Value) (vi c : Nat) (kp : Option Addr) (kc : Nat), NodeAt w D n x → Met w mb vi c → vi < 999980000000 + L → c < 999980000000 → L ≤ 13 → IsD w (fun j => mb ≠ some j) kp kc k → 2 < w.heap.size → TabAt 2 Lib.deBruijn32tab w →
    Calls Tryz.prog 107 #[cutV h kp kc k mb, x, .int .i64 (L : Int)] w (CutR D (deleO h k n L) n mb (vi + (deleSO h k n L).1) (c + (deleSO h k n L).2) w)
set_option maxHeartbeats 4000000 in
set_option maxRecDepth 100000 in
theorem cutBranch (w : World) (D : Nat → Prop) (hD : ∀ j, w.heap.size ≤ j → D j) {mb : Option Nat} (ho : Off D mb) (hm2 : mb ≠ some 2) {vi c h L b m : Nat} {ks : List N} (hm : Met w mb vi c) {kp : Option Addr} {kc : Nat} {k : List UInt8} (hk : IsD w (fun j => mb ≠ some j) kp kc k)
    (hx : N.At w D (.branch m ks) (ifp 308 b)) (hf : (N.branch m ks).fit L) (hh : h < 18446744073709551616) (h2 : 2 < w.heap.size) (hT : TabAt 2 Lib.deBruijn32tab w)
    (hp : deleO h k (kidN m ks (chunkM h L)) (L + 1) = some none → pickN m (chunkM h L) ks ≠ [] ∧ N.counts (pickN m (chunkM h L) ks) < 4611686018427387904)
    (hw : ∀ k', deleO h k (kidN m ks (chunkM h L)) (L + 1) = some (some k') → N.counts (withN m ks (chunkM h L) k') < 4611686018427387904)
    (IH : CutOk D mb h k (kidN m ks (chunkM h L)) (L + 1)) (hvi : vi < 999980000000 + L) (hci : c < 999980000000) :
    Calls Tryz.prog 181 #[cutV h kp kc k mb, ifp 308 b, .int .i64 (L : Int)] w (CutR D ((N.branch m ks).dele h k L) (some (.branch m ks)) mb (vi + ((deleSO h k (kidN m ks (chunkM h L)) (L + 1)).1 + 1)) (c + (deleSO h k (kidN m ks (chunkM h L)) (L + 1)).2) w) := by
  obtain ⟨W2, hW2⟩ : ∃ x, x = w.alloc (cutRow h kp kc k mb) := ⟨_, rfl⟩
  have hB : Below w.heap.size w W2 := by rw [hW2]; exact (Below.refl _ w).alloc (Nat.le_refl _) _
  have r0 : W2.heap[w.heap.size]? = some (cutRow h kp kc k mb) := by rw [hW2]; exact heap_alloc_new _ _
  have hml := hm.lt
  have n0 : mb ≠ some w.heap.size := fun e => by have := hml _ e; omega
  have hgB := grown_of_below hB mb
  have HC := Lib.hid (show ∀ w', W2.grownBy w' mb → (w'.cell? ⟨w.heap.size, 0, none⟩ = some (.int .u64 (h : Int)) ∧ w'.cell? ⟨w.heap.size, 1, none⟩ = some (.slice kp k.length kc) ∧ w'.cell? ⟨w.heap.size, 2, none⟩ = some (.pointer (mptr mb))) from fun w' hg => cutAt_of (grown_row hg r0 n0))
  have up : ∀ w', W2.grownBy w' mb → w.grownBy w' mb := fun w' hg => grown_trans hgB hg
  have hD' : ∀ w', W2.grownBy w' mb → ∀ j, w'.heap.size ≤ j → D j := fun w' hg j hj => hD j (Nat.le_trans (up w' hg).size hj)
  have hf' := hf
  unfold N.fit at hf
  obtain ⟨f1, f2, f3, f4, f5, f6⟩ := hf
  rw [fits_iff] at f5
  have hch := chunkM_lt h L
  have CV := Lib.hid (metVisit W2 (hm.below hB) (by omega))
  have CH := Lib.hid (fun w => chunkAt w h L hh)
  have CK := Lib.hid (show ∀ w', W2.grownBy w' mb → Calls Tryz.prog 103 #[ifp 308 b, .int .i64 (chunkM h L : Int)] w' _ from fun w' hg => nodeKid w' (hx.grown ho (up w' hg)) f1 f3 hch)
  have CI := Lib.hid (show ∀ w' x, W2.grownBy w' mb → NodeAt w' D (kidN m ks (chunkM h L)) x → Met w' mb (vi + 1) c → Calls Tryz.prog 107 #[cutV h kp kc k mb, x, .int .i64 ((L : Int) + 1)] w' (CutR D (deleO h k (kidN m ks (chunkM h L)) (L + 1)) (kidN m ks (chunkM h L)) mb (vi + 1 + (deleSO h k (kidN m ks (chunkM h L)) (L + 1)).1) (c + (deleSO h k (kidN m ks (chunkM h L)) (L + 1)).2) w') from fun w' x hg hn hmm => by
    have := IH w' (hD' w' hg) x (vi + 1) c kp kc hn hmm (by omega) (by omega) (by omega) (hk.grown (Off.ne mb) (up w' hg)) (Nat.lt_of_lt_of_le h2 (up w' hg).size) (tab_grown hT h2 hm2 (up w' hg))
    rwa [show ((L + 1 : Nat) : Int) = (L : Int) + 1 from by omega] at this)
  have HX := Lib.hid (show ∀ w', W2.grownBy w' mb → N.At w' D (.branch m ks) (ifp 308 b) from fun w' hg => hx.grown ho (up w' hg))
  have CWo := Lib.hid (show ∀ w', deleO h k (kidN m ks (chunkM h L)) (L + 1) = some none → W2.grownBy w' mb → Calls Tryz.prog 250 #[ifp 308 b, .int .i64 (chunkM h L : Int)] w' (CollR D (collapseN (.branch (woM m (chunkM h L)) (pickN m (chunkM h L) ks))) w') from fun w' hd hg => pruneWithout w' D (hD' w' hg) (hx.grown ho (up w' hg)) hf' hch (hp hd).1 (Nat.lt_of_lt_of_le h2 (up w' hg).size) (tab_grown hT h2 hm2 (up w' hg)) (hp hd).2)
  have CWi := Lib.hid (show ∀ w' k' kt kb, deleO h k (kidN m ks (chunkM h L)) (L + 1) = some (some k') → W2.grownBy w' mb → N.At w' D k' (ifp kt kb) → Calls Tryz.prog 252 #[ifp 308 b, .int .i64 (chunkM h L : Int), ifp kt kb] w' (W1R D (.branch (m ||| 2 ^ chunkM h L) (withN m ks (chunkM h L) k')) w') from fun w' k' kt kb hd hg hn => graftWith w' D (hD' w' hg) (hx.grown ho (up w' hg)) hf' hch hn (Nat.lt_of_lt_of_le h2 (up w' hg).size) (tab_grown hT h2 hm2 (up w' hg)) (hw k' hd))
  have CCo := Lib.hid (show ∀ w' b' k', W2.grownBy w' mb → N.At w' D (.branch (m ||| 2 ^ chunkM h L) (withN m ks (chunkM h L) k')) (ifp 308 b') → Calls Tryz.prog 251 #[ifp 308 b'] w' (CollR D (collapseN (.branch (m ||| 2 ^ chunkM h L) (withN m ks (chunkM h L) k'))) w') from fun w' b' k' hg hn => pruneCollapse w' D hn (or_lt32 f1 hch) (by unfold withN; rw [List.length_map]; rfl) (Nat.lt_of_lt_of_le h2 (up w' hg).size) (tab_grown hT h2 hm2 (up w' hg)))
  have g5 : IntKind.i64.wrap ((L : Int) + 1) = (L : Int) + 1 := IntWalk.i64_in _ (by omega)
  have q2 := nil42
  have UP := Lib.hid up
  have hg0 := grown_rfl W2 mb
  have ea : vi + ((deleSO h k (kidN m ks (chunkM h L)) (L + 1)).1 + 1) = vi + 1 + (deleSO h k (kidN m ks (chunkM h L)) (L + 1)).1 := by omega
  rw [ea, dele_branch]
  have hkd : m.testBit (chunkM h L) = false → kidN m ks (chunkM h L) = none := fun e => by unfold kidN; rw [e]; rfl
  have hS : m.testBit (chunkM h L) = false → deleSO h k (kidN m ks (chunkM h L)) (L + 1) = (0, 0) := fun e => by rw [hkd e]; rfl
  generalize deleSO h k (kidN m ks (chunkM h L)) (L + 1) = S at *
  obtain ⟨o, hoo⟩ : ∃ o, deleO h k (kidN m ks (chunkM h L)) (L + 1) = o := ⟨_, rfl⟩
  rw [hoo] at CI CWo CWi ⊢
  have hno : m.testBit (chunkM h L) = false → o = none := fun e => by rw [← hoo, hkd e]; rfl
  generalize kidN m ks (chunkM h L) = kid at *
  generalize chunkM h L = ch at *
  clear hk hx hm hD hD' up hB hgB r0 IH hT f1 f2 f3 f4 f5 f6 hf' ea hp hw hoo hkd
  by_cases hbit : m.testBit ch = true
  · rw [hbit] at CK
    clear hno hS
    cases o with
    | none =>
      go_enter Tryz.func181, Tryz.ntmps181
      go_wp2_with fail
      rw [← hW2]
      clear hW2
      obtain ⟨s0, s1, s2⟩ := HC.out _ hg0
      go_wp2_with first
        | (go_at_call 46; ((with_reducible refine (CV.out).mono ?_)); rintro e w1 ⟨rfl, hm1, hg1⟩; have HM1 := Lib.hid hm1; clear hm1; obtain ⟨t0, t1, t2⟩ := HC.out _ hg1)
        | (go_at_call 104; ((with_reducible refine (CH.out _).mono ?_)); rintro e w2 ⟨rfl, rfl⟩)
        | (go_at_call 103; ((with_reducible refine (CK.out _ hg1).mono ?_)); rintro e w3 ⟨xv, rfl, hk3, nn, rfl⟩; have HK3 := Lib.hid hk3; have hg3 := grown_step hg1 (grown_drewN _ mb nn); have HM3 := Lib.hid (show Met (w1.drewN nn) mb (vi + 1) c from HM1.out); have HK3' := Lib.hid (hk3.below (below_drewN _ _ nn)); obtain ⟨u0, u1, u2⟩ := HC.out _ hg3; clear hk3)
        | (go_at_call 107; ((with_reducible refine (CI.out _ _ hg3 HK3'.out HM3.out).mono ?_)); rintro e w4 ⟨x4, rfl, hn4, hm4, hg4⟩; have HM4 := Lib.hid hm4; have HG4 := Lib.hid (grown_step hg3 hg4); clear hn4 hm4)
        | fail
      go_ret2
      exact ⟨_, rfl, HX.out _ HG4.out, HM4.out, UP.out _ HG4.out⟩
    | some r =>
      cases r with
      | none =>
        have CW0 := Lib.hid (fun w' => CWo.out w' rfl)
        go_enter Tryz.func181, Tryz.ntmps181
        go_wp2_with fail
        rw [← hW2]
        clear hW2
        obtain ⟨s0, s1, s2⟩ := HC.out _ hg0
        go_wp2_with first
          | (go_at_call 46; ((with_reducible refine (CV.out).mono ?_)); rintro e w1 ⟨rfl, hm1, hg1⟩; have HM1 := Lib.hid hm1; clear hm1; obtain ⟨t0, t1, t2⟩ := HC.out _ hg1)
          | (go_at_call 104; ((with_reducible refine (CH.out _).mono ?_)); rintro e w2 ⟨rfl, rfl⟩)
          | (go_at_call 103; ((with_reducible refine (CK.out _ hg1).mono ?_)); rintro e w3 ⟨xv, rfl, hk3, nn, rfl⟩; have HK3 := Lib.hid hk3; have hg3 := grown_step hg1 (grown_drewN _ mb nn); have HM3 := Lib.hid (show Met (w1.drewN nn) mb (vi + 1) c from HM1.out); have HK3' := Lib.hid (hk3.below (below_drewN _ _ nn)); obtain ⟨u0, u1, u2⟩ := HC.out _ hg3; clear hk3)
          | (go_at_call 107; ((with_reducible refine (CI.out _ _ hg3 HK3'.out HM3.out).mono ?_)); rintro e w4 ⟨x4, rfl, hn4, hm4, hg4⟩; obtain rfl : x4 = .nilIface := hn4; have HM4 := Lib.hid hm4; have HG4 := Lib.hid (grown_step hg3 hg4); clear hm4)
          | (go_at_call 250; ((with_reducible refine (CW0.out _ HG4.out).mono ?_)); rintro e w5 ⟨t5, b5, rfl, hn5, hb5⟩; have HN5 := Lib.hid hn5; have HB5 := Lib.hid hb5; clear hn5 hb5)
          | fail
        go_ret2
        exact ⟨_, rfl, HN5.out, HM4.out.below HB5.out, UP.out _ (grown_step HG4.out (grown_of_below HB5.out mb))⟩
      | some k' =>
        have CW0 := Lib.hid (fun w' kt kb => CWi.out w' k' kt kb rfl)
        have CI0 := Lib.hid (show ∀ w' x, W2.grownBy w' mb → NodeAt w' D kid x → Met w' mb (vi + 1) c → Calls Tryz.prog 107 #[cutV h kp kc k mb, x, .int .i64 ((L : Int) + 1)] w' (fun e w'' => ∃ t b, e = .returned (.tuple #[ifp t b, .bool true]) ∧ N.At w'' D k' (ifp t b) ∧ Met w'' mb (vi + 1 + S.1) (c + S.2) ∧ w'.grownBy w'' mb) from fun w' x h1 h2 h3 => (CI.out w' x h1 h2 h3).mono fun e w'' ⟨x', a1, a2, a3, a4⟩ => by
          have a2' : N.At w'' D k' x' := a2
          obtain ⟨bb, rfl, _⟩ := a2'.form
          exact ⟨_, _, a1, a2', a3, a4⟩)
        clear CI
        go_enter Tryz.func181, Tryz.ntmps181
        go_wp2_with fail
        rw [← hW2]
        clear hW2
        obtain ⟨s0, s1, s2⟩ := HC.out _ hg0
        go_wp2_with first
          | (go_at_call 46; ((with_reducible refine (CV.out).mono ?_)); rintro e w1 ⟨rfl, hm1, hg1⟩; have HM1 := Lib.hid hm1; clear hm1; obtain ⟨t0, t1, t2⟩ := HC.out _ hg1)
          | (go_at_call 104; ((with_reducible refine (CH.out _).mono ?_)); rintro e w2 ⟨rfl, rfl⟩)
          | (go_at_call 103; ((with_reducible refine (CK.out _ hg1).mono ?_)); rintro e w3 ⟨xv, rfl, hk3, nn, rfl⟩; have HK3 := Lib.hid hk3; have hg3 := grown_step hg1 (grown_drewN _ mb nn); have HM3 := Lib.hid (show Met (w1.drewN nn) mb (vi + 1) c from HM1.out); have HK3' := Lib.hid (hk3.below (below_drewN _ _ nn)); obtain ⟨u0, u1, u2⟩ := HC.out _ hg3; clear hk3)
          | (go_at_call 107; ((with_reducible refine (CI0.out _ _ hg3 HK3'.out HM3.out).mono ?_)); rintro e w4 ⟨t4, a4, rfl, hn4, hm4, hg4⟩; have HN4 := Lib.hid hn4; have HM4 := Lib.hid hm4; have HG4 := Lib.hid (grown_step hg3 hg4); clear hn4 hm4)
          | (go_at_call 252; ((with_reducible refine (CW0.out _ _ _ HG4.out HN4.out).mono ?_)); rintro e w5 ⟨b5, rfl, hn5, hb5⟩; have HN5 := Lib.hid hn5; have HB5 := Lib.hid hb5; have HG5 := Lib.hid (grown_step HG4.out (grown_of_below hb5 mb)); clear hn5 hb5)
          | (go_at_call 251; ((with_reducible refine (CCo.out _ _ k' HG5.out HN5.out).mono ?_)); rintro e w6 ⟨t6, b6, rfl, hn6, hb6⟩; have HN6 := Lib.hid hn6; have HB6 := Lib.hid hb6; clear hn6 hb6)
          | fail
        go_ret2
        exact ⟨_, rfl, HN6.out, (HM4.out.below HB5.out).below HB6.out, UP.out _ (grown_step HG5.out (grown_of_below HB6.out mb))⟩
  · have hbit' : m.testBit ch = false := by simpa using hbit
    rw [hbit'] at CK
    obtain rfl := hno hbit'
    obtain rfl := hS hbit'
    clear hno hS hbit hbit' CI CWo CWi CCo
    go_enter Tryz.func181, Tryz.ntmps181
    go_wp2_with fail
    rw [← hW2]
    clear hW2
    obtain ⟨s0, s1, s2⟩ := HC.out _ hg0
    go_wp2_with first
      | (go_at_call 46; ((with_reducible refine (CV.out).mono ?_)); rintro e w1 ⟨rfl, hm1, hg1⟩; have HM1 := Lib.hid hm1; clear hm1; obtain ⟨t0, t1, t2⟩ := HC.out _ hg1)
      | (go_at_call 104; ((with_reducible refine (CH.out _).mono ?_)); rintro e w2 ⟨rfl, rfl⟩)
      | (go_at_call 103; ((with_reducible refine (CK.out _ hg1).mono ?_)); rintro e w3 ⟨xv, rfl, hk3, nn, rfl⟩; have HG3 := Lib.hid (grown_step hg1 (grown_drewN _ mb nn)); have HM3 := Lib.hid (show Met (w1.drewN nn) mb (vi + 1) c from HM1.out); clear hk3)
      | fail
    go_ret2
    exact ⟨_, rfl, HX.out _ HG3.out, HM3.out, UP.out _ HG3.out⟩
set_option maxHeartbeats 2000000 in
set_option maxRecDepth 100000 in
theorem cutOfBranch (w : World) {mb : Option Nat} {h L b : Nat} {kp : Option Addr} {kc : Nat} {k : List UInt8} {D : Nat → Prop} {o : Option (Option N)} {n : Option N} {vi' c' : Nat}
    (CB : ∀ w', Below w.heap.size w w' → Calls Tryz.prog 181 #[cutV h kp kc k mb, ifp 308 b, .int .i64 (L : Int)] w' (CutR D o n mb vi' c' w')) :
    Calls Tryz.prog 107 #[cutV h kp kc k mb, ifp 308 b, .int .i64 (L : Int)] w (CutR D o n mb vi' c' w) := by
  obtain ⟨W2, hW2⟩ : ∃ x, x = w.alloc (cutRow h kp kc k mb) := ⟨_, rfl⟩
  have hB : Below w.heap.size w W2 := by rw [hW2]; exact (Below.refl _ w).alloc (Nat.le_refl _) _
  have r0 : W2.heap[w.heap.size]? = some (cutRow h kp kc k mb) := by rw [hW2]; exact heap_alloc_new _ _
  obtain ⟨s0, s1, s2⟩ := cutAt_of r0
  have C1 := Lib.hid (CB W2 hB)
  have HB := Lib.hid hB
  have q0 := mKind308
  have q1 := kindBranch
  have q2 := nil42
  clear CB hB r0
  go_enter Tryz.func107, Tryz.ntmps107
  go_wp2_with fail
  rw [← hW2]
  clear hW2
  go_wp2_with first
    | (go_at_call 370; ((with_reducible refine (q1 _ _).mono ?_)); rintro e w1 ⟨rfl, rfl⟩)
    | (go_at_call 181; ((with_reducible refine (C1.out).mono ?_)); rintro e w3 ⟨x3, rfl, hn3, hm3, hg3⟩; have HN3 := Lib.hid hn3; have HM3 := Lib.hid hm3; have HG3 := Lib.hid hg3; clear hn3 hm3 hg3)
    | fail
  go_ret2
  exact ⟨_, rfl, HN3.out, HM3.out, grown_trans (grown_of_below HB.out mb) HG3.out⟩
section
variable {H : List UInt8 → Nat}
theorem layB_count {m L : Nat} {ks : List N} {x : List PairT} (h : LayB H m ks L x) : N.counts ks ≤ x.length := by
  refine Nat.le_trans ?_ (sum_parts (f := fun p => chunkM (H p.1) L) (x := x) (bits_nodup 32 m))
  have key : ∀ (ks : List N) (cs : List Nat), ks.length = cs.length → (∀ (i : Nat) (n : N) (c : Nat), ks[i]? = some n → cs[i]? = some c → n.count ≤ (partL H x L c).length) → N.counts ks ≤ (cs.map fun c => (partL H x L c).length).sum := by
    intro ks
    induction ks with
    | nil => intro cs h _; simp [N.counts]
    | cons n ks ih =>
      intro cs hl hc
      cases cs with
      | nil => simp at hl
      | cons c cs =>
        have h1 := hc 0 n c rfl rfl
        have h2 := ih cs (by simpa using hl) fun i n' c' a b => hc (i + 1) n' c' (by simpa using a) (by simpa using b)
        simp only [N.counts, List.map_cons, List.sum_cons]
        omega
  exact key ks (bitsOf m) h.len fun i n c hi hb => lay_count (h.kids i n c hi hb)
theorem cutAll (hh : ∀ k, H k < 18446744073709551616) {D : Nat → Prop} {mb : Option Nat} (ho : Off D mb) (hm2 : mb ≠ some 2) {k : List UInt8} {n : N} {L : Nat} {x : List PairT} (hl : Lay H n L x) : Asc x → (∀ p ∈ x, p.1.length ≤ 1000000 ∧ p.2.length ≤ 1000000) → x.length < 1000000 → CutOk D mb (H k) k (some n) L := by
  induction hl with
  | leaf k' v' L =>
    intro ha hs hn w hD x vi c kp kc hx hm hvi hci hLv hk h2 hT
    have hx' : N.At w D (.leaf (H k') k' v') x := hx
    obtain ⟨b, rfl, _⟩ := hx'.form
    have := hs (k', v') (by simp)
    exact cutLeaf w D hD ho hm (by omega) (by omega) hk hx' this.1 this.2
  | bucket g t L h2t hb hth =>
    intro ha hs hn w hD x vi c kp kc hx hm hvi hci hLv hk h2 hT
    have hx' : N.At w D (.bucket g t) x := hx
    obtain ⟨b, rfl, _⟩ := hx'.form
    rw [T.list_length] at hn
    exact cutBucket w D hD ho hm hk hx' hb hs ha hn (by omega) (by omega)
  | branch m ks L x h1 h2' h3 h4 h5 h6 ih =>
    intro ha hs hn w hD v vi c kp kc hx hm hvi hci hLv hk h2 hT
    have hx' : N.At w D (.branch m ks) v := hx
    obtain ⟨b, rfl, _⟩ := hx'.form
    have hB : LayB H m ks L x := ⟨h1, h2', h3, h5, h6⟩
    have hfit := lay_fit hh (hB.lay h4) hs
    have hc := chunkM_lt (H k) L
    have hwl : (withoutL k x).length ≤ x.length := by unfold withoutL; exact List.length_filter_le _ _
    have key : (deleO (H k) k (kidN m ks (chunkM (H k) L)) (L + 1) = none → hasL k (partL H x L (chunkM (H k) L)) = false) ∧ ∀ r, deleO (H k) k (kidN m ks (chunkM (H k) L)) (L + 1) = some r → hasL k (partL H x L (chunkM (H k) L)) = true ∧ LayO H (L + 1) (partL H (withoutL k x) L (chunkM (H k) L)) r := by
      rw [part_without]
      unfold kidN
      by_cases hb : m.testBit (chunkM (H k) L) = true
      · rw [if_pos hb]
        obtain ⟨n, hn⟩ := with_old (c := 0) h3 hc hb
        rw [hn]
        have r := dele_lay (k := k) (h6 _ n _ hn (bits_at hc hb)) (part_asc ha L _)
        exact ⟨r.no, r.yes⟩
      · rw [if_neg hb, part_nil fun h => hb ((h5 _ hc).2 h)]
        exact ⟨fun _ => rfl, fun r h => (by cases h)⟩
    have CB := fun (w' : World) (hb : Below w.heap.size w w') => cutBranch w' D (fun j hj => hD j (Nat.le_trans hb.size hj)) ho hm2 (h := H k) (L := L) (vi := vi) (c := c) (k := k) (hm.below hb) (hk.below hb) (hx'.below hb) hfit (hh k) (Nat.lt_of_lt_of_le h2 hb.size) (tab_keep hT (hb.block 2 h2))
      (fun hd => by
        have hL := (key.2 _ hd).2
        have hpl : LayB H (woM m (chunkM (H k) L)) (pickN m (chunkM (H k) L) ks) L (withoutL k x) := pick_lay hB hL fun i hi => part_other hi
        refine ⟨fun e => ?_, by have := layB_count hpl; omega⟩
        have hne := without_ne (H := H) (k := k) h4
        obtain ⟨p, hp⟩ := List.exists_mem_of_ne_nil _ hne
        have hbit := (hpl.bits _ (chunkM_lt (H p.1) L)).2 ⟨p, hp, rfl⟩
        have hlt := cnt_lt (chunkM_lt (H p.1) L) hbit
        have hlen := hpl.len
        rw [e] at hlen
        simp at hlen
        omega)
      (fun k' hd => by
        have hL := (key.2 _ hd).2
        have hwl2 : LayB H (m ||| 2 ^ chunkM (H k) L) (withN m ks (chunkM (H k) L) k') L (withoutL k x) := with_lay hB hc hL fun i hi => part_other hi
        have := layB_count hwl2
        omega)
      (by
        unfold kidN
        by_cases hb : m.testBit (chunkM (H k) L) = true
        · rw [if_pos hb]
          obtain ⟨n, hn'⟩ := with_old (c := 0) h3 hc hb
          rw [hn']
          exact ih _ n _ hn' (bits_at hc hb) (part_asc ha L _) (fun p hp => hs p (mem_part.1 hp).1) (Nat.lt_of_le_of_lt (List.length_filter_le _ _) hn)
        · rw [if_neg hb]
          intro w0 hD0 x0 vi0 c0 kp0 kc0 hx0 hm0 _ _ _ _ _ _
          obtain rfl : x0 = .nilIface := hx0
          exact cutNil w0 D hm0) hvi hci
    have := cutOfBranch w CB
    show Calls Tryz.prog 107 _ w (CutR D ((N.branch m ks).dele (H k) k L) _ mb (vi + ((N.branch m ks).deleS (H k) k L).1) (c + ((N.branch m ks).deleS (H k) k L).2) w)
    rw [deleS_branch]
    exact this
theorem cutAllO (hh : ∀ k, H k < 18446744073709551616) {D : Nat → Prop} {mb : Option Nat} (ho : Off D mb) (hm2 : mb ≠ some 2) {k : List UInt8} {n : Option N} {x : List PairT} (hl : LayO H 0 x n) (ha : Asc x) (hs : ∀ p ∈ x, p.1.length ≤ 1000000 ∧ p.2.length ≤ 1000000) (hn : x.length < 1000000) : CutOk D mb (H k) k n 0 := by
  cases n with
  | none =>
    intro w0 hD0 x0 vi0 c0 kp0 kc0 hx0 hm0 _ _ _ _ _ _
    obtain rfl : x0 = .nilIface := hx0
    exact cutNil w0 D hm0
  | some n => exact cutAll hh ho hm2 hl ha hs hn
end
set_option maxRecDepth 100000 in
theorem pruneDelete {H : List UInt8 → Nat} (hh : ∀ k, H k < 18446744073709551616) (w : World) (D : Nat → Prop) (hD : ∀ j, w.heap.size ≤ j → D j) {mb : Option Nat} (ho : Off D mb) (hm2 : mb ≠ some 2) {vi c : Nat} (hm : Met w mb vi c) (hvi : vi < 999980000000) (hci : c < 999980000000) {kp : Option Addr} {kc : Nat} {k : List UInt8} (hk : IsD w (fun j => mb ≠ some j) kp kc k)
    {n : Option N} {v : Value} {x : List PairT} (hx : NodeAt w D n v) (hl : LayO H 0 x n) (ha : Asc x) (hs : ∀ p ∈ x, p.1.length ≤ 1000000 ∧ p.2.length ≤ 1000000) (hn : x.length < 1000000) (h2 : 2 < w.heap.size) (hT : TabAt 2 Lib.deBruijn32tab w) :
    Calls Tryz.prog 53 #[v, .int .u64 (H k : Int), .slice kp k.length kc, .pointer (mptr mb)] w (CutR D (deleO (H k) k n 0) n mb (vi + (deleSO (H k) k n 0).1) (c + (deleSO (H k) k n 0).2) w) := by
  have CC := Lib.hid (cutAllO hh ho hm2 (k := k) hl ha hs hn w hD v vi c kp kc hx hm (by omega) hci (by omega) hk h2 hT)
  rw [show ((0 : Nat) : Int) = 0 from rfl] at CC
  generalize deleSO (H k) k n 0 = S at *
  generalize deleO (H k) k n 0 = o at *
  generalize H k = h at *
  clear hx hl ha hs hT hm hk hD
  go_enter Tryz.func53, Tryz.ntmps53
  go_wp2_with first
    | (go_at_call 107; ((with_reducible refine (CC.out).mono ?_)); rintro e w3 ⟨x3, rfl, hn3, hm3, hg3⟩; have HN3 := Lib.hid hn3; have HM3 := Lib.hid hm3; have HG3 := Lib.hid hg3; clear hn3 hm3 hg3)
    | fail
  refine bodyPost_ret (v := .tuple #[x3, .bool o.isSome]) (results_tmp2 (t := 8) (u := 9) rfl _ _ _) rfl ?_
  exact ⟨_, rfl, HN3.out, HM3.out, HG3.out⟩
end Go.Proofs.YtmbiiemlepfoaaaGreatDoor
namespace Go.Proofs.YtmbiiemlepfoaaaGreatDoor
open Go.RowKit
set_option linter.unusedVariables false
def SlTy (t e size bytes : Nat) : Prop := ∃ i z, Tryz.prog.underlying t = some (.slice e) ∧ Tryz.prog.info? e = some i ∧ i.zero = some z ∧ i.size = size ∧ i.bytes = bytes ∧ z.cells.size = size ∧ 0 < size
theorem slTy {t e size bytes : Nat} {z : Value} (h1 : Tryz.prog.underlying t = some (.slice e)) (h2 : (Tryz.prog.info? e).map (fun i => (i.zero, i.size, i.bytes)) = some (some z, size, bytes)) (h3 : z.cells.size = size) (h4 : 0 < size) : SlTy t e size bytes := by
  obtain ⟨i, hi, hz, hs, hb⟩ := info_parts h2
  exact ⟨i, z, h1, hi, hz, hs, hb, h3, h4⟩
theorem own_drewH {W : World} {base e s n : Nat} {v : Value} {xs : List Value} (k : Nat) (h : Hid (W.ownsRow base e s v n xs)) : Hid ((W.drewN k).ownsRow base e s v n xs) := h
theorem below_drewH {W w : World} {base : Nat} (k : Nat) (h : Hid (Below base w W)) : Hid (Below base w (W.drewN k)) := ⟨h.out.os, h.out.tape, h.out.output, h.out.size, h.out.block⟩
theorem ho_keep {W w' : World} {v : Value} {o : Obj} (h : (W.alloc o).grownBy w' v.ownBlock) {k : Nat} (hk : k < W.heap.size) (hne : ∀ r, v.ownBlock = some r → r ≠ k) : w'.heap[k]? = W.heap[k]? := by
  rw [h.block k (by simp; omega) (fun e => hne k e.symm rfl)]
  exact haOld _ _ hk
theorem wpList_appNew {W w : World} {t e size bytes base n d : Nat} (st : SlTy t e size bytes) {q : Option Addr} {xs : List Value} (cs : List Value) {ops : Array Oper} {rest : List Oper} {o : Oper} {a : Act} {Q : Exit → Act → World → Prop} (hgd : o.guard = none) (s x : Operand)
    (ho : o.op = .call { callee := .builtin .append, args := #[s, x], argTypes := #[t, t] }) (hs : a.eval s = .slice q n d) (b0 : Nat) (hx : a.eval x = .slice (some ⟨b0, 0, none⟩) 1 1) (hb0 : W.heap.size = b0)
    (hown : Hid (W.ownsRow base e size (.slice q n d) n xs)) (hb : Hid (Below base w W)) (hbase : base ≤ w.heap.size) (hl : cs.length = size) (h1 : ∀ u ∈ cs, u.oneCell' = true) (hn : n ≤ 100000000) (hby : bytes ≤ 100000)
    (h : ∀ q' d' w', Hid (w'.ownsRow base e size (.slice q' (n + 1) d') (n + 1) (xs ++ cs)) → Hid (Below base w w') → Hid (∀ k, k < W.heap.size → (∀ r, (Value.slice q n d).ownBlock = some r → r ≠ k) → w'.heap[k]? = W.heap[k]?) → wpList Tryz.prog ops Q rest (a.put o.dst (.slice q' (n + 1) d')) w') : wpList Tryz.prog ops Q (o :: rest) a (W.alloc (.cells cs.toArray e)) := by
  subst hb0
  obtain ⟨i, z, t1, t2, t3, t4, t5, t6, t7⟩ := st
  have hz := hb.out.size
  refine wpList_append_own _ hgd s x t ho base e i z size bytes t1 t2 t3 t4 t5 t6 t7 _ n xs hs (hown.out.alloc _) ⟨W.heap.size, 0, none⟩ 1 1 cs hx (by omega) (World.news_of_block (cs := cs.toArray) (t := e) (fr := (0, 0)) (heap_alloc_new W _)) h1 (by unfold maxLen; omega) ?_ (by simp; omega) ?_
  · have : (n + 1) * bytes ≤ 100000001 * 100000 := Nat.mul_le_mul (by omega) hby
    omega
  · intro v' w' ho7 hg7 _
    have hB7 := (hb.out.alloc (by omega) (.cells cs.toArray e)).grown hg7 (by simp; omega) (fun r e => (hown.out.lt r e).1)
    obtain ⟨q9, c9, rfl⟩ : ∃ q d, v' = .slice q (n + 1) d := by
      rcases ho7.2 with ⟨hv, hn⟩ | ⟨g, cap, cur, hv, _⟩
      · omega
      · exact ⟨_, _, hv⟩
    refine h _ _ _ ho7 hB7 fun k hk hne => ?_
    rw [ho_keep hg7 hk hne]
theorem own_belowA {w w' : World} {b e s n : Nat} {v : Value} {xs : List Value} (h : w.ownsRow b e s v n xs) (hb : Below w.heap.size w w') : w'.ownsRow b e s v n xs := by
  refine h.kept (row := none) ⟨hb.os, hb.tape, hb.output, hb.size, fun k hk _ => hb.block k hk⟩ ?_
  cases hv : v.ownBlock with
  | none => exact .inl rfl
  | some r => exact .inr (by simp)
theorem below_drewA {n : Nat} {w W : World} (h : Below n w W) : Below n w W.drew := ⟨h.os, h.tape, h.output, h.size, h.block⟩
theorem below_drewNA {n : Nat} {w W : World} (h : Below n w W) (k : Nat) : Below n w (W.drewN k) := ⟨h.os, h.tape, h.output, h.size, h.block⟩
theorem below_allocA {n : Nat} {w W : World} (h : Below n w W) (hn : n ≤ w.heap.size) (o : Obj) : Below n w (W.alloc o) := h.alloc (Nat.le_trans hn h.size) o
theorem wp_appAt {W w w0 : World} {t e size bytes base n d : Nat} (st : SlTy t e size bytes) {q : Option Addr} {xs : List Value} (cs : List Value) {o : Oper} {a : Act} {K : Act → World → Prop} {Q : Exit → Act → World → Prop} (s x : Operand)
    (ho : o.op = .call { callee := .builtin .append, args := #[s, x], argTypes := #[t, t] }) (hs : a.eval s = .slice q n d) (b0 : Nat) (hx : a.eval x = .slice (some ⟨b0, 0, none⟩) 1 1) (hnew : W.heap[b0]? = some (.cells cs.toArray e))
    (hown : Hid (w0.ownsRow base e size (.slice q n d) n xs)) (hb : Hid (Below base w w0)) (hbw : Below w0.heap.size w0 W) (hbase : base ≤ w.heap.size) (hl : cs.length = size) (h1 : ∀ u ∈ cs, u.oneCell' = true) (hn : n ≤ 100000000) (hby : bytes ≤ 100000)
    (h : ∀ q' d' w', Hid (w'.ownsRow base e size (.slice q' (n + 1) d') (n + 1) (xs ++ cs)) → Hid (Below base w w') → Hid (∀ k, k < w0.heap.size → (∀ r, (Value.slice q n d).ownBlock = some r → r ≠ k) → w'.heap[k]? = w0.heap[k]?) → K (a.put o.dst (.slice q' (n + 1) d')) w') : o.wp Tryz.prog a W K Q := by
  obtain ⟨i, z, t1, t2, t3, t4, t5, t6, t7⟩ := st
  have hz0 := hb.out.size
  have hz := hbw.size
  have how := own_belowA hown.out hbw
  have hb' : Below base w W := hb.out.trans (hbw.mono (by omega))
  refine wp_append_own W s x t ho base e i z size bytes t1 t2 t3 t4 t5 t6 t7 _ n xs hs how ⟨b0, 0, none⟩ 1 1 cs hx (by omega) (World.news_of_block (cs := cs.toArray) (t := e) (fr := (0, 0)) hnew) h1 (by unfold maxLen; omega) ?_ (by omega) ?_
  · have : (n + 1) * bytes ≤ 100000001 * 100000 := Nat.mul_le_mul (by omega) hby
    omega
  · intro v' w' ho7 hg7 _
    have hB7 := hb'.grown hg7 (by omega) (fun r e => (how.lt r e).1)
    obtain ⟨q9, c9, rfl⟩ : ∃ q d, v' = .slice q (n + 1) d := by
      rcases ho7.2 with ⟨hv, hn⟩ | ⟨g, cap, cur, hv, _⟩
      · omega
      · exact ⟨_, _, hv⟩
    exact h _ _ _ ho7 hB7 fun k hk hne => (hg7.block k (by omega) (fun e => hne k e.symm rfl)).trans (hbw.block k hk)
theorem step_appAt {W w w0 : World} {t e size bytes base n d : Nat} (st : SlTy t e size bytes) {q : Option Addr} {xs : List Value} (cs : List Value) {o : Oper} {a : Act} {K : Act → World → Prop} {Q : Exit → Act → World → Prop} {ops : Array Oper} {E : Prop} (hgd : o.guard = none) (s x : Operand)
    (ho : o.op = .call { callee := .builtin .append, args := #[s, x], argTypes := #[t, t] }) (hs : a.eval s = .slice q n d) (b0 : Nat) (hx : a.eval x = .slice (some ⟨b0, 0, none⟩) 1 1) (hnew : W.heap[b0]? = some (.cells cs.toArray e))
    (hown : Hid (w0.ownsRow base e size (.slice q n d) n xs)) (hb : Hid (Below base w w0)) (hbw : Below w0.heap.size w0 W) (hbase : base ≤ w.heap.size) (hl : cs.length = size) (h1 : ∀ u ∈ cs, u.oneCell' = true) (hn : n ≤ 100000000) (hby : bytes ≤ 100000)
    (h : ∀ q' d' w', Hid (w'.ownsRow base e size (.slice q' (n + 1) d') (n + 1) (xs ++ cs)) → Hid (Below base w w') → Hid (∀ k, k < w0.heap.size → (∀ r, (Value.slice q n d).ownBlock = some r → r ≠ k) → w'.heap[k]? = w0.heap[k]?) → K (a.put o.dst (.slice q' (n + 1) d')) w') : if Region.wanted o (yielded ops a.tmps) = true then Oper.wp Tryz.prog o a W K Q else E := by
  have hw : Region.wanted o (yielded ops a.tmps) = true := by simp [Region.wanted, hgd]
  rw [if_pos hw]
  exact wp_appAt st cs s x ho hs b0 hx hnew hown hb hbw hbase hl h1 hn hby h
structure AppX (W w' : World) (base e size : Nat) (q : Option Addr) (n d : Nat) (q' : Option Addr) (d' : Nat) (xs : List Value) : Prop where
  own : w'.ownsRow base e size (.slice q' (n + 1) d') (n + 1) xs
  grow : W.grownBy w' (Value.slice q n d).ownBlock
  place : (Value.slice q' (n + 1) d').ownBlock = (Value.slice q n d).ownBlock ∨ (Value.slice q' (n + 1) d').ownBlock = some W.heap.size
theorem wpList_appX {W : World} {t e size bytes base n d : Nat} (st : SlTy t e size bytes) {q : Option Addr} {xs : List Value} (cs : List Value) {o : Oper} {a : Act} {Q : Exit → Act → World → Prop} {ops : Array Oper} {rest : List Oper} (hgd : o.guard = none) (s x : Operand)
    (ho : o.op = .call { callee := .builtin .append, args := #[s, x], argTypes := #[t, t] }) (hs : a.eval s = .slice q n d) (b0 : Nat) (hx : a.eval x = .slice (some ⟨b0, 0, none⟩) 1 1) (hnew : W.heap[b0]? = some (.cells cs.toArray e))
    (hown : Hid (W.ownsRow base e size (.slice q n d) n xs)) (hbase : base ≤ W.heap.size) (hl : cs.length = size) (h1 : ∀ u ∈ cs, u.oneCell' = true) (hn : n ≤ 100000000) (hby : bytes ≤ 100000)
    (h : ∀ q' d' w', Hid (AppX W w' base e size q n d q' d' (xs ++ cs)) → wpList Tryz.prog ops Q rest (a.put o.dst (.slice q' (n + 1) d')) w') : wpList Tryz.prog ops Q (o :: rest) a W := by
  obtain ⟨i, z, t1, t2, t3, t4, t5, t6, t7⟩ := st
  refine wpList_append_own_at W hgd s x t ho base e i z size bytes t1 t2 t3 t4 t5 t6 t7 _ n xs hs hown.out ⟨b0, 0, none⟩ 1 1 cs hx (by omega) (World.news_of_block (cs := cs.toArray) (t := e) (fr := (0, 0)) hnew) h1 (by unfold maxLen; omega) ?_ hbase ?_
  · have : (n + 1) * bytes ≤ 100000001 * 100000 := Nat.mul_le_mul (by omega) hby
    omega
  · intro v' w' ho7 hg7 _ hat
    obtain ⟨q9, c9, rfl⟩ : ∃ q d, v' = .slice q (n + 1) d := by
      rcases ho7.2 with ⟨hv, hn⟩ | ⟨g, cap, cur, hv, _⟩
      · omega
      · exact ⟨_, _, hv⟩
    exact h _ _ _ ⟨ho7, hg7, hat⟩
set_option maxHeartbeats 4000000 in
set_option maxRecDepth 100000 in
theorem treeEachL {g : Nat} {W1 : World} {D0 : Nat → Prop} {I : List PairT → World → Prop} (hkeep : ∀ pre w, I pre w → W1.heap.size ≤ w.heap.size ∧ ∀ j, j < W1.heap.size → D0 j → w.heap[j]? = W1.heap[j]?) (WL : List PairT)
    (hstep : ∀ (pre post : List PairT) (w : World) (q : Option Addr) (l : T) (k v : List UInt8) (r : T), I pre w → pre ++ (k, v) :: post = WL → TreeAt w D0 q (.node l k v r) → (T.node l k v r).Bal → Calls Tryz.prog 66 #[.pointer q, .pointer (some ⟨g, 0, none⟩)] w (fun e w' => e = .returned (.bool true) ∧ I (pre ++ [(k, v)]) w')) :
    ∀ (t : T) (p : Option Addr) (pre post : List PairT) (w : World), TreeAt W1 D0 p t → t.Bal → pre ++ t.list ++ post = WL → I pre w →
      Calls Tryz.prog 65 #[.pointer p, .func (.func 66) #[] #[.pointer (some ⟨g, 0, none⟩)]] w (fun e w' => e = .returned (.bool true) ∧ I (pre ++ t.list) w')
  | .nil, p, pre, post, w, ht, hb, hl, hI => by
    obtain rfl : p = none := ht
    have HI := Lib.hid hI
    have e0 : pre ++ T.nil.list = pre := by simp [T.list]
    rw [e0]
    clear hI hl e0 hstep hkeep hb
    go_enter Tryz.func65, Tryz.ntmps65
    go_wp2
    go_ret
    exact ⟨rfl, HI.out⟩
  | .node l k v r, p, pre, post, w, ht, hb, hl, hI => by
    have IHl := treeEachL hkeep WL hstep l
    have IHr := treeEachL hkeep WL hstep r
    have ht0 := ht
    obtain ⟨tb, kp, kc, vp, vc, lp, rp, rfl, hdt, trow, hk2, hv2, hlt, hrt⟩ := ht
    have htl := row_ltT trow
    have HC := Lib.hid (show ∀ pre w', I pre w' → (w'.cell? ⟨tb, 2, none⟩ = some (.pointer lp) ∧ w'.cell? ⟨tb, 3, none⟩ = some (.pointer rp)) from fun pre w' h => by
      have := ((hkeep pre w' h).2 tb htl hdt).trans trow
      exact ⟨cell_of_row w' _ 2 _ _ (0, 0) this, cell_of_row w' _ 3 _ _ (0, 0) this⟩)
    have c2 := (HC.out pre w hI).1
    have e1 : pre ++ l.list ++ (k, v) :: (r.list ++ post) = WL := by rw [← hl]; simp [T.list]
    have e2 : (pre ++ l.list ++ [(k, v)]) ++ r.list ++ post = WL := by rw [← hl]; simp [T.list]
    have e3 : pre ++ l.list ++ (r.list.cons (k, v) ++ post) = WL := by rw [← hl]; simp [T.list]
    have e4 : (pre ++ l.list ++ [(k, v)]) ++ r.list = pre ++ (T.node l k v r).list := by simp [T.list]
    have CL := Lib.hid (IHl lp pre _ w hlt hb.2.1 e3 hI)
    have CF := Lib.hid (show ∀ w', I (pre ++ l.list) w' → Calls Tryz.prog 66 #[.pointer (some ⟨tb, 0, none⟩), .pointer (some ⟨g, 0, none⟩)] w' _ from fun w' h => hstep (pre ++ l.list) _ w' _ l k v r h e1 (ht0.keep (hkeep _ w' h).1 (hkeep _ w' h).2) hb)
    have CR := Lib.hid (show ∀ w', I (pre ++ l.list ++ [(k, v)]) w' → Calls Tryz.prog 65 #[.pointer rp, .func (.func 66) #[] #[.pointer (some ⟨g, 0, none⟩)]] w' _ from fun w' h => IHr rp _ post w' hrt hb.2.2 e2 h)
    rw [← e4]
    generalize pre ++ l.list = P1 at *
    generalize P1 ++ [(k, v)] = P2 at *
    generalize P2 ++ r.list = P3 at *
    have HC2 := Lib.hid (fun w' h => (HC.out P2 w' h).2)
    clear IHl IHr hkeep hstep ht0 hlt hrt hk2 hv2 trow hI hb e1 e2 e3 e4 hl HC
    go_enter Tryz.func65, Tryz.ntmps65
    go_wp2_with first
      | (go_at_call 65; ((with_reducible refine (CL.out).mono ?_)); rintro e w1 ⟨rfl, h1⟩; have H1 := Lib.hid h1; clear h1)
      | (go_at_call 65; ((with_reducible refine (CR.out _ H2.out).mono ?_)); rintro e w3 ⟨rfl, h3⟩; have H3 := Lib.hid h3; clear h3)
      | (go_at_call 66; ((with_reducible refine (CF.out _ H1.out).mono ?_)); rintro e w2 ⟨rfl, h2⟩; have H2 := Lib.hid h2; have c3 := HC2.out _ h2; clear h2)
      | fail
    go_ret
    exact ⟨rfl, H3.out⟩
set_option maxHeartbeats 4000000 in
set_option maxRecDepth 100000 in
theorem treeEachS {g : Nat} {W1 : World} {D0 : Nat → Prop} {I : List PairT → World → Prop} (hkeep : ∀ pre w, I pre w → W1.heap.size ≤ w.heap.size ∧ ∀ j, j < W1.heap.size → D0 j → w.heap[j]? = W1.heap[j]?) (WL : List PairT)
    (hstep : ∀ (pre post : List PairT) (w : World) (q : Option Addr) (l : T) (k v : List UInt8) (r : T), I pre w → pre ++ (k, v) :: post = WL → TreeAt w D0 q (.node l k v r) → (T.node l k v r).Bal → l.size + 1 + r.size ≤ WL.length → Calls Tryz.prog 186 #[.pointer q, .pointer (some ⟨g, 0, none⟩)] w (fun e w' => e = .returned (.bool true) ∧ I (pre ++ [(k, v)]) w')) :
    ∀ (t : T) (p : Option Addr) (pre post : List PairT) (w : World), TreeAt W1 D0 p t → t.Bal → pre ++ t.list ++ post = WL → I pre w →
      Calls Tryz.prog 65 #[.pointer p, .func (.func 186) #[] #[.pointer (some ⟨g, 0, none⟩)]] w (fun e w' => e = .returned (.bool true) ∧ I (pre ++ t.list) w')
  | .nil, p, pre, post, w, ht, hb, hl, hI => by
    obtain rfl : p = none := ht
    have HI := Lib.hid hI
    have e0 : pre ++ T.nil.list = pre := by simp [T.list]
    rw [e0]
    clear hI hl e0 hstep hkeep hb
    go_enter Tryz.func65, Tryz.ntmps65
    go_wp2
    go_ret
    exact ⟨rfl, HI.out⟩
  | .node l k v r, p, pre, post, w, ht, hb, hl, hI => by
    have IHl := treeEachS hkeep WL hstep l
    have IHr := treeEachS hkeep WL hstep r
    have ht0 := ht
    obtain ⟨tb, kp, kc, vp, vc, lp, rp, rfl, hdt, trow, hk2, hv2, hlt, hrt⟩ := ht
    have htl := row_ltT trow
    have HC := Lib.hid (show ∀ pre w', I pre w' → (w'.cell? ⟨tb, 2, none⟩ = some (.pointer lp) ∧ w'.cell? ⟨tb, 3, none⟩ = some (.pointer rp)) from fun pre w' h => by
      have := ((hkeep pre w' h).2 tb htl hdt).trans trow
      exact ⟨cell_of_row w' _ 2 _ _ (0, 0) this, cell_of_row w' _ 3 _ _ (0, 0) this⟩)
    have c2 := (HC.out pre w hI).1
    have e1 : pre ++ l.list ++ (k, v) :: (r.list ++ post) = WL := by rw [← hl]; simp [T.list]
    have e2 : (pre ++ l.list ++ [(k, v)]) ++ r.list ++ post = WL := by rw [← hl]; simp [T.list]
    have e3 : pre ++ l.list ++ (r.list.cons (k, v) ++ post) = WL := by rw [← hl]; simp [T.list]
    have esz : l.size + 1 + r.size ≤ WL.length := by rw [← hl]; simp only [List.length_append, T.list_length, T.size]; omega
    have e4 : (pre ++ l.list ++ [(k, v)]) ++ r.list = pre ++ (T.node l k v r).list := by simp [T.list]
    have CL := Lib.hid (IHl lp pre _ w hlt hb.2.1 e3 hI)
    have CF := Lib.hid (show ∀ w', I (pre ++ l.list) w' → Calls Tryz.prog 186 #[.pointer (some ⟨tb, 0, none⟩), .pointer (some ⟨g, 0, none⟩)] w' _ from fun w' h => hstep (pre ++ l.list) _ w' _ l k v r h e1 (ht0.keep (hkeep _ w' h).1 (hkeep _ w' h).2) hb esz)
    have CR := Lib.hid (show ∀ w', I (pre ++ l.list ++ [(k, v)]) w' → Calls Tryz.prog 65 #[.pointer rp, .func (.func 186) #[] #[.pointer (some ⟨g, 0, none⟩)]] w' _ from fun w' h => IHr rp _ post w' hrt hb.2.2 e2 h)
    rw [← e4]
    generalize pre ++ l.list = P1 at *
    generalize P1 ++ [(k, v)] = P2 at *
    generalize P2 ++ r.list = P3 at *
    have HC2 := Lib.hid (fun w' h => (HC.out P2 w' h).2)
    clear IHl IHr hkeep hstep ht0 hlt hrt hk2 hv2 trow hI hb e1 e2 e3 e4 esz hl HC
    go_enter Tryz.func65, Tryz.ntmps65
    go_wp2_with first
      | (go_at_call 65; ((with_reducible refine (CL.out).mono ?_)); rintro e w1 ⟨rfl, h1⟩; have H1 := Lib.hid h1; clear h1)
      | (go_at_call 65; ((with_reducible refine (CR.out _ H2.out).mono ?_)); rintro e w3 ⟨rfl, h3⟩; have H3 := Lib.hid h3; clear h3)
      | (go_at_call 186; ((with_reducible refine (CF.out _ H1.out).mono ?_)); rintro e w2 ⟨rfl, h2⟩; have H2 := Lib.hid h2; have c3 := HC2.out _ h2; clear h2)
      | fail
    go_ret
    exact ⟨rfl, H3.out⟩
end Go.Proofs.YtmbiiemlepfoaaaGreatDoor
