/- The walks of Kind, (*Tree).Put, graft.put into: of a leaf, of a bucket. The walk of graft.put into: of a leaf. The walk of graft.put into: of a leaf of the same hash. The walk of graft.put into: of a bucket. How many pairs a trie's put leaves. The walk of graft.put into: of a branch; graft.Put. -/
import Derived.Test.YtmbiiemlepfoaaaGreatDoorFl10

namespace Go.Proofs.YtmbiiemlepfoaaaGreatDoor
open Go.RowKit
set_option linter.unusedVariables false
theorem kindLeaf (w : World) (a : Option Addr) : Calls Tryz.prog 366 #[.pointer a] w fun e w' => e = .returned (.int .i64 1) ∧ w = w' := by
  go_enter Tryz.func366, Tryz.ntmps366
  go_wp2
  go_ret
  exact ⟨rfl, rfl⟩
theorem kindBucket (w : World) (a : Option Addr) : Calls Tryz.prog 368 #[.pointer a] w fun e w' => e = .returned (.int .i64 2) ∧ w = w' := by
  go_enter Tryz.func368, Tryz.ntmps368
  go_wp2
  go_ret
  exact ⟨rfl, rfl⟩
theorem kindBranch (w : World) (a : Option Addr) : Calls Tryz.prog 370 #[.pointer a] w fun e w' => e = .returned (.int .i64 3) ∧ w = w' := by
  go_enter Tryz.func370, Tryz.ntmps370
  go_wp2
  go_ret
  exact ⟨rfl, rfl⟩
structure InP (w : World) (mb : Option Nat) (kp vp : Option Addr) (kc vc : Nat) (k v : List UInt8) : Prop where
  ik : IsD w (fun j => mb ≠ some j) kp kc k
  iv : IsD w (fun j => mb ≠ some j) vp vc v
  kl : k.length ≤ 1000000
  vl : v.length ≤ 1000000
theorem Off.ne (mb : Option Nat) : Off (fun j => mb ≠ some j) mb := fun b e h => h e
theorem InP.grown {w w' : World} {mb : Option Nat} {kp vp : Option Addr} {kc vc : Nat} {k v : List UInt8} (h : InP w mb kp vp kc vc k v) (hg : w.grownBy w' mb) : InP w' mb kp vp kc vc k v := ⟨h.ik.grown (Off.ne mb) hg, h.iv.grown (Off.ne mb) hg, h.kl, h.vl⟩
set_option maxHeartbeats 1000000 in
set_option maxRecDepth 100000 in
theorem treePut (w : World) (D : Nat → Prop) (hD : ∀ j, w.heap.size ≤ j → D j) {mb : Option Nat} (ho : Off D mb) {vi c : Nat} (hm : Met w mb vi c) {t : T} (hb : t.Bal) (hsz : t.size < 1048576) (hvi : vi + t.size < 1000000000000) (hc : c + t.size < 1000000000000) {p kp vp : Option Addr} {kc vc : Nat} {k v : List UInt8} (ht : TreeAt w D p t) (hi : InP w mb kp vp kc vc k v) :
    Calls Tryz.prog 20 #[.pointer p, pairV kp kc k vp vc v, .pointer (mptr mb)] w (PutR D k v t mb vi c w) := by
  obtain ⟨W2, hW2⟩ : ∃ x, x = w.alloc (.cells #[.slice kp k.length kc, .slice vp v.length vc] 61) := ⟨_, rfl⟩
  have hB : Below w.heap.size w W2 := by rw [hW2]; exact (Below.refl _ w).alloc (Nat.le_refl _) _
  have hD2 : ∀ w', Below w.heap.size w w' → ∀ j, w'.heap.size ≤ j → D j := fun w' hw j hj => hD j (Nat.le_trans hw.size hj)
  have hkl := hi.kl
  have hvl := hi.vl
  have CO := Lib.hid (treeOwn W2 D (hD2 W2 hB) (hi.ik.b.below hB) (hi.iv.b.below hB) (by omega) (by omega))
  have CP := Lib.hid (show ∀ w' kp kc vp vc, Below w.heap.size w w' → IsD w' D kp kc k → IsD w' D vp vc v → Calls Tryz.prog 62 #[.pointer p, pairV kp kc k vp vc v, .pointer (mptr mb)] w' _ from fun w' kp kc vp vc hw h1 h2 => treePutP D ho t hb hsz w' (hD2 w' hw) vi c (hm.below hw) hvi hc p kp vp kc vc (ht.below hw) h1 h2)
  have HB := Lib.hid hB
  clear hB hi ht hm hD hD2 hb
  go_enter Tryz.func20, Tryz.ntmps20
  go_wp2_with fail
  rw [← hW2]
  clear hW2
  go_wp2_with first
    | (go_at_call 63; ((with_reducible refine (CO.out).mono ?_)); rintro e w3 ⟨kp3, kc3, vp3, vc3, rfl, hk3, hv3, hb3⟩; have HK3 := Lib.hid hk3; have HV3 := Lib.hid hv3; have HB3 := Lib.hid (HB.out.trans (hb3.mono HB.out.size)); clear hk3 hv3 hb3)
    | (go_at_call 62; ((with_reducible refine (CP.out _ _ _ _ _ HB3.out HK3.out HV3.out).mono ?_)); rintro e w4 ⟨b4, rfl, ht4, hm4, hg4⟩; have HT4 := Lib.hid ht4; have HM4 := Lib.hid hm4; have HG4 := Lib.hid hg4; clear ht4 hm4 hg4)
  go_ret
  exact ⟨_, rfl, HT4.out, HM4.out, grown_trans (grown_of_below HB3.out mb) HG4.out⟩
abbrev putV (h : Nat) (kp : Option Addr) (kc : Nat) (k : List UInt8) (vp : Option Addr) (vc : Nat) (v : List UInt8) (mb : Option Nat) : Value := .agg #[.int .u64 (h : Int), .slice kp k.length kc, .slice vp v.length vc, .pointer (mptr mb)]
abbrev putRow (h : Nat) (kp : Option Addr) (kc : Nat) (k : List UInt8) (vp : Option Addr) (vc : Nat) (v : List UInt8) (mb : Option Nat) : Obj := .cells #[.int .u64 (h : Int), .slice kp k.length kc, .slice vp v.length vc, .pointer (mptr mb)] 235
def IntoR (D : Nat → Prop) (r : N × Bool) (mb : Option Nat) (vi c : Nat) (w : World) (e : Ending) (w' : World) : Prop := ∃ t a, e = .returned (.tuple #[ifp t a, .bool r.2]) ∧ N.At w' D r.1 (ifp t a) ∧ Met w' mb vi c ∧ w.grownBy w' mb
set_option maxHeartbeats 1000000 in
set_option maxRecDepth 100000 in
theorem intoNil (w : World) (D : Nat → Prop) (hD : ∀ j, w.heap.size ≤ j → D j) {mb : Option Nat} {vi c h L : Nat} (hm : Met w mb vi c) {kp vp : Option Addr} {kc vc : Nat} {k v : List UInt8} (hi : InP w mb kp vp kc vc k v) :
    Calls Tryz.prog 108 #[putV h kp kc k vp vc v mb, .nilIface, .int .i64 (L : Int)] w (IntoR D (.leaf h k v, true) mb vi c w) := by
  obtain ⟨W2, hW2⟩ : ∃ x, x = w.alloc (putRow h kp kc k vp vc v mb) := ⟨_, rfl⟩
  have hB : Below w.heap.size w W2 := by rw [hW2]; exact (Below.refl _ w).alloc (Nat.le_refl _) _
  have hkl := hi.kl
  have hvl := hi.vl
  have CL := Lib.hid (nodeLeaf W2 D (fun j hj => hD j (Nat.le_trans hB.size hj)) h (hi.ik.b.below hB) (hi.iv.b.below hB) (by omega) (by omega))
  have HB := Lib.hid hB
  have HM := Lib.hid hm
  clear hB hi hD hm
  go_enter Tryz.func108, Tryz.ntmps108
  go_wp2_with fail
  rw [← hW2]
  clear hW2
  go_wp2_with (go_at_call 183; ((with_reducible refine (CL.out).mono ?_)); rintro e w3 ⟨t3, b3, rfl, hn3, hb3⟩; have HN3 := Lib.hid hn3; have HB3 := Lib.hid (HB.out.trans (hb3.mono HB.out.size)); clear hn3 hb3)
  go_ret2
  exact ⟨_, _, rfl, HN3.out, HM.out.below HB3.out, grown_of_below HB3.out mb⟩
theorem putAt_of {W : World} {w0 : Nat} {mb : Option Nat} {h : Nat} {kp : Option Addr} {kc : Nat} {k : List UInt8} {vp : Option Addr} {vc : Nat} {v : List UInt8} (hr : W.heap[w0]? = some (putRow h kp kc k vp vc v mb)) :
    W.cell? ⟨w0, 0, none⟩ = some (.int .u64 (h : Int)) ∧ W.cell? ⟨w0, 1, none⟩ = some (.slice kp k.length kc) ∧ W.cell? ⟨w0, 2, none⟩ = some (.slice vp v.length vc) ∧ W.cell? ⟨w0, 3, none⟩ = some (.pointer (mptr mb)) :=
  ⟨cell_of_row W w0 0 _ _ (0, 0) hr, cell_of_row W w0 1 _ _ (0, 0) hr, cell_of_row W w0 2 _ _ (0, 0) hr, cell_of_row W w0 3 _ _ (0, 0) hr⟩
theorem nil42 (t : Nat) (v : Value) (w : World) : (binOp .eql 42 (.iface t v) .nilIface).run Tryz.prog w = .ok (.bool false) w := by kernel_rfl
set_option maxHeartbeats 2000000 in
set_option maxRecDepth 100000 in
theorem intoLeafFork (w : World) (D : Nat → Prop) (hD : ∀ j, w.heap.size ≤ j → D j) {mb : Option Nat} (ho : Off D mb) {vi c g h L b : Nat} (hm : Met w mb vi c) (hvi : vi < 999999999999) {kp vp : Option Addr} {kc vc : Nat} {k v k' v' : List UInt8} (hi : InP w mb kp vp kc vc k v)
    (hx : N.At w D (.leaf g k' v') (ifp 223 b)) (hg : g < 18446744073709551616) (hh : h < 18446744073709551616) (hne : g ≠ h) (hL : L ≤ 13) (hp : ∃ j, L ≤ j ∧ j < 13 ∧ chunkM g j ≠ chunkM h j) :
    Calls Tryz.prog 108 #[putV h kp kc k vp vc v mb, ifp 223 b, .int .i64 (L : Int)] w (IntoR D (forkN (13 - L) (.leaf g k' v') g (.leaf h k v) h L, true) mb (vi + 1) c w) := by
  obtain ⟨W2, hW2⟩ : ∃ x, x = w.alloc (putRow h kp kc k vp vc v mb) := ⟨_, rfl⟩
  have hB : Below w.heap.size w W2 := by rw [hW2]; exact (Below.refl _ w).alloc (Nat.le_refl _) _
  have r0 : W2.heap[w.heap.size]? = some (putRow h kp kc k vp vc v mb) := by rw [hW2]; exact heap_alloc_new _ _
  have hml := hm.lt
  have n0 : mb ≠ some w.heap.size := fun e => by have := hml _ e; omega
  have hgB := grown_of_below hB mb
  have HC := Lib.hid (show ∀ w', W2.grownBy w' mb → (w'.cell? ⟨w.heap.size, 0, none⟩ = some (.int .u64 (h : Int)) ∧ w'.cell? ⟨w.heap.size, 1, none⟩ = some (.slice kp k.length kc) ∧ w'.cell? ⟨w.heap.size, 2, none⟩ = some (.slice vp v.length vc) ∧ w'.cell? ⟨w.heap.size, 3, none⟩ = some (.pointer (mptr mb))) from fun w' hg => putAt_of (grown_row hg r0 n0))
  have up : ∀ w', W2.grownBy w' mb → w.grownBy w' mb := fun w' hg => grown_trans hgB hg
  have hD' : ∀ w', W2.grownBy w' mb → ∀ j, w'.heap.size ≤ j → D j := fun w' hg j hj => hD j (Nat.le_trans (up w' hg).size hj)
  have hkl := hi.kl
  have hvl := hi.vl
  have CV := Lib.hid (metVisit W2 (hm.below hB) (by omega))
  have CH := Lib.hid (show ∀ w', W2.grownBy w' mb → Calls Tryz.prog 44 #[ifp 223 b] w' (fun e w'' => e = .returned (.tuple #[.int .u64 (g : Int), .bool true]) ∧ w' = w'') from fun w' hg => nodeHash w' (hx.grown ho (up w' hg)))
  have CL := Lib.hid (show ∀ w', W2.grownBy w' mb → Calls Tryz.prog 183 #[.int .u64 (h : Int), pairV kp kc k vp vc v] w' _ from fun w' hg => nodeLeaf w' D (hD' w' hg) h (hi.grown (up w' hg)).ik.b (hi.grown (up w' hg)).iv.b (by omega) (by omega))
  have CF := Lib.hid (show ∀ w' tb bb, W2.grownBy w' mb → N.At w' D (.leaf h k v) (ifp tb bb) → Calls Tryz.prog 185 #[ifp 223 b, .int .u64 (g : Int), ifp tb bb, .int .u64 (h : Int), .int .i64 (L : Int)] w' _ from fun w' tb bb hg' hb => graftFork D hg hh (by simp [N.count]) (13 - L) L w' (hD' w' hg') (hx.grown ho (up w' hg')) hb (by omega) hp)
  have UP := Lib.hid up
  have q0 := mKind223
  have q1 := kindLeaf
  have q2 := nil42
  have hg0 := grown_rfl W2 mb
  have g0 : ((g : Int) != (h : Int)) = true := by simp; omega
  clear hi hx hm hD hD' up hp hB hgB r0
  go_enter Tryz.func108, Tryz.ntmps108
  go_wp2_with fail
  rw [← hW2]
  clear hW2
  obtain ⟨s0, s1, s2, s3⟩ := HC.out _ hg0
  go_wp2_with first
    | (go_at_call 366; ((with_reducible refine (q1 _ _).mono ?_)); rintro e w1 ⟨rfl, rfl⟩)
    | (go_at_call 46; ((with_reducible refine (CV.out).mono ?_)); rintro e w1 ⟨rfl, hm1, hg1⟩; have HM1 := Lib.hid hm1; clear hm1; obtain ⟨t0, t1, t2, t3⟩ := HC.out _ hg1)
    | (go_at_call 44; ((with_reducible refine (CH.out _ hg1).mono ?_)); rintro e w2 ⟨rfl, rfl⟩)
  have hg3 := grown_step hg1 (grown_dr _ _)
  go_region_held3 (fun w' => w'.cell? ⟨w.heap.size, 0, none⟩ = some (.int .u64 (h : Int)) ∧ w'.cell? ⟨w.heap.size, 1, none⟩ = some (.slice kp k.length kc) ∧ w'.cell? ⟨w.heap.size, 2, none⟩ = some (.slice vp v.length vc))
    (first | exact ⟨(HC.out _ (by assumption)).1, (HC.out _ (by assumption)).2.1, (HC.out _ (by assumption)).2.2.1⟩ | fail)
    (first | (go_at_call 183; ((with_reducible refine (CL.out _ hg3).mono ?_)); rintro e w4 ⟨t4, b4, rfl, hn4, hb4⟩; have HN4 := Lib.hid hn4; have HB4 := Lib.hid hb4; have hg4 := grown_step hg3 (grown_of_below hb4 mb); clear hn4 hb4) | (go_at_call 185; ((with_reducible refine (CF.out _ _ _ hg4 HN4.out).mono ?_)); rintro e w5 ⟨b5, rfl, hn5, hb5⟩; have HN5 := Lib.hid hn5; have HB5 := Lib.hid hb5; have hg5 := grown_step hg4 (grown_of_below hb5 mb); clear hn5 hb5) | fail)
  go_wp2
  go_ret2
  exact ⟨308, _, rfl, HN5.out, (HM1.out.dr.below HB4.out).below HB5.out, UP.out _ hg5⟩
theorem grown_new {W w1 w3 : World} {mb : Option Nat} (hg : W.grownBy w1 mb) (hb : Below w1.heap.size w1 w3) (o : Obj) : W.grownBy (w3.alloc o) mb := grown_trans (grown_trans hg (grown_of_below hb mb)) (grown_of_below ((Below.refl _ _).alloc (Nat.le_refl _) o) mb)
theorem bucket_some {h : Nat} {t : T} (h2 : 2 ≤ t.size) : bucketN h t = some (.bucket h t) := by
  cases t with
  | nil => simp [T.size] at h2
  | node l k v r =>
    rw [T.size_node] at h2
    unfold bucketN
    dsimp only
    rw [if_neg (by omega)]
theorem putT_small {k v : List UInt8} {t : T} (hb : t.Bal) (hk : k.length ≤ 1000000) (hv : v.length ≤ 1000000) (ht : ∀ x ∈ t.list, x.1.length ≤ 1000000 ∧ x.2.length ≤ 1000000) : (putT k v t).Small := fun x hx => by
  rcases putT_list_mem hb x hx with h1 | h1
  · subst h1; dsimp only; omega
  · have := ht x h1; omega
theorem nodeBucket2 (w : World) (D : Nat → Prop) (hD : ∀ j, w.heap.size ≤ j → D j) (h : Nat) {p : Option Addr} {t : T} (ht : TreeAt w D p t) (hsm : t.Small) (hsz : t.size < 1152921504606846976) (h2 : 2 ≤ t.size) :
    Calls Tryz.prog 182 #[.int .u64 (h : Int), .pointer p] w (fun e w' => ∃ a, e = .returned (ifp 226 a) ∧ N.At w' D (.bucket h t) (ifp 226 a) ∧ Below w.heap.size w w') := by
  refine (nodeBucket w D hD h ht hsm hsz).mono ?_
  rintro e w' ⟨v, rfl, hn, hb⟩
  rw [bucket_some h2] at hn
  obtain ⟨a, rfl, _⟩ := N.At.form hn
  exact ⟨a, rfl, hn, hb⟩
set_option maxHeartbeats 2000000 in
set_option maxRecDepth 100000 in
theorem intoLeafSame (w : World) (D : Nat → Prop) (hD : ∀ j, w.heap.size ≤ j → D j) {mb : Option Nat} (ho : Off D mb) {vi c h L b : Nat} (hm : Met w mb vi c) (hvi : vi < 999999999999) (hci : c < 999999999999) {kp vp : Option Addr} {kc vc : Nat} {k v k' v' : List UInt8} (hi : InP w mb kp vp kc vc k v)
    (hx : N.At w D (.leaf h k' v') (ifp 223 b)) (hkl' : k'.length ≤ 1000000) (hvl' : v'.length ≤ 1000000) (hh : h < 18446744073709551616) {r : N × Bool} (hr0 : Lib.compareBytes k k' = 0 → r = (.leaf h k v, false)) (hr1 : Lib.compareBytes k k' ≠ 0 → r = (.bucket h (putT k v (fromT [(k', v')])), true)) :
    Calls Tryz.prog 108 #[putV h kp kc k vp vc v mb, ifp 223 b, .int .i64 (L : Int)] w (IntoR D r mb (vi + 1) (c + 1) w) := by
  obtain ⟨W2, hW2⟩ : ∃ x, x = w.alloc (putRow h kp kc k vp vc v mb) := ⟨_, rfl⟩
  have hB : Below w.heap.size w W2 := by rw [hW2]; exact (Below.refl _ w).alloc (Nat.le_refl _) _
  have r0 : W2.heap[w.heap.size]? = some (putRow h kp kc k vp vc v mb) := by rw [hW2]; exact heap_alloc_new _ _
  have hml := hm.lt
  have n0 : mb ≠ some w.heap.size := fun e => by have := hml _ e; omega
  have hgB := grown_of_below hB mb
  have HC := Lib.hid (show ∀ w', W2.grownBy w' mb → (w'.cell? ⟨w.heap.size, 0, none⟩ = some (.int .u64 (h : Int)) ∧ w'.cell? ⟨w.heap.size, 1, none⟩ = some (.slice kp k.length kc) ∧ w'.cell? ⟨w.heap.size, 2, none⟩ = some (.slice vp v.length vc) ∧ w'.cell? ⟨w.heap.size, 3, none⟩ = some (.pointer (mptr mb))) from fun w' hg => putAt_of (grown_row hg r0 n0))
  have up : ∀ w', W2.grownBy w' mb → w.grownBy w' mb := fun w' hg => grown_trans hgB hg
  have hD' : ∀ w', W2.grownBy w' mb → ∀ j, w'.heap.size ≤ j → D j := fun w' hg j hj => hD j (Nat.le_trans (up w' hg).size hj)
  have hkl := hi.kl
  have hvl := hi.vl
  have CV := Lib.hid (metVisit W2 (hm.below hB) (by omega))
  have CH := Lib.hid (show ∀ w', W2.grownBy w' mb → Calls Tryz.prog 44 #[ifp 223 b] w' (fun e w'' => e = .returned (.tuple #[.int .u64 (h : Int), .bool true]) ∧ w' = w'') from fun w' hg => nodeHash w' (hx.grown ho (up w' hg)))
  have CL := Lib.hid (show ∀ w', W2.grownBy w' mb → Calls Tryz.prog 183 #[.int .u64 (h : Int), pairV kp kc k vp vc v] w' _ from fun w' hg => nodeLeaf w' D (hD' w' hg) h (hi.grown (up w' hg)).ik.b (hi.grown (up w' hg)).iv.b (by omega) (by omega))
  have CP := Lib.hid (show ∀ w', W2.grownBy w' mb → Calls Tryz.prog 45 #[ifp 223 b] w' (fun e w'' => ∃ kp kc vp vc, e = .returned (.tuple #[pairV kp kc k' vp vc v', .bool true]) ∧ IsD w'' D kp kc k' ∧ IsD w'' D vp vc v' ∧ Below w'.heap.size w' w'') from fun w' hg => nodePairLeaf w' D (hD' w' hg) (hx.grown ho (up w' hg)) (by omega) (by omega))
  have CC := Lib.hid (show ∀ w' p q, W2.grownBy w' mb → Met w' mb (vi + 1) c → IsD w' D p q k' → Calls Tryz.prog 47 #[.pointer (mptr mb), .slice kp k.length kc, .slice p k'.length q] w' _ from fun w' p q hg hmm hk' => metCompare w' hmm (by omega) (Off.ne mb) ho (hi.grown (up w' hg)).ik hk')
  have CFr := Lib.hid (show ∀ w' p, W2.grownBy w' mb → IsPs w' (fun _ => True) p 1 [(k', v')] → Calls Tryz.prog 93 #[.slice p 1 1] w' _ from fun w' p hg hps => treeFrom D (fun _ => True) 1 [(k', v')] (Nat.le_refl _) (fun x hx => by simp at hx; subst hx; dsimp only; omega) (by simp) w' (hD' w' hg) p 1 hps)
  have CPu := Lib.hid (show ∀ w' p, W2.grownBy w' mb → TreeAt w' D p (fromT [(k', v')]) → Calls Tryz.prog 20 #[.pointer p, pairV kp kc k vp vc v, .pointer none] w' (PutR D k v (fromT [(k', v')]) none 0 0 w') from fun w' p hg ht => treePut w' D (hD' w' hg) (mb := none) (Off.none_ D) (Met.none_ w' 0 0) (from_bal _) (by rw [from_size]; simp) (by rw [from_size]; simp) (by rw [from_size]; simp) ht (have h1 := hi.grown (up w' hg); ⟨h1.ik.mono fun j _ _ e => by simp at e, h1.iv.mono fun j _ _ e => by simp at e, hkl, hvl⟩))
  have CB := Lib.hid (show ∀ w' p, Lib.compareBytes k k' ≠ 0 → W2.grownBy w' mb → TreeAt w' D p (putT k v (fromT [(k', v')])) → Calls Tryz.prog 182 #[.int .u64 (h : Int), .pointer p] w' _ from fun w' p hne hg ht => nodeBucket2 w' D (hD' w' hg) h ht (putT_small (from_bal _) hkl hvl (fun x hx => by rw [from_list] at hx; simp at hx; subst hx; exact ⟨hkl', hvl'⟩)) (by rw [put_one hne]; decide) (by rw [put_one hne]; exact Nat.le_refl _))
  have UP := Lib.hid up
  have HR0 := Lib.hid hr0
  have HR1 := Lib.hid hr1
  have q0 := mKind223
  have q1 := kindLeaf
  have q2 := nil42
  have hg0 := grown_rfl W2 mb
  clear hi hx hm hD hD' up hB hgB r0 hr0 hr1
  generalize hx : Lib.compareBytes k k' = x at *
  go_enter Tryz.func108, Tryz.ntmps108
  go_wp2_with fail
  rw [← hW2]
  clear hW2
  obtain ⟨s0, s1, s2, s3⟩ := HC.out _ hg0
  by_cases hx0 : x = 0
  · subst hx0
    have hr := HR0.out rfl
    go_wp2_with first
      | (go_at_call 366; ((with_reducible refine (q1 _ _).mono ?_)); rintro e w1 ⟨rfl, rfl⟩)
      | (go_at_call 46; ((with_reducible refine (CV.out).mono ?_)); rintro e w1 ⟨rfl, hm1, hg1⟩; have HM1 := Lib.hid hm1; clear hm1; obtain ⟨t0, t1, t2, t3⟩ := HC.out _ hg1)
      | (go_at_call 44; ((with_reducible refine (CH.out _ hg1).mono ?_)); rintro e w2 ⟨rfl, rfl⟩)
      | (go_at_call 45; ((with_reducible refine (CP.out _ hg1).mono ?_)); rintro e w3 ⟨kp3, kc3, vp3, vc3, rfl, hk3, hv3, hb3⟩; have HK3 := Lib.hid hk3; have HV3 := Lib.hid hv3; have hg5 := grown_new hg1 hb3 (.cells #[.slice kp3 k'.length kc3, .slice vp3 v'.length vc3] 61); obtain ⟨u0, u1, u2, u3⟩ := HC.out _ hg5; have HM5 := Lib.hid ((HM1.out.below hb3).below ((Below.refl _ _).alloc (Nat.le_refl _) (.cells #[.slice kp3 k'.length kc3, .slice vp3 v'.length vc3] 61))); have HK5 := Lib.hid (HK3.out.below ((Below.refl _ _).alloc (Nat.le_refl _) (.cells #[.slice kp3 k'.length kc3, .slice vp3 v'.length vc3] 61))); have HV5 := Lib.hid (HV3.out.below ((Below.refl _ _).alloc (Nat.le_refl _) (.cells #[.slice kp3 k'.length kc3, .slice vp3 v'.length vc3] 61))); have n3 := Lib.hid (show mb ≠ some w3.heap.size from fun e => by have := (HM1.out.below hb3).lt _ e; omega); clear hk3 hv3 hb3)
      | (go_at_call 47; ((with_reducible refine (CC.out _ _ _ hg5 HM5.out HK5.out).mono ?_)); rintro e w6 ⟨rfl, hm6, hg6⟩; have HM6 := Lib.hid hm6; have hg6' := grown_step hg5 hg6; clear hm6; obtain ⟨x0, x1, x2, x3⟩ := HC.out _ hg6')
      | (go_at_call 183; ((with_reducible refine (CL.out _ hg6').mono ?_)); rintro e w7 ⟨t7, b7, rfl, hn7, hb7⟩; have HN7 := Lib.hid hn7; have HB7 := Lib.hid hb7; clear hn7 hb7)
    go_ret2
    rw [hr]
    exact ⟨_, _, rfl, HN7.out, HM6.out.below HB7.out, UP.out _ (grown_step hg6' (grown_of_below HB7.out mb))⟩
  · have hr := HR1.out hx0
    have g1 : (x == 0) = false := by simpa using hx0
    go_wp2_with first
      | (go_at_call 366; ((with_reducible refine (q1 _ _).mono ?_)); rintro e w1 ⟨rfl, rfl⟩)
      | (go_at_call 46; ((with_reducible refine (CV.out).mono ?_)); rintro e w1 ⟨rfl, hm1, hg1⟩; have HM1 := Lib.hid hm1; clear hm1; obtain ⟨t0, t1, t2, t3⟩ := HC.out _ hg1)
      | (go_at_call 44; ((with_reducible refine (CH.out _ hg1).mono ?_)); rintro e w2 ⟨rfl, rfl⟩)
      | (go_at_call 45; ((with_reducible refine (CP.out _ hg1).mono ?_)); rintro e w3 ⟨kp3, kc3, vp3, vc3, rfl, hk3, hv3, hb3⟩; have HK3 := Lib.hid hk3; have HV3 := Lib.hid hv3; have hg5 := grown_new hg1 hb3 (.cells #[.slice kp3 k'.length kc3, .slice vp3 v'.length vc3] 61); obtain ⟨u0, u1, u2, u3⟩ := HC.out _ hg5; have HM5 := Lib.hid ((HM1.out.below hb3).below ((Below.refl _ _).alloc (Nat.le_refl _) (.cells #[.slice kp3 k'.length kc3, .slice vp3 v'.length vc3] 61))); have HK5 := Lib.hid (HK3.out.below ((Below.refl _ _).alloc (Nat.le_refl _) (.cells #[.slice kp3 k'.length kc3, .slice vp3 v'.length vc3] 61))); have HV5 := Lib.hid (HV3.out.below ((Below.refl _ _).alloc (Nat.le_refl _) (.cells #[.slice kp3 k'.length kc3, .slice vp3 v'.length vc3] 61))); have n3 := Lib.hid (show mb ≠ some w3.heap.size from fun e => by have := (HM1.out.below hb3).lt _ e; omega); clear hk3 hv3 hb3)
      | (go_at_call 47; ((with_reducible refine (CC.out _ _ _ hg5 HM5.out HK5.out).mono ?_)); rintro e w6 ⟨rfl, hm6, hg6⟩; have HM6 := Lib.hid hm6; have hg6' := grown_step hg5 hg6; clear hm6; obtain ⟨x0, x1, x2, x3⟩ := HC.out _ hg6')
    have HT := Lib.hid (show ∀ w', w6.grownBy w' mb → (w'.cell? ⟨w.heap.size, 0, none⟩ = some (.int .u64 (h : Int)) ∧ w'.cell? ⟨w.heap.size, 1, none⟩ = some (.slice kp k.length kc) ∧ w'.cell? ⟨w.heap.size, 2, none⟩ = some (.slice vp v.length vc) ∧ w'.cell? ⟨w3.heap.size, 0, none⟩ = some (.slice kp3 k'.length kc3) ∧ w'.cell? ⟨w3.heap.size, 1, none⟩ = some (.slice vp3 v'.length vc3)) from fun w' hg => by
      have h1 := HC.out _ (grown_trans hg6' hg)
      have h2 := grown_row hg (grown_row hg6 (heap_alloc_new w3 _) n3.out) n3.out
      exact ⟨h1.1, h1.2.1, h1.2.2.1, cell_of_row w' _ 0 _ _ (0, 0) h2, cell_of_row w' _ 1 _ _ (0, 0) h2⟩)
    have HP := Lib.hid (show IsPs (w6.alloc (.cells #[.slice kp3 k'.length kc3, .slice vp3 v'.length vc3] 61)).drew (fun _ => True) (some ⟨w6.heap.size, 0, none⟩) 1 [(k', v')] from
      IsPs.one (x := (k', v')) (w := (w6.alloc _).drew) (heap_alloc_new w6 _) trivial (((HK5.out.grown ho hg6).below ((Below.refl w6.heap.size w6).alloc (Nat.le_refl _) _).drew).mono fun _ _ _ => trivial) (((HV5.out.grown ho hg6).below ((Below.refl w6.heap.size w6).alloc (Nat.le_refl _) _).drew).mono fun _ _ _ => trivial))
    have hg60 := grown_dr w6 mb
    have hg7 := World.grownBy_alloc w6 (.cells #[.slice kp3 k'.length kc3, .slice vp3 v'.length vc3] 61) mb
    have hg7' := grown_step hg7 (grown_dr _ _)
    go_region_held3 (fun w' => w'.cell? ⟨w.heap.size, 0, none⟩ = some (.int .u64 (h : Int)) ∧ w'.cell? ⟨w.heap.size, 1, none⟩ = some (.slice kp k.length kc) ∧ w'.cell? ⟨w.heap.size, 2, none⟩ = some (.slice vp v.length vc) ∧ w'.cell? ⟨w3.heap.size, 0, none⟩ = some (.slice kp3 k'.length kc3) ∧ w'.cell? ⟨w3.heap.size, 1, none⟩ = some (.slice vp3 v'.length vc3))
      (first | exact HT.out _ (by assumption) | fail)
      (first | (go_at_call 93; ((with_reducible refine (CFr.out _ _ (grown_step hg6' hg7') HP.out).mono ?_)); rintro e w8 ⟨q8, rfl, ht8, hb8⟩; have HT8 := Lib.hid ht8; have HB8 := Lib.hid hb8; have hg8 := grown_step hg7' (grown_of_below hb8 mb); clear ht8 hb8) | (go_at_call 20; ((with_reducible refine (CPu.out _ _ (grown_step hg6' hg8) HT8.out).mono ?_)); rintro e w9 ⟨b9, rfl, ht9, hm9, hg9⟩; have HT9 := Lib.hid ht9; have HB9 := Lib.hid (below_of_grown hg9); have hg9' := grown_step hg8 (grown_of_below (below_of_grown hg9) mb); clear ht9 hm9 hg9) | (go_at_call 182; ((with_reducible refine (CB.out _ _ hx0 (grown_step hg6' hg9') HT9.out).mono ?_)); rintro e w10 ⟨b10, rfl, hn10, hb10⟩; have HN10 := Lib.hid hn10; have HB10 := Lib.hid hb10; have hg10 := grown_step hg9' (grown_of_below hb10 mb); clear hn10 hb10) | fail)
    go_wp2
    go_ret2
    rw [hr]
    exact ⟨_, _, rfl, HN10.out, (((HM6.out.below ((Below.refl w6.heap.size w6).alloc (Nat.le_refl _) (.cells #[.slice kp3 k'.length kc3, .slice vp3 v'.length vc3] 61)).drew).below HB8.out).below HB9.out).below HB10.out, UP.out _ (grown_step hg6' hg10)⟩
set_option maxHeartbeats 2000000 in
set_option maxRecDepth 100000 in
theorem intoBucketFork (w : World) (D : Nat → Prop) (hD : ∀ j, w.heap.size ≤ j → D j) {mb : Option Nat} (ho : Off D mb) {vi c g h L b : Nat} (hm : Met w mb vi c) {kp vp : Option Addr} {kc vc : Nat} {k v : List UInt8} {t : T} (hi : InP w mb kp vp kc vc k v)
    (hx : N.At w D (.bucket g t) (ifp 226 b)) (hg : g < 18446744073709551616) (hh : h < 18446744073709551616) (hne : g ≠ h) (hL : L ≤ 13) (hsz : t.size < 1048576) (hp : ∃ j, L ≤ j ∧ j < 13 ∧ chunkM g j ≠ chunkM h j) :
    Calls Tryz.prog 108 #[putV h kp kc k vp vc v mb, ifp 226 b, .int .i64 (L : Int)] w (IntoR D (forkN (13 - L) (.bucket g t) g (.leaf h k v) h L, true) mb vi c w) := by
  obtain ⟨W2, hW2⟩ : ∃ x, x = w.alloc (putRow h kp kc k vp vc v mb) := ⟨_, rfl⟩
  have hB : Below w.heap.size w W2 := by rw [hW2]; exact (Below.refl _ w).alloc (Nat.le_refl _) _
  have r0 : W2.heap[w.heap.size]? = some (putRow h kp kc k vp vc v mb) := by rw [hW2]; exact heap_alloc_new _ _
  have hml := hm.lt
  have n0 : mb ≠ some w.heap.size := fun e => by have := hml _ e; omega
  have hgB := grown_of_below hB mb
  have HC := Lib.hid (show ∀ w', W2.grownBy w' mb → (w'.cell? ⟨w.heap.size, 0, none⟩ = some (.int .u64 (h : Int)) ∧ w'.cell? ⟨w.heap.size, 1, none⟩ = some (.slice kp k.length kc) ∧ w'.cell? ⟨w.heap.size, 2, none⟩ = some (.slice vp v.length vc) ∧ w'.cell? ⟨w.heap.size, 3, none⟩ = some (.pointer (mptr mb))) from fun w' hg => putAt_of (grown_row hg r0 n0))
  have up : ∀ w', W2.grownBy w' mb → w.grownBy w' mb := fun w' hg => grown_trans hgB hg
  have hD' : ∀ w', W2.grownBy w' mb → ∀ j, w'.heap.size ≤ j → D j := fun w' hg j hj => hD j (Nat.le_trans (up w' hg).size hj)
  have hkl := hi.kl
  have hvl := hi.vl
  have HM := Lib.hid (hm.below hB)
  have CH := Lib.hid (show ∀ w', W2.grownBy w' mb → Calls Tryz.prog 44 #[ifp 226 b] w' (fun e w'' => e = .returned (.tuple #[.int .u64 (g : Int), .bool true]) ∧ w' = w'') from fun w' hg => nodeHash w' (hx.grown ho (up w' hg)))
  have CL := Lib.hid (show ∀ w', W2.grownBy w' mb → Calls Tryz.prog 183 #[.int .u64 (h : Int), pairV kp kc k vp vc v] w' _ from fun w' hg => nodeLeaf w' D (hD' w' hg) h (hi.grown (up w' hg)).ik.b (hi.grown (up w' hg)).iv.b (by omega) (by omega))
  have CF := Lib.hid (show ∀ w' tb bb, W2.grownBy w' mb → N.At w' D (.leaf h k v) (ifp tb bb) → Calls Tryz.prog 185 #[ifp 226 b, .int .u64 (g : Int), ifp tb bb, .int .u64 (h : Int), .int .i64 (L : Int)] w' _ from fun w' tb bb hg' hb => graftFork D hg hh (by simp [N.count]; omega) (13 - L) L w' (hD' w' hg') (hx.grown ho (up w' hg')) hb (by omega) hp)
  have UP := Lib.hid up
  have q0 := mKind226
  have q1 := kindBucket
  have q2 := nil42
  have hg0 := grown_rfl W2 mb
  have g0 : ((g : Int) != (h : Int)) = true := by simp; omega
  clear hi hx hm hD hD' up hp hB hgB r0
  go_enter Tryz.func108, Tryz.ntmps108
  go_wp2_with fail
  rw [← hW2]
  clear hW2
  obtain ⟨s0, s1, s2, s3⟩ := HC.out _ hg0
  go_wp2_with first
    | (go_at_call 368; ((with_reducible refine (q1 _ _).mono ?_)); rintro e w1 ⟨rfl, rfl⟩)
    | (go_at_call 44; ((with_reducible refine (CH.out _ hg0).mono ?_)); rintro e w2 ⟨rfl, rfl⟩)
  have hg3 := grown_step hg0 (grown_dr _ _)
  go_region_held3 (fun w' => w'.cell? ⟨w.heap.size, 0, none⟩ = some (.int .u64 (h : Int)) ∧ w'.cell? ⟨w.heap.size, 1, none⟩ = some (.slice kp k.length kc) ∧ w'.cell? ⟨w.heap.size, 2, none⟩ = some (.slice vp v.length vc))
    (first | exact ⟨(HC.out _ (by assumption)).1, (HC.out _ (by assumption)).2.1, (HC.out _ (by assumption)).2.2.1⟩ | fail)
    (first | (go_at_call 183; ((with_reducible refine (CL.out _ hg3).mono ?_)); rintro e w4 ⟨t4, b4, rfl, hn4, hb4⟩; have HN4 := Lib.hid hn4; have HB4 := Lib.hid hb4; have hg4 := grown_step hg3 (grown_of_below hb4 mb); clear hn4 hb4) | (go_at_call 185; ((with_reducible refine (CF.out _ _ _ hg4 HN4.out).mono ?_)); rintro e w5 ⟨b5, rfl, hn5, hb5⟩; have HN5 := Lib.hid hn5; have HB5 := Lib.hid hb5; have hg5 := grown_step hg4 (grown_of_below hb5 mb); clear hn5 hb5) | fail)
  go_wp2
  go_ret2
  exact ⟨308, _, rfl, HN5.out, (HM.out.dr.below HB4.out).below HB5.out, UP.out _ hg5⟩
set_option maxHeartbeats 2000000 in
set_option maxRecDepth 100000 in
theorem intoBucketSame (w : World) (D : Nat → Prop) (hD : ∀ j, w.heap.size ≤ j → D j) {mb : Option Nat} (ho : Off D mb) {vi c h L b : Nat} (hm : Met w mb vi c) {kp vp : Option Addr} {kc vc : Nat} {k v : List UInt8} {t : T} (hi : InP w mb kp vp kc vc k v)
    (hx : N.At w D (.bucket h t) (ifp 226 b)) (hb : t.Bal) (hts : ∀ x ∈ t.list, x.1.length ≤ 1000000 ∧ x.2.length ≤ 1000000) (h2 : 2 ≤ t.size) (hsz : t.size < 1000000) (hvi : vi + t.size < 1000000000000) (hci : c + t.size < 1000000000000) :
    Calls Tryz.prog 108 #[putV h kp kc k vp vc v mb, ifp 226 b, .int .i64 (L : Int)] w (IntoR D (.bucket h (putT k v t), decide (t.size < (putT k v t).size)) mb (vi + pathT k t) (c + pathT k t) w) := by
  obtain ⟨W2, hW2⟩ : ∃ x, x = w.alloc (putRow h kp kc k vp vc v mb) := ⟨_, rfl⟩
  have hB : Below w.heap.size w W2 := by rw [hW2]; exact (Below.refl _ w).alloc (Nat.le_refl _) _
  have r0 : W2.heap[w.heap.size]? = some (putRow h kp kc k vp vc v mb) := by rw [hW2]; exact heap_alloc_new _ _
  have hml := hm.lt
  have n0 : mb ≠ some w.heap.size := fun e => by have := hml _ e; omega
  have hgB := grown_of_below hB mb
  have HC := Lib.hid (show ∀ w', W2.grownBy w' mb → (w'.cell? ⟨w.heap.size, 0, none⟩ = some (.int .u64 (h : Int)) ∧ w'.cell? ⟨w.heap.size, 1, none⟩ = some (.slice kp k.length kc) ∧ w'.cell? ⟨w.heap.size, 2, none⟩ = some (.slice vp v.length vc) ∧ w'.cell? ⟨w.heap.size, 3, none⟩ = some (.pointer (mptr mb))) from fun w' hg => putAt_of (grown_row hg r0 n0))
  have up : ∀ w', W2.grownBy w' mb → w.grownBy w' mb := fun w' hg => grown_trans hgB hg
  have hD' : ∀ w', W2.grownBy w' mb → ∀ j, w'.heap.size ≤ j → D j := fun w' hg j hj => hD j (Nat.le_trans (up w' hg).size hj)
  have hkl := hi.kl
  have hvl := hi.vl
  have hps := (putT_bal k v hb).2
  have HM2 := Lib.hid (hm.below hB)
  have CH := Lib.hid (show ∀ w', W2.grownBy w' mb → Calls Tryz.prog 44 #[ifp 226 b] w' (fun e w'' => e = .returned (.tuple #[.int .u64 (h : Int), .bool true]) ∧ w' = w'') from fun w' hg => nodeHash w' (hx.grown ho (up w' hg)))
  have CP := Lib.hid (show ∀ w', W2.grownBy w' mb → Calls Tryz.prog 45 #[ifp 226 b] w' _ from fun w' hg => nodePairNo w' D 226 b (.inl rfl))
  have CT := Lib.hid (show ∀ w', W2.grownBy w' mb → Calls Tryz.prog 48 #[ifp 226 b] w' _ from fun w' hg => nodeTree w' (hx.grown ho (up w' hg)))
  have CPu := Lib.hid (show ∀ w' p, W2.grownBy w' mb → Met w' mb vi c → TreeAt w' D p t → Calls Tryz.prog 20 #[.pointer p, pairV kp kc k vp vc v, .pointer (mptr mb)] w' (PutR D k v t mb vi c w') from fun w' p hg hmm ht => treePut w' D (hD' w' hg) ho hmm hb (by omega) hvi hci ht (hi.grown (up w' hg)))
  have CB := Lib.hid (show ∀ w' p, W2.grownBy w' mb → TreeAt w' D p (putT k v t) → Calls Tryz.prog 182 #[.int .u64 (h : Int), .pointer p] w' _ from fun w' p hg ht => nodeBucket2 w' D (hD' w' hg) h ht (putT_small hb hkl hvl hts) (by omega) (by omega))
  have CS := Lib.hid (fun (w' : World) (p : Option Addr) (t : T) (ht : TreeAt w' D p t) => treeSize w' ht)
  have UP := Lib.hid up
  have q0 := mKind226
  have q1 := kindBucket
  have q2 := nil42
  have hg0 := grown_rfl W2 mb
  have gd : decide ((t.size : Int) < ((putT k v t).size : Int)) = decide (t.size < (putT k v t).size) := by simp
  clear hi hx hm hD hD' up hB hgB r0 hb hts hps
  go_enter Tryz.func108, Tryz.ntmps108
  go_wp2_with fail
  rw [← hW2]
  clear hW2
  obtain ⟨s0, s1, s2, s3⟩ := HC.out _ hg0
  go_wp2_with first
    | (go_at_call 368; ((with_reducible refine (q1 _ _).mono ?_)); rintro e w1 ⟨rfl, rfl⟩)
    | (go_at_call 44; ((with_reducible refine (CH.out _ hg0).mono ?_)); rintro e w2 ⟨rfl, rfl⟩)
    | (go_at_call 45; ((with_reducible refine (CP.out _ hg0).mono ?_)); rintro e w3 ⟨rfl, hb3⟩; have hg5 := grown_new hg0 hb3 (.cells #[.slice none 0 0, .slice none 0 0] 61); obtain ⟨u0, u1, u2, u3⟩ := HC.out _ hg5; have HM5 := Lib.hid ((HM2.out.below hb3).below ((Below.refl _ _).alloc (Nat.le_refl _) (.cells #[.slice none 0 0, .slice none 0 0] 61))); clear hb3)
    | (go_at_call 48; ((with_reducible refine (CT.out _ hg5).mono ?_)); rintro e w4 ⟨p4, rfl, ht4, rfl⟩; have HT4 := Lib.hid ht4; clear ht4)
    | (go_at_call 20; ((with_reducible refine (CPu.out _ _ hg5 HM5.out HT4.out).mono ?_)); rintro e w6 ⟨b6, rfl, ht6, hm6, hg6⟩; have HT6 := Lib.hid ht6; have HT6o := Lib.hid (HT4.out.grown ho hg6); have HM6 := Lib.hid hm6; have hg6' := grown_step hg5 hg6; obtain ⟨x0, x1, x2, x3⟩ := HC.out _ hg6'; clear ht6 hm6)
    | (go_at_call 182; ((with_reducible refine (CB.out _ _ hg6' HT6.out).mono ?_)); rintro e w7 ⟨b7, rfl, hn7, hb7⟩; have HN7 := Lib.hid hn7; have HB7 := Lib.hid hb7; have HT7 := Lib.hid (HT6.out.below hb7); have HT7o := Lib.hid (HT6o.out.below hb7); clear hn7 hb7)
    | (go_at_call 64; first | (((with_reducible refine (CS.out _ _ _ HT7.out).mono ?_)); rintro e w8 ⟨rfl, rfl⟩) | (((with_reducible refine (CS.out _ _ _ HT7o.out).mono ?_)); rintro e w8 ⟨rfl, rfl⟩) | fail)
  go_ret2
  exact ⟨_, _, rfl, HN7.out, HM6.out.below HB7.out, UP.out _ (grown_step hg6' (grown_of_below HB7.out mb))⟩
end Go.Proofs.YtmbiiemlepfoaaaGreatDoor
namespace Go.Proofs.YtmbiiemlepfoaaaGreatDoor
set_option linter.unusedVariables false
theorem counts_app : ∀ (a b : List N), N.counts (a ++ b) = N.counts a + N.counts b
  | [], b => by simp [N.counts]
  | x :: xs, b => by simp only [List.cons_append, N.counts, counts_app xs b]; omega
theorem bitsUp_succ (k m : Nat) : bitsUp (k + 1) m = bitsUp k m ++ (if m.testBit k then [k] else []) := by
  unfold bitsUp
  rw [List.range_succ, List.filter_append]
  by_cases h : m.testBit k = true <;> simp [h]
def oldC (m : Nat) (ks : List N) (c : Nat) : Nat := match kidN m ks c with | some n => n.count | none => 0
theorem with_counts_up {m c : Nat} {ks : List N} (k : N) (hl : ks.length = cntUp 32 m) : ∀ n, n ≤ 32 →
    N.counts ((bitsUp n (m ||| 2 ^ c)).map fun i => if i = c then k else (ks[cntUp i m]?).getD k) + (if c < n then oldC m ks c else 0) = N.counts (ks.take (cntUp n m)) + (if c < n then k.count else 0)
  | 0, _ => by simp [bitsUp, cntUp, N.counts]
  | n + 1, hn => by
    have ih := with_counts_up (c := c) k hl n (by omega)
    rw [bitsUp_succ, List.map_append, counts_app, cnt_succ, with_bit]
    by_cases hnc : n = c
    · subst hnc
      simp only [Nat.lt_irrefl, if_false] at ih
      simp only [Nat.lt_succ_self, if_true]
      simp only [decide_true, Bool.or_true, if_true, List.map_cons, List.map_nil, counts1]
      unfold oldC kidN
      by_cases hb : m.testBit n = true
      · rw [if_pos hb, if_pos hb]
        have hlt := cnt_lt (i := n) (by omega) hb
        have hg : ks[cntUp n m]? = some (ks[cntUp n m]'(by omega)) := List.getElem?_eq_getElem (by omega)
        rw [hg]
        dsimp only
        have ht := counts_take hg
        omega
      · rw [if_neg hb, if_neg hb]
        dsimp only
        rw [Nat.add_zero (cntUp n m)]
        omega
    · have e1 : (c < n + 1) ↔ (c < n) := by omega
      simp only [e1]
      by_cases hb : m.testBit n = true
      · have hlt := cnt_lt (i := n) (by omega) hb
        have hg : ks[cntUp n m]? = some (ks[cntUp n m]'(by omega)) := List.getElem?_eq_getElem (by omega)
        have ht := counts_take hg
        simp only [hb, Bool.true_or, if_true, List.map_cons, List.map_nil, counts1, if_neg hnc, hg, Option.getD_some]
        omega
      · simp only [hb, hnc, decide_false, Bool.or_false, Bool.false_or, if_false, List.map_nil, N.counts]
        simp only [Bool.false_eq_true, if_false, List.map_nil, N.counts]
        omega
theorem with_counts {m c : Nat} {ks : List N} (k : N) (hc : c < 32) (hl : ks.length = cntUp 32 m) : N.counts (withN m ks c k) + oldC m ks c = N.counts ks + k.count := by
  have h := with_counts_up (c := c) k hl 32 (by omega)
  rw [if_pos hc, if_pos hc, ← hl, List.take_length] at h
  exact h
theorem into_count {h : Nat} {k v : List UInt8} : ∀ (n : N) (L : Nat), n.fit L → (n.into h k v L).1.count ≤ n.count + 1 := by
  refine N.ind ?_ ?_ ?_
  · intro g k' v' L hf
    by_cases e : g = h
    · simp only [N.into, if_pos e]
      split
      · simp [N.count]
      · rename_i h2
        simp only [N.count]
        have := put_one (v := v) (v' := v') h2
        omega
    · simp only [N.into, if_neg e]
      exact fork_count _ _ _ _ _ _
  · intro g t L hf
    unfold N.fit at hf
    by_cases e : g = h
    · simp only [N.into, if_pos e, N.count]
      have := (putT_bal k v hf.2.1).2
      omega
    · simp only [N.into, if_neg e]
      exact fork_count _ _ _ _ _ _
  · intro m ks ih L hf
    unfold N.fit at hf
    obtain ⟨h1, h2, h3, h4, h5, h6⟩ := hf
    rw [fits_iff] at h5
    rw [into_branch]
    simp only [N.count]
    have hw := with_counts (intoO h k v (kidN m ks (chunkM h L)) (L + 1)).1 (chunkM_lt h L) h3
    have : (intoO h k v (kidN m ks (chunkM h L)) (L + 1)).1.count ≤ oldC m ks (chunkM h L) + 1 := by
      unfold oldC
      rcases hk : kidN m ks (chunkM h L) with _ | n
      · simp [intoO, N.count]
      · have hm : n ∈ ks := by
          unfold kidN at hk
          split at hk
          · exact List.mem_of_getElem? hk
          · cases hk
        exact ih n hm (L + 1) (h5 n hm)
    omega
end Go.Proofs.YtmbiiemlepfoaaaGreatDoor
namespace Go.Proofs.YtmbiiemlepfoaaaGreatDoor
open Go.RowKit
set_option linter.unusedVariables false
def IntoOk (D : Nat → Prop) (mb : Option Nat) (h : Nat) (k v : List UInt8) (n : Option N) (L : Nat) : Prop :=
  ∀ (w : World) (hD : ∀ j, w.heap.size ≤ j → D j) (x : Value) (vi c : Nat) (kp vp : Option Addr) (kc vc : Nat), NodeAt w D n x → Met w mb vi c → vi < 999980000000 + L → c < 999980000000 → InP w mb kp vp kc vc k v → 2 < w.heap.size → TabAt 2 Lib.deBruijn32tab w →
    Calls Tryz.prog 108 #[putV h kp kc k vp vc v mb, x, .int .i64 (L : Int)] w (IntoR D (intoO h k v n L) mb (vi + (intoSO h k n L).1) (c + (intoSO h k n L).2) w)
theorem tab_grown {w w' : World} {mb : Option Nat} (h : TabAt 2 Lib.deBruijn32tab w) (h2 : 2 < w.heap.size) (hm : mb ≠ some 2) (g : w.grownBy w' mb) : TabAt 2 Lib.deBruijn32tab w' := tab_keep h (g.block 2 h2 fun e => hm e.symm)
set_option maxHeartbeats 2000000 in
set_option maxRecDepth 100000 in
theorem putBranch (w : World) (D : Nat → Prop) (hD : ∀ j, w.heap.size ≤ j → D j) {mb : Option Nat} (ho : Off D mb) (hm2 : mb ≠ some 2) {vi c h L b m : Nat} {ks : List N} (hm : Met w mb vi c) {kp vp : Option Addr} {kc vc : Nat} {k v : List UInt8} (hi : InP w mb kp vp kc vc k v)
    (hx : N.At w D (.branch m ks) (ifp 308 b)) (hf : (N.branch m ks).fit L) (hh : h < 18446744073709551616) (hsz : N.counts ks < 1048576) (h2 : 2 < w.heap.size) (hT : TabAt 2 Lib.deBruijn32tab w)
    (IH : IntoOk D mb h k v (kidN m ks (chunkM h L)) (L + 1)) (hvi : vi < 999980000000 + L) (hci : c < 999980000000) :
    Calls Tryz.prog 184 #[putV h kp kc k vp vc v mb, ifp 308 b, .int .i64 (L : Int)] w (IntoR D (.branch (m ||| 2 ^ chunkM h L) (withN m ks (chunkM h L) (intoO h k v (kidN m ks (chunkM h L)) (L + 1)).1), (intoO h k v (kidN m ks (chunkM h L)) (L + 1)).2) mb
      (vi + ((intoSO h k (kidN m ks (chunkM h L)) (L + 1)).1 + 1)) (c + (intoSO h k (kidN m ks (chunkM h L)) (L + 1)).2) w) := by
  obtain ⟨W2, hW2⟩ : ∃ x, x = w.alloc (putRow h kp kc k vp vc v mb) := ⟨_, rfl⟩
  have hB : Below w.heap.size w W2 := by rw [hW2]; exact (Below.refl _ w).alloc (Nat.le_refl _) _
  have r0 : W2.heap[w.heap.size]? = some (putRow h kp kc k vp vc v mb) := by rw [hW2]; exact heap_alloc_new _ _
  have hml := hm.lt
  have n0 : mb ≠ some w.heap.size := fun e => by have := hml _ e; omega
  have hgB := grown_of_below hB mb
  have HC := Lib.hid (show ∀ w', W2.grownBy w' mb → (w'.cell? ⟨w.heap.size, 0, none⟩ = some (.int .u64 (h : Int)) ∧ w'.cell? ⟨w.heap.size, 1, none⟩ = some (.slice kp k.length kc) ∧ w'.cell? ⟨w.heap.size, 2, none⟩ = some (.slice vp v.length vc) ∧ w'.cell? ⟨w.heap.size, 3, none⟩ = some (.pointer (mptr mb))) from fun w' hg => putAt_of (grown_row hg r0 n0))
  have up : ∀ w', W2.grownBy w' mb → w.grownBy w' mb := fun w' hg => grown_trans hgB hg
  have hD' : ∀ w', W2.grownBy w' mb → ∀ j, w'.heap.size ≤ j → D j := fun w' hg j hj => hD j (Nat.le_trans (up w' hg).size hj)
  have hf' := hf
  unfold N.fit at hf
  obtain ⟨f1, f2, f3, f4, f5, f6⟩ := hf
  rw [fits_iff] at f5
  have hch := chunkM_lt h L
  have CV := Lib.hid (metVisit W2 (hm.below hB) (by omega))
  have CH := Lib.hid (fun w => chunkAt w h L hh)
  have CK := Lib.hid (show ∀ w', W2.grownBy w' mb → Calls Tryz.prog 103 #[ifp 308 b, .int .i64 (chunkM h L : Int)] w' _ from fun w' hg => nodeKid w' (hx.grown ho (up w' hg)) f1 f3 hch)
  have CI := Lib.hid (show ∀ w' x, W2.grownBy w' mb → NodeAt w' D (kidN m ks (chunkM h L)) x → Met w' mb (vi + 1) c → Calls Tryz.prog 108 #[putV h kp kc k vp vc v mb, x, .int .i64 ((L : Int) + 1)] w' _ from fun w' x hg hn hmm => by
    have := IH w' (hD' w' hg) x (vi + 1) c kp vp kc vc hn hmm (by omega) (by omega) (hi.grown (up w' hg)) (Nat.lt_of_lt_of_le h2 (up w' hg).size) (tab_grown hT h2 hm2 (up w' hg))
    rwa [show ((L + 1 : Nat) : Int) = (L : Int) + 1 from by omega] at this)
  have hcn : N.counts (withN m ks (chunkM h L) (intoO h k v (kidN m ks (chunkM h L)) (L + 1)).1) < 4611686018427387904 := by
    have h1 := into_count (h := h) (k := k) (v := v) (N.branch m ks) L hf'
    rw [into_branch] at h1
    simp only [N.count] at h1
    omega
  have CW := Lib.hid (show ∀ w' kt kb, W2.grownBy w' mb → N.At w' D (intoO h k v (kidN m ks (chunkM h L)) (L + 1)).1 (ifp kt kb) → Calls Tryz.prog 252 #[ifp 308 b, .int .i64 (chunkM h L : Int), ifp kt kb] w' _ from fun w' kt kb hg hn => graftWith w' D (hD' w' hg) (hx.grown ho (up w' hg)) hf' hch hn (Nat.lt_of_lt_of_le h2 (up w' hg).size) (tab_grown hT h2 hm2 (up w' hg)) hcn)
  have g5 : IntKind.i64.wrap ((L : Int) + 1) = (L : Int) + 1 := IntWalk.i64_in _ (by omega)
  have UP := Lib.hid up
  have hg0 := grown_rfl W2 mb
  have ea : vi + ((intoSO h k (kidN m ks (chunkM h L)) (L + 1)).1 + 1) = vi + 1 + (intoSO h k (kidN m ks (chunkM h L)) (L + 1)).1 := by omega
  rw [ea]
  generalize withN m ks (chunkM h L) (intoO h k v (kidN m ks (chunkM h L)) (L + 1)).1 = wn at *
  generalize intoO h k v (kidN m ks (chunkM h L)) (L + 1) = r at *
  generalize intoSO h k (kidN m ks (chunkM h L)) (L + 1) = s at *
  generalize kidN m ks (chunkM h L) = kid at *
  generalize chunkM h L = ch at *
  generalize m ||| 2 ^ ch = m' at *
  clear hi hx hm hD hD' up hB hgB r0 IH hT f1 f2 f3 f4 f5 f6 hf' hcn ea hsz
  go_enter Tryz.func184, Tryz.ntmps184
  go_wp2_with fail
  rw [← hW2]
  clear hW2
  obtain ⟨s0, s1, s2, s3⟩ := HC.out _ hg0
  go_wp2_with first
    | (go_at_call 46; ((with_reducible refine (CV.out).mono ?_)); rintro e w1 ⟨rfl, hm1, hg1⟩; have HM1 := Lib.hid hm1; clear hm1; obtain ⟨t0, t1, t2, t3⟩ := HC.out _ hg1)
    | (go_at_call 104; ((with_reducible refine (CH.out _).mono ?_)); rintro e w2 ⟨rfl, rfl⟩)
    | (go_at_call 103; ((with_reducible refine (CK.out _ hg1).mono ?_)); rintro e w3 ⟨xv, rfl, hk3, nn, rfl⟩; have HK3 := Lib.hid hk3; have hg3 := grown_step hg1 (grown_drewN _ mb nn); have HM3 := Lib.hid (show Met (w1.drewN nn) mb (vi + 1) c from HM1.out); have HK3' := Lib.hid (hk3.below (below_drewN _ _ nn)); obtain ⟨u0, u1, u2, u3⟩ := HC.out _ hg3; clear hk3)
    | (go_at_call 108; ((with_reducible refine (CI.out _ _ hg3 HK3'.out HM3.out).mono ?_)); rintro e w4 ⟨t4, a4, rfl, hn4, hm4, hg4⟩; have HN4 := Lib.hid hn4; have HM4 := Lib.hid hm4; have hg4' := grown_step hg3 hg4; clear hn4 hm4)
    | (go_at_call 252; ((with_reducible refine (CW.out _ _ _ hg4' HN4.out).mono ?_)); rintro e w5 ⟨b5, rfl, hn5, hb5⟩; have HN5 := Lib.hid hn5; have HB5 := Lib.hid hb5; clear hn5 hb5)
  go_ret2
  exact ⟨308, _, rfl, HN5.out, HM4.out.below HB5.out, UP.out _ (grown_step hg4' (grown_of_below HB5.out mb))⟩
end Go.Proofs.YtmbiiemlepfoaaaGreatDoor
